/- Part. -/
import Derived.Test.YtbnkhmoelnfjoaaGreatP1
import Derived.Test.YtbnkhmoelnfjoaaGreatP3
import Derived.Test.YtbnkhmoelnfjoaaGreatProg
import Derived.Test.YtbnkhmoelnfjoaaGreatP2
import Derived.KernelRfl
import Derived.Shelf.Sort.Plain
import Derived.Shelf.Slices.CompactI
import Derived.Shelf.Slices.In.SortNone
import Derived.Ground.NamesProg
import Derived.Ground.Names2Prog
import Derived.WalkKit
import Derived.Deep.LoopGhost
import Derived.Deep.RegionLaw
import Derived.Lib.SliceRun
import Derived.Lib.Overlaps
import Derived.Lib.AppendZeros
import Derived.Lib.AppendZerosOnto
import Derived.Laws.Externs
import Derived.Laws.NewBlocks
import Derived.Deep.AppendSrc
set_option linter.all false
set_option maxRecDepth 1000000
open Option renaming some->V,none->G
open Bool renaming false->B,true->M
open Decidable renaming decide->U
open ByteArray renaming mk->xp,empty->vp
open Go renaming Value->BL,Code->Mn,TypeId->ll,callsIn_wide->ab6,Operand->C'
open Nat renaming beq->iX,ble->kN,mul->A',add->p8,succ->J'
open Go.Builtin renaming zeroCells->aa5,copy_->aa4,append_->aa7,firstCells->ab5
open Go.Addr renaming add_lit->abG
open Go.World renaming frozen?->ac1,frozen?_setCells->ac7,cell?_setCells_out->ac9
open Go.Sem renaming run_bind->B',run_pure->E2
open Go.ChangeMaps renaming setBlock->ac5
open Go.Result renaming andThen_ok->D'
open Go.CallsIn renaming mono->aa2
open List renaming replicate->P',range->aa3,length->aa8
open Go.Lib renaming compareBytes->aa0
noncomputable section
section
namespace Go.bL
open Go.RowKit
variable {E:Env} {nt:Nat} {g g1 g2:Gh} {m m1 m2 m':MS} {a a1 a2:Act} {w w1 w2:World} {e:Ex} {P P1 P2:Ex->MS->Prop} {c x y:Mn}
variable {ops:eY} {o:Oper} {it:C'} {iid i:Nat} {seen:bP} {es:iC} {v:SV}
structure MS.Le (m1 m2:MS):Prop where
 T:∀x v,m1.T x=V v->m2.T x=V v
 H:∀x o,m1.H x=V o->m2.H x=V o
 nx:m1.nx=m2.nx
def Now.aAz (h:Now E nt g m a w) (k:m1.Le m):Now E nt g m1 a w:=⟨h.env,⟨h.fr.sz,λt x hx=>h.fr.tm t x (k.T t x hx)⟩,h.hr.sub k.H,λx hx=>h.fresh x (by rw[<-k.nx];exact hx)⟩
def ya.aAz (h:ya g m w a g1 m2 w1 a1) (k:m1.Le m2):ya g m w a g1 m1 w1 a1:=⟨{h.fr with own:=λb hb hm=>h.fr.own b hb (let ⟨i,o,c,h1,h2⟩:=hm;⟨i,o,c,k.H i o h1,h2⟩)},h.df,h.ro,by rw[k.nx];exact h.nx⟩
def mU (E:Env) (nt:Nat) (c:Mn) (m:MS) (P:Ex->MS->Prop):Prop:=codeOk c=M->∀(ro:cB) (k:Nat) (g:Gh) (a:Act) (w:World) (Q:Exit->Act->World->Prop),Now E nt g m a w->
 (∀g' a' w' x e m',P e m'->ExR g' e x->Now E nt g' m' a' w'->ya g m w a g' m' w' a'->Q x a' w')->wpX (wV ro) k E.P c Q a w
namespace mU
def of (h:gu E nt c m e m1) (k:m2.Le m1) (hp:P e m2):mU E nt c m P:=λok ro n g a w Q hn hq=>h ok ro n g a w Q hn λg' a' w' x hx n' t'=>hq g' a' w' x e m2 hp hx (n'.aAz k) (t'.aAz k)
def toT (h:mU E nt c m λx y=>x=e/\y=m1):gu E nt c m e m1:=λok ro n g a w Q hn hq=>h ok ro n g a w Q hn λg' a' w' x e' m' hp hx n' t'=>by
 obtain ⟨rfl,rfl⟩:=hp;exact hq g' a' w' x hx n' t'
def seq (h1:mU E nt x m P1) (h2:∀e m1,P1 e m1->(e= .normal/\mU E nt y m1 P)\/(tU e=B/\P e m1)):mU E nt (.seq x y) m P:=λok ro k g a w Q n h=>
 wpIn_seq (sW (h1 (okL ok) ro k g a w _ n λg1 a1 w1 x e m1 hp hx n1 t1=>by
  rcases h2 e m1 hp with ⟨rfl,h2⟩|⟨he,h2⟩
  ·cases hx;exact sW (h2 (okR ok) ro k g1 a1 w1 Q n1 λg2 a2 w2 y e m2 hp hy n2 t2=>h g2 a2 w2 y e m2 hp hy n2 (t1.trans t2))
  ·have:=h g1 a1 w1 x e m1 h2 hx n1 t1;cases hx<;>first|exact this|cases he))
def loop (h1:mU E nt c m P1) (h2:∀e m1,P1 e m1->(e= .normal/\mU E nt (.loop c) m1 P)\/(tU e=B/\P e m1)):mU E nt (.loop c) m P:=λok ro k g a w Q n h=>
 Cw (sW (h1 ok ro k g a w _ n λg1 a1 w1 x e m1 hp hx n1 t1=>by
  rcases h2 e m1 hp with ⟨rfl,h2⟩|⟨he,h2⟩
  ·cases hx;exact h2 ok ro k g1 a1 w1 Q n1 λg2 a2 w2 y e m2 hp hy n2 t2=>h g2 a2 w2 y e m2 hp hy n2 (t1.trans t2)
  ·have:=h g1 a1 w1 x e m1 h2 hx n1 t1;cases hx<;>first|exact this|cases he))
def block {id:Nat} (h1:mU E nt c m λe m1=>P (leave id e) m1):mU E nt (.block id c) m P:=λok ro k g a w Q n h=>
 wpIn_block (sW (h1 ok ro k g a w _ n λg1 a1 w1 x e m1 hp hx n1 t1=>by
  have key:∀y,ExR g1 (leave id e) y->Q y a1 w1:=λy hy=>h g1 a1 w1 y _ m1 hp hy n1 t1
  cases hx with
  |normal=>exact key _ .normal
  |ret=>exact key _ .ret
  |z6 hv=>exact key _ (.z6 hv)
  |exit i=>
   rw[TL] at key;show (if i=id then Q .normal a1 w1 else Q (.exit i) a1 w1)
   split
   ·rename_i hi;rw[aF hi] at key;exact key _ .normal
   ·rename_i hi;rw[aC hi] at key;exact key _ (.exit i)))
end mU
def mU.next {id:Nat} {js since last c0:Nat} (hi:ops[0]? =V o) (gC:o.op= .next it B) (hw:kq ops.toList o m.T=V M) (hd:nA nt o.dst=M) (hx:dt m.T it=V (.ptr iid 0)) (jw:m.H iid=V (.mapIter (V js) since seen last)) (aBZ:m.H js=V (.map es c0)) (hit:iterM since seen last c0 es=M) (hend:qR seen es= []->∃m1,lT E nt ops 1 ⟨eN m.T o.dst (.dq [.bool B]),m.H,m.nx⟩ m1/\P .normal m1) (TV:∀e∈qR seen es,∃m1,lT E nt ops 1 ⟨eN m.T o.dst (.dq [.bool M,e.1,e.2.1]),jB m.H (iid,V (.mapIter (V js) since (seen++ [e.2.2]) c0)),m.nx⟩ m1/\P .normal m1):mU E nt (.region id ops B) m P:=λok ro k g a w Q n h=>by
 have dz:0<ops.size:=by
  by_cases hc:0<ops.size
  ·exact hc
  ·rw[Ht (by omega)] at hi;cases hi
 refine wpIn_region ?_;show wpOpsIn (wV ro) k E.P ops Q (aa3 ops.size) a w;rw[LL,show ops.size=(ops.size-1)+1 by omega,Bu,wpOpsIn_cons]
 have hu:=tG n.fr hx;generalize hue:a.eval it=u at hu;cases hu with
 | @ptr _ _ b c hρ=>
 obtain ⟨hold,Ig⟩:=aqL hit;obtain ⟨hbs,rfl,bm,sa,h1,h2,h3⟩:=n.hr.at jw hρ;obtain ⟨bm',y,rfl,h4⟩:=h3;obtain ⟨_,ms,m1,m2⟩:=n.hr.at aBZ h4;have q6:∀z∈ms.toList,z.born<since:=λz hz=>by
  obtain ⟨e,he,h5⟩:=m2.mem z hz;rw[h5.2.2];exact hold e he
 have zj:=alJ h2 m2;refine aEy hi (QJ n.fr hw) ?_;rw[Oper.semAt_eq _ _ _ (λc' h=>by rw[gC] at h;cases h)]
 have rest:∀{m1:MS} {g1:Gh} {a1:Act} {w1:World} {m':MS},lT E nt ops 1 m1 m'->P .normal m'->Now E nt g1 m1 a1 w1->ya g m w a g1 m1 w1 a1->wpOpsIn (wV ro) k E.P ops Q (List.range' (0+1) (ops.size-1)) a1 w1:=λhT hP hn ht=>
  hT ro k _ _ _ Q hn λg2 a2 w2 n2 t2=>h g2 a2 w2 _ _ _ hP .normal n2 (ht.trans t2)
 rcases run_next_at (P:=E.P) w o.type b bm' since last sa ms c0 h1 m1 q6 Ig with ⟨h0,hn⟩|⟨e,he,w1,hw1,hn⟩
 ·obtain ⟨m',hT,hP⟩:=hend (zj.aJa.1 (uP (by simpa using h0)))
  have hex:(execOp a.eval o).run E.P w= .ok (.value (.tuple #[.bool B])) w:=by
   simp only[execOp,gC,hue,oH,B',hn,D',E2]
  rw[hex];exact rest hT hP ⟨n.env,n.fr.put hd (.dq (.cons (.bool B) .nil)),n.hr,n.fresh⟩ ⟨.refl _ _ _,put_defers _ _ _,λ_ _=>rfl,cS _⟩
 ·obtain ⟨x0,MN,aCb⟩:=zj.mem e he;obtain ⟨m',hT,hP⟩:=TV x0 MN;have hex:(execOp a.eval o).run E.P w= .ok (.value (.tuple #[.bool M,e.key,e.val])) (ac5 w1 b (.mapIter (V bm') since (sa.push e.born) c0)):=by
   simp only[execOp,gC,hue,oH,B',hn,D',E2]
  rw[hex];have Po:w1.heap=w.heap/\w1.os=w.os/\w1.tape=w.tape/\w1.output=w.output:=by
   rcases hw1 with rfl|rfl
   ·exact ⟨rfl,rfl,rfl,rfl⟩
   ·exact ⟨rfl,rfl,rfl,rfl⟩
  obtain ⟨t1,t2⟩:=HR.write n.hr (o':=.mapIter (V js) since (seen++ [x0.2.2]) c0) (w':=ac5 w1 b (.mapIter (V bm') since (sa.push e.born) c0)) jw hρ (by simp[ac5,Po.1]) (λk hk=>by simp[ac5,Po.1,Array.getElem?_setIfInBounds_ne (qp hk)])
   ⟨rfl,V bm',sa.push e.born,by simp[ac5,Po.1,hbs],by rw[Array.toList_push,h2,aCb.2.2],bm',y,rfl,h4⟩ Po.2.1 Po.2.2.1 Po.2.2.2
  exact rest hT hP ⟨n.env,n.fr.put hd (.dq (.cons (.bool M) (.cons aCb.1 (.cons aCb.2.1 .nil)))),t1,n.fresh⟩ ⟨t2,put_defers _ _ _,λ_ _=>rfl,cS _⟩
def qX.entry (hi:ops[i]? =V o) (gC:o.op= .entry it) (hw:kq ops.toList o m.T=V M) (hd:nA nt o.dst=M) (hx:dt m.T it=V (.ptr iid 0)) (hv:Nb m.H iid=V v):
  lT E nt ops (i+1) ⟨eN m.T o.dst v,m.H,m.nx⟩ m'->lT E nt ops i m m':=λhT ro k g a w Q n h=>by
 have dz:i<ops.size:=by
  by_cases hc:i<ops.size
  ·exact hc
  ·rw[Ht (by omega)] at hi;cases hi
 rw[show ops.size-i=(ops.size-(i+1))+1 by omega,Bu,wpOpsIn_cons]
 have hu:=tG n.fr hx;generalize hue:a.eval it=u at hu;cases hu with
 | @ptr _ _ b c hρ=>
 unfold Nb at hv;split at hv;rotate_left
 ·cases hv
 rename_i m0 since seen last jw;split at hv;rotate_left
 ·cases hv
 rename_i es c0 aBZ;obtain ⟨hc,Ie⟩:=aZ hv;have hc:=(beq_iff _ _).1 hc;subst hc;obtain ⟨bo,h1,h2⟩:=aq Ie;obtain ⟨_,rfl,bm,sa,q1,q2,q3⟩:=n.hr.at jw hρ;obtain ⟨bm',y',rfl,q4⟩:=q3;obtain ⟨_,ms,m1,m2⟩:=n.hr.at aBZ q4;obtain ⟨e,e1,e2⟩:=T7 m2 h2;have aK:sa.back? =V bo:=by rw[<-Array.getLast?_toList,q2];exact TM h1
 refine aEy hi (QJ n.fr hw) ?_;rw[Oper.semAt_eq _ _ _ (λc' h=>by rw[gC] at h;cases h)]
 have hf:ms.find? (·.born==bo)=V e:=by rw[<-Array.find?_toList];exact e1
 have hn:(Instr.entry (.pointer (V ⟨b,0,G⟩))).run E.P w= .ok (.tuple #[e.key,e.val]) w:=by
  simp only[Instr.entry,getObj,B',Sem.run,q1,m1,Result.andThen,aK,jJ,az,au,hf];rfl
 have hex:(execOp a.eval o).run E.P w= .ok (.value (.tuple #[e.key,e.val])) w:=by
  simp only[execOp,gC,hue,oH,B',hn,D',E2]
 rw[hex];exact hT ro k g _ w Q ⟨n.env,n.fr.put hd e2,n.hr,n.fresh⟩ λg2 a2 w2 n2 t2=>h g2 a2 w2 n2 ((⟨.refl _ _ _,put_defers _ _ _,λ_ _=>rfl,cS _⟩:ya g m w a g ⟨eN m.T o.dst v,m.H,m.nx⟩ w (a.put o.dst (.tuple #[e.key,e.val]))).trans t2)
end Go.bL
end
namespace Go.Proofs.YtbnkhmoelnfjoaaGreat
open Go.bL
def tyT:Tr TI:=aDR Tryz.prog 312
def aCq:Tr Func:=aFT Tryz.prog
def apM:acd Tryz.prog tyT aCq:=aKu 312 203 (fe:=Tryz.f203) (by kernel_rfl) (by kernel_rfl) Tryz.func203 (by kernel_rfl) (by kernel_rfl) (by kernel_rfl)
end Go.Proofs.YtbnkhmoelnfjoaaGreat
namespace Go.Proofs.YtbnkhmoelnfjoaaGreat
open Go.Shelf
def alK:Go.Shelf.Ren:=⟨fun|189=>165|125=>191|257=>190|128=>213|129=>214|294=>204|295=>205|296=>206|297=>207|298=>208|299=>209|216=>210|300=>211|301=>212|328=>222|329=>223|330=>224|331=>225|332=>226|215=>187|343=>236|n=>n,fun|28=>102|3=>3|46=>237|0=>0|51=>271|53=>273|4=>4|183=>264|182=>263|131=>218|5=>5|9=>9|218=>279|222=>191|228=>291|229=>292|n=>n,fun|n=>n⟩
def anL:Go.Proofs.Lays.n189 Tryz.prog alK:={
 mixed:=by kernel_rfl
 f125:=Tryz.func191.trans (congrArg V (by kernel_rfl))
 f128:=Tryz.func213.trans (congrArg V (by kernel_rfl))
 f129:=Tryz.func214.trans (congrArg V (by kernel_rfl))
 f189:=Tryz.func165.trans (congrArg V (by kernel_rfl))
 f215:=Tryz.func187.trans (congrArg V (by kernel_rfl))
 f216:=Tryz.func210.trans (congrArg V (by kernel_rfl))
 f257:=Tryz.func190.trans (congrArg V (by kernel_rfl))
 f294:=Tryz.func204.trans (congrArg V (by kernel_rfl))
 f295:=Tryz.func205.trans (congrArg V (by kernel_rfl))
 f296:=Tryz.func206.trans (congrArg V (by kernel_rfl))
 f297:=Tryz.func207.trans (congrArg V (by kernel_rfl))
 f298:=Tryz.func208.trans (congrArg V (by kernel_rfl))
 f299:=Tryz.func209.trans (congrArg V (by kernel_rfl))
 f300:=Tryz.func211.trans (congrArg V (by kernel_rfl))
 f301:=Tryz.func212.trans (congrArg V (by kernel_rfl))
 f328:=Tryz.func222.trans (congrArg V (by kernel_rfl))
 f329:=Tryz.func223.trans (congrArg V (by kernel_rfl))
 f330:=Tryz.func224.trans (congrArg V (by kernel_rfl))
 f331:=Tryz.func225.trans (congrArg V (by kernel_rfl))
 f332:=Tryz.func226.trans (congrArg V (by kernel_rfl))
 f343:=Tryz.func236.trans (congrArg V (by kernel_rfl))
 t0:=Tryz.underlying0
 a0:=Tryz.isAgg0
 z0:=Tryz.sizeOf0
 v0:=Tryz.zeroValue0
 t3:=Tryz.underlying3
 a3:=Tryz.isAgg3
 z3:=Tryz.sizeOf3
 v3:=Tryz.zeroValue3
 t4:=Tryz.underlying4
 a4:=Tryz.isAgg4
 z4:=Tryz.sizeOf4
 v4:=Tryz.zeroValue4
 t5:=Tryz.underlying5
 a5:=Tryz.isAgg5
 z5:=Tryz.sizeOf5
 v5:=Tryz.zeroValue5
 t9:=Tryz.underlying9
 a9:=Tryz.isAgg9
 z9:=Tryz.sizeOf9
 v9:=Tryz.zeroValue9
 t28:=Tryz.underlying102
 a28:=Tryz.isAgg102
 z28:=Tryz.sizeOf102
 v28:=Tryz.zeroValue102
 t46:=Tryz.underlying237
 a46:=Tryz.isAgg237
 z46:=Tryz.sizeOf237
 v46:=Tryz.zeroValue237
 t51:=Tryz.underlying271
 a51:=Tryz.isAgg271
 z51:=Tryz.sizeOf271
 v51:=Tryz.zeroValue271
 t53:=Tryz.underlying273
 a53:=Tryz.isAgg273
 z53:=Tryz.sizeOf273
 v53:=Tryz.zeroValue273
 t131:=Tryz.underlying218
 a131:=Tryz.isAgg218
 z131:=Tryz.sizeOf218
 v131:=Tryz.zeroValue218
 t182:=Tryz.underlying263
 a182:=Tryz.isAgg263
 z182:=Tryz.sizeOf263
 v182:=Tryz.zeroValue263
 t183:=Tryz.underlying264
 a183:=Tryz.isAgg264
 z183:=Tryz.sizeOf264
 v183:=Tryz.zeroValue264
 t218:=Tryz.underlying279
 a218:=Tryz.isAgg279
 z218:=Tryz.sizeOf279
 v218:=Tryz.zeroValue279
 t222:=Tryz.underlying191
 a222:=Tryz.isAgg191
 z222:=Tryz.sizeOf191
 v222:=Tryz.zeroValue191
 t228:=Tryz.underlying291
 a228:=Tryz.isAgg291
 z228:=Tryz.sizeOf291
 v228:=Tryz.zeroValue291
 t229:=Tryz.underlying292
 a229:=Tryz.isAgg292
 z229:=Tryz.sizeOf292
 v229:=Tryz.zeroValue292}
def aqH:Go.Shelf.Ren:=⟨fun|20=>219|n=>n,fun|22=>102|3=>3|4=>4|0=>0|n=>n,fun|n=>n⟩
def axc:Go.Proofs.Lays2.n20 Tryz.prog aqH:={
 mixed:=by kernel_rfl
 f20:=Tryz.func219.trans (congrArg V (by kernel_rfl))
 t0:=Tryz.underlying0
 a0:=Tryz.isAgg0
 z0:=Tryz.sizeOf0
 v0:=Tryz.zeroValue0
 t3:=Tryz.underlying3
 a3:=Tryz.isAgg3
 z3:=Tryz.sizeOf3
 v3:=Tryz.zeroValue3
 t4:=Tryz.underlying4
 a4:=Tryz.isAgg4
 z4:=Tryz.sizeOf4
 v4:=Tryz.zeroValue4
 t22:=Tryz.underlying102
 a22:=Tryz.isAgg102
 z22:=Tryz.sizeOf102
 v22:=Tryz.zeroValue102
 i3:=by kernel_rfl}
end Go.Proofs.YtbnkhmoelnfjoaaGreat
namespace Go.Proofs.YtbnkhmoelnfjoaaGreat
open Go.bL Go.Sort
variable {w:World} {off:Nat} {d:Array Int} {cur:Array BL} {e:ll} {xs:List Int}
def MI (x:Int):∀ys:List Int,(CA x ys).Perm (x::ys)
 | []=>by simp[CA]
 |y::ys=>by
  unfold CA;split
  ·exact .refl _
  ·exact ((MI x ys).cons y).trans (.swap _ _ _)
def wF:∀xs:List Int,(fo xs).Perm xs
 | []=>.nil
 |x::xs=>(MI x _).trans ((wF xs).cons x)
def QR (x:Int):∀ys:List Int,ys.Pairwise (· <= ·)->(CA x ys).Pairwise (· <= ·)
 | [],_=>by simp[CA]
 |y::ys,h=>by
  unfold CA;split
  ·rename_i Ib;refine lL.2 ⟨λz hz=> ?_,h⟩
   rcases da.1 hz with rfl|hz
   ·exact Ib
   ·exact Int.le_trans Ib ((lL.1 h).1 z hz)
  ·rename_i Ib;refine lL.2 ⟨λz hz=> ?_,QR x ys (lL.1 h).2⟩
   rcases da.1 ((MI x ys).mem_iff.1 hz) with rfl|hz
   ·omega
   ·exact (lL.1 h).1 z hz
def yY:∀xs:List Int,(fo xs).Pairwise (· <= ·)
 | []=>.nil
 |x::xs=>QR x _ (yY xs)
def Cs:∀{xs ys:List Int},xs.Pairwise (· <= ·)->ys.Pairwise (· <= ·)->xs.Perm ys->xs=ys
 | [],ys,_,_,h=>by simpa using h.symm
 |x::xs,[],_,_,h=>by simp at h
 |x::xs,y::ys,hx,hy,h=>by
  have h1:=lL.1 hx;have h2:=lL.1 hy;have e:x=y:=by
   have a:x∈y::ys:=h.mem_iff.1 (by simp)
   have b:y∈x::xs:=h.mem_iff.2 (by simp)
   rcases da.1 a with rfl|a
   ·rfl
   ·rcases da.1 b with rfl|b
    ·rfl
    ·have:=h2.1 x a;have:=h1.1 y b;omega
  subst e;rw[Cs h1.2 h2.2 (List.Perm.cons_inv h)]
def Ty (xs:List Int):(xs.mergeSort λx y=>U (x<=y))=fo xs:=by
 refine Cs ?_ (yY xs) ((List.mergeSort_perm xs _).trans (wF xs).symm);have:=List.pairwise_mergeSort (le:=λx y:Int=>U (x<=y)) (λa b c=>by simp;omega) (λa b=>by simp;omega) xs
 exact this.imp (by simp)
def tlI:Int->List Int->List Int
 |_,[]=> []
 |x,y::l=>if y=x then tlI y l else y::tlI y l
def aDS:∀(l:List Int) (x:Int),((aa3 l.length).filter (λj=>Lib.keeps (x::l).toArray (j+1))).map (λj=>(x::l).toArray[j+1]!)=tlI x l
 | [],x=>rfl
 |y::l,x=>by
  have ih:=aDS l y;rw[iU,auP,je,List.filter_map];have e1:((λj=>Lib.keeps (x::y::l).toArray (j+1)) ∘ J')=λj=>Lib.keeps (y::l).toArray (j+1):=by
   funext j;simp[Lib.keeps]
  have e2:((λj=>(x::y::l).toArray[j+1]!) ∘ J')=λj=>(y::l).toArray[j+1]! :=by
   funext j;simp
  have e3:Lib.keeps (x::y::l).toArray (0+1)= !U (y=x):=by simp[Lib.keeps]
  rw[e1,e3];show _=(if y=x then tlI y l else y::tlI y l)
  by_cases h:y=x
  ·rw[aF h,rI h,aC (by decide),vC,e2]
   exact ih
  ·rw[aC h,D1 h,aF (by decide),ki,vC,e2,ih]
   rfl
def No (x:Int) (l:List Int):Lib.compact (x::l)=x::tlI x l:=by
 unfold Lib.compact Lib.compactUpTo;rw[iU,auP,je,aF (by simp[Lib.keeps]),List.filter_map,ki,vC]
 have:=aDS l x;rw[<-this];rfl
def Uh:∀xs:List Int,Lib.compact xs=l8 xs
 | []=>rfl
 | [x]=>by rw[No];rfl
 |x::y::l=>by
  have ih:=Uh (y::l);rw[No] at ih ⊢;show x::(if y=x then tlI y l else y::tlI y l)=(if x=y then l8 (y::l) else x::l8 (y::l))
  rw[<-ih];by_cases h:y=x
  ·subst h;rw[aF rfl,aF rfl]
  ·rw[aC h,aC (λe=>h e.symm)]
def awm {b n:Nat} (h:w.heap[b]? =V (Obj.cells cur e (0,0))):Wr w (putRow (Value.int .i64) (Sort.ahead w n) b off d) b e (putCells (Value.int .i64) off d cur):=by
 have dz:b<w.heap.size:=(oI.1 h).1;refine ⟨?_,?_,λk hk=> ?_,rfl,rfl,rfl⟩
 ·show (w.heap.modify b (onCells (putCells (Value.int .i64) off d)))[b]? =_;rw[LQ,aF rfl,h];rfl
 ·show (w.heap.modify b _).size=_;rw[Array.size_modify]
 ·show (w.heap.modify b _)[k]? =_;rw[LQ,aC (qp hk)]
def amU {d:List Int} (hl:off+d.length<=cur.size):(putCells (Value.int .i64) off d.toArray cur).size=cur.size/\(∀t,(t<off\/off+d.length<=t)->(putCells (Value.int .i64) off d.toArray cur)[t]? =cur[t]?)/\∀t x,d[t]? =V x->(putCells (Value.int .i64) off d.toArray cur)[off+t]? =V (.int .i64 x):=by
 refine ⟨by simp[putCells],λt ht=> ?_,λt x hx=> ?_⟩
 ·simp only[putCells,Array.getElem?_mapIdx];have hn:¬(off<=t/\t<off+d.toArray.size):=by simp;omega
  simp only[aC hn];simp
 ·have dz:=(bK.1 hx).1;simp only[putCells,Array.getElem?_mapIdx];rw[By (by omega),LP,aF ⟨by omega,by simp;omega⟩]
  have:d.toArray[off+t-off]! =x:=by
   rw[show off+t-off=t by omega,getElem!_pos _ _ (by simpa using dz)]
   simpa[dz] using hx
  rw[this]
def alN (w:World) (os:Array Obj):Ux w (Sort.grow w os):=by
 refine ⟨rfl,rfl,rfl,by simp[Sort.grow],λb hb=> ?_⟩
 simp[Sort.grow,Array.getElem?_append,hb]
def holds_of {b:Nat} (h:w.heap[b]? =V (.cells cur e (0,0))) (hx:∀t x,xs[t]? =V x->cur[off+t]? =V (.int .i64 x)):Holds (Value.int .i64) w b off xs.toArray:=λj hj=>by
 have hj:j<xs.length:=by simpa using hj
 have:=hx j xs[j] (cX hj);refine ⟨?_,by simp[ac1,h]⟩
 rw[show w.cell? ⟨b,off+j,G⟩=cur[off+j]? by simp[World.cell?,h],this,getElem!_pos _ _ (by simpa using hj)]
 simp
def ahN (h0:0<xs.length) (hx:∀t x,xs[t]? =V x->cur[off+t]? =V (.int .i64 x)):off+xs.length<=cur.size:=by
 have:=hx (xs.length-1) _ (cX (by omega))
 have:=(oI.1 this).1;omega
def avP:UC Tryz.prog 165 M:=by
 refine ⟨⟨_,Tryz.func165,by kernel_rfl,by rw[show Tryz.f165.name= "slices.Sort[[]int,int]" by kernel_rfl];decide⟩,λm w p c=> ?_,λm w b off c xs cur e hb h0 h6 hc hx=> ?_⟩
 ·refine aa2 (ab6.2 (Any.slices_Sort_int_none anL p c w)) ?_;rintro e w' ⟨rfl,rfl⟩;exact ⟨rfl,rfl,rfl,rfl,rfl⟩
 ·have dz:b<w.heap.size:=(oI.1 hb).1;refine aa2 (ab6.2 (Any.slices_Sort_int anL b off c xs w (holds_of hb hx) dz (by omega))) ?_
  rintro e' w' ⟨rfl,n,os,rfl⟩;rw[Ty];have hl:(fo xs).length=xs.length:=(wF xs).length_eq;obtain ⟨a1,a2,a3⟩:=amU (d:=fo xs) (by rw[hl];exact ahN h0 hx)
  rw[hl] at a2;exact ⟨rfl,_,_,awm hb,alN _ os,a1,a2,a3⟩
def ahP:UC Tryz.prog 219 B:=by
 refine ⟨⟨_,Tryz.func219,by kernel_rfl,by rw[show Tryz.f219.name= "slices.Compact[[]int,int]" by kernel_rfl];decide⟩,λm w p c=> ?_,λm w b off c xs cur e hb h0 h6 hc hx=> ?_⟩
 ·refine aa2 (ab6.2 (Any.slices_Compact_int_empty axc p c w)) ?_;rintro e w' ⟨rfl,rfl⟩;exact ⟨rfl,rfl,rfl,rfl,rfl⟩
 ·refine aa2 (ab6.2 (Any.slices_Compact_int axc b off c xs w (holds_of hb hx) (by omega) hc)) ?_
  rintro e' w' ⟨rfl,n,rfl⟩;rw[Uh];have hle:=Nj xs;have hl:(l8 xs++P' (xs.length-(l8 xs).length) 0).length=xs.length:=by simp;omega
  obtain ⟨a1,a2,a3⟩:=amU (d:=l8 xs++P' (xs.length-(l8 xs).length) 0) (by rw[hl];exact ahN h0 hx)
  rw[hl] at a2;exact ⟨rfl,_,_,awm hb,⟨rfl,rfl,rfl,cS _,λ_ _=>rfl⟩,a1,a2,a3⟩
end Go.Proofs.YtbnkhmoelnfjoaaGreat
namespace Go.Proofs.YtbnkhmoelnfjoaaGreat
open Go.Lib Go.RowKit Go.bL
variable {P:Program} {ops:Array Oper} {rest:List Oper} {o:Oper} {a:Act} {Q:Exit->Act->World->Prop} {v':BL} {w' w:World} {K:Act->World->Prop} {E:Prop} {J:Type} {k:Nat}
def QX (w:World) (t e:ll) (z:BL) (sz:Nat) (ht:P.underlying t=V (.slice e)) (hv:∀w,(zeroValue e).run P w= .ok z w) (hz:z.cells.size=sz) (h1:∀v∈z.cells.toList,v.oneCell'=M) (b o n c:Nat) (hn:0<n) (hc:∀j,j<n*sz->(w.cell? ⟨b,o+j,G⟩).isSome=M) (hf:∀j,j<n*sz->w.frozen? ⟨b,o+j,G⟩=B):
  ∃zs:List BL,zs.length=n*sz/\(∀v∈zs,v.oneCell'=M)/\∀ty,(Builtin.clear_ #[t] ty #[.slice (V ⟨b,o,G⟩) n c]).run P w= .ok (.tuple #[]) (w.setCells b o zs):=by
 have hl:(aa5 z.cells n).toList.length=n*sz:=by simp[aa5,hz]
 have vy:∀v∈(aa5 z.cells n).toList,v.oneCell'=M:=λv FZ=>by
  simp only[aa5,Array.toList_map,dJ] at FZ;obtain ⟨i,hi,rfl⟩:=FZ;have hi:i<n*z.cells.size:=by simpa using hi
  have hz0:0<z.cells.size:=by
   rcases SF z.cells.size with e|e
   ·rw[e] at hi;simp at hi
   ·exact e
  have dz:i % z.cells.size<z.cells.size:=Nat.mod_lt _ hz0;rw[getElem!_pos z.cells _ dz];exact h1 _ (Array.getElem_mem_toList dz)
 refine ⟨(aa5 z.cells n).toList,hl,vy,λty=> ?_⟩
 have lV:=run_storeCells_cells (P:=P) b o (aa5 z.cells n).toList 0 w (by rw[hl];simpa using hc) (by rw[hl];simpa using hf) vy
 simp only[oH] at lV;obtain ⟨m,rfl⟩:∃m,n=m+1:=⟨n-1,by omega⟩
 simp[Builtin.clear_,run_underlying ht,hv,lV]
def Bj (b:Nat) (vs:List BL) (o:Nat) (w:World) (h:∀j,j<vs.length->(w.cell? ⟨b,o+j,G⟩).isSome=M) (k:Nat) (hk:(w.cell? ⟨b,k,G⟩).isSome=M):((w.setCells b o vs).cell? ⟨b,k,G⟩).isSome=M:=by
 by_cases jD:o<=k/\k<o+vs.length
 ·have:=World.cell?_setCells_in b vs o w h (k-o) (by omega)
  rw[show o+(k-o)=k by omega] at this
  rw[this];rfl
 ·rw[ac9 b vs o w ⟨b,k,G⟩ (λ_ _=>by show k<o\/o+vs.length<=k;omega)]
  exact hk
def nf {b:Nat} {e:ll}:∀(vs:List BL) (o:Nat) (w:World) (cur:Array BL),w.heap[b]? =V (.cells cur e (0,0))->o+vs.length<=cur.size->∃j6,Wr w (w.setCells b o vs) b e j6/\j6.size=cur.size/\∀k,j6[k]? =if o<=k/\k<o+vs.length then vs[k-o]? else cur[k]?
 | [],o,w,cur,hb,hl=>⟨cur,⟨hb,rfl,λ_ _=>rfl,rfl,rfl,rfl⟩,rfl,λk=>by rw[aC (λh=>absurd h.2 (by have:=h.1;show ¬k<o+0;omega))]⟩
 |v::vs,o,w,cur,hb,hl=>by
  have hl:o+(vs.length+1)<=cur.size:=hl;have dz:b<w.heap.size:=(oI.1 hb).1;have h1:(w.setCell ⟨b,o,G⟩ v).heap[b]? =V (.cells (cur.setIfInBounds o v) e (0,0)):=by
   simp[World.setCell,LQ,hb]
  let ⟨j6,a1,a2,a3⟩:=nf vs (o+1) (w.setCell ⟨b,o,G⟩ v) _ h1 (by simp;omega)
  refine ⟨j6,⟨a1.heap,a1.size.trans (by simp[World.setCell]),λk hk=>(a1.Lv k hk).trans ?_,a1.os,a1.tape,a1.output⟩,by rw[a2];simp,λk=> ?_⟩
  ·simp[World.setCell,LQ,qp hk]
  ·rw[a3,adM,iU];by_cases hk:o=k
   ·subst hk;rw[aC (by omega),aF rfl,aF (by omega),aF (by omega),rF];rfl
   ·rw[aC hk];by_cases yH:o+1<=k/\k<o+1+vs.length
    ·rw[aF yH,aF (by omega),show k-o=(k-(o+1))+1 by omega,uo]
    ·rw[aC yH,aC (by omega)]
def awP (z:BL) (h:(z.cells.toList.all λv=>v.oneCell')=M):∀v∈z.cells.toList,v.oneCell'=M:=λv hv=>(j1.1 h) v hv
def i73:TypeInfo:=(Tryz.prog.info? 73).get (by kernel_rfl)
def MU:Tryz.prog.info? 73=V i73:=by kernel_rfl
def AN:i73.size=2:=by kernel_rfl
set_option maxHeartbeats 4000000 in
set_option maxRecDepth 1000000 in
def aLE (mN off n cap i j:Nat) (cs:List BL) (w:World) (hcs:cs.length=n*2) (hc:∀t v,cs[t]? =V v->w.cell? ⟨mN,off+t,G⟩=V v) (hf:∀t,t<n*2->w.frozen? ⟨mN,off+t,G⟩=B) (h1:∀v∈cs,v.oneCell'=M) (jH:n<=cap) (hij:i<j) (hj:j<=n):
  Calls Tryz.prog 182 #[.slice (V ⟨mN,off,G⟩) n cap,.int .i64 i,.int .i64 j] w λe w'=>e= .returned (.slice (V ⟨mN,off,G⟩) (n-(j-i)) cap)/\∃zs:List BL,zs.length=(j-i)*2/\(∀v∈zs,v.oneCell'=M)/\w'=(w.drew.setCells mN (off+i*2) (cs.drop (j*2))).setCells mN (off+(i+(n-j))*2) zs:=by
 have heq:¬(i=j):=by omega
 have heq':((i:Int)==(j:Int))=B:=by simp;omega
 obtain ⟨news,vu⟩:∃news,news=cs.drop (j*2):=⟨_,rfl⟩;have hlen:news.length=(n-j)*2:=by rw[vu,jq,hcs,Bw]
 obtain ⟨f9,hA,MP⟩:∃f9:Addr,(if cap=j then V (⟨mN,off,G⟩:Addr) else V ⟨mN,off+j*2,G⟩)=V f9/\Hid (∀t u,news[t]? =V u->w.drew.cell? (f9.add t)=V u):=by
  by_cases h:cap=j
  ·refine ⟨⟨mN,off,G⟩,by simp[h],λt u hu=> ?_⟩
   have h0:news.length=0:=by rw[hlen];omega
   rw[sP.1 h0] at hu;simp at hu
  ·refine ⟨⟨mN,off+j*2,G⟩,by simp[h],λt u hu=> ?_⟩
   rw[vu,fh] at hu;rw[abG,show off+j*2+t=off+(j*2+t) by omega]
   exact hc _ _ hu
 have s1:Hid (news.length=(n-j)*2):=hlen;have s2:Hid (∀u∈news,u.oneCell'=M):=λu hu=>h1 u (oG (by rw[<-vu];exact hu))
 have JF:∀t,t<n*2->(w.cell? ⟨mN,off+t,G⟩).isSome=M:=λt ht=>by
  rw[hc t cs[t] (by rw[cX])];rfl
 have s3:Hid (∀t,t<news.length->(w.drew.cell? ⟨mN,off+i*2+t,G⟩).isSome=M/\w.drew.frozen? ⟨mN,off+i*2+t,G⟩=B):=λt ht=>by
  rw[hlen] at ht;rw[gL];exact ⟨JF (i*2+t) (by omega),hf (i*2+t) (by omega)⟩
 obtain ⟨W1,vw⟩:∃W1,W1=w.drew.setCells mN (off+i*2) news:=⟨_,rfl⟩;have S6:∀t,t<n*2->(W1.cell? ⟨mN,off+t,G⟩).isSome=M:=λt ht=>by
  rw[vw];exact Bj mN _ _ _ (λk hk=>(s3 k hk).1) _ (JF t ht)
 have fz1:∀t,t<n*2->W1.frozen? ⟨mN,off+t,G⟩=B:=λt ht=>by
  rw[vw,ac7];exact hf t ht
 let ⟨zs,Aa,nM,fg⟩:=QX (P:=Tryz.prog) W1 40 73 _ 2 Tryz.underlying40 Tryz.zeroValue73 (by kernel_rfl) (awP _ (by kernel_rfl)) mN (off+(i+(n-j))*2) (n-(i+(n-j))) (cap-(i+(n-j))) (by omega)
  (λt ht=>by rw[gL];exact S6 _ (by omega)) (λt ht=>by rw[gL];exact fz1 _ (by omega))
 have hic:i<=cap:=by omega
 have hjc:j<=cap:=by omega
 have hW:Hid (W1=w.drew.setCells mN (off+i*2) news):=vw;have hNW:Hid (news=cs.drop (j*2)):=vu;clear vw vu hlen JF S6 fz1 hc hf h1;go_enter Tryz.func182,Tryz.ntmps182;go_wp2_with fail;go_region_law (refine step_append_room rfl (.tmp 22) (.tmp 25) 40 rfl 73 i73 2 Tryz.underlying40 MU AN mN off i cap (by simp[Act.eval,Act.put]) f9 (n-j) (cap-j) news (by simp[Act.eval,Act.put,hA]) s1.out MP.out s2.out (by omega) s3.out ?_;rw[<-hW.out])
 go_wp2;go_ret;refine ⟨?_,zs,by rw[Aa];congr 1;omega,nM,?_⟩
 ·rw[show n-(j-i)=i+(n-j) by omega];rfl
 ·rw[hW.out,hNW.out]
def aCP:atC Tryz.prog 182 2:=by
 refine ⟨⟨_,Tryz.func182,by kernel_rfl,by rw[show Tryz.f182.name= "slices.Delete[[]partsync/api.Column,partsync/api.Column]" by kernel_rfl];decide⟩,λm w b off n c i j cur e hb hl h1 hij hj vV=>ab6.2 ?_⟩
 have Py:∀t,w.cell? ⟨b,t,G⟩=cur[t]? :=λt=>wc hb
 have hlen:((cur.toList.drop off).take (n*2)).length=n*2:=by simp;omega
 have om:∀t,t<n*2->((cur.toList.drop off).take (n*2))[t]? =cur[off+t]? :=λt ht=>by
  rw[fw,aF ht,fh,mC]
 refine (aLE b off n c i j ((cur.toList.drop off).take (n*2)) w hlen (λt v hv=> ?_) (λt ht=> ?_) (λv hv=> ?_) vV hij hj).mono ?_
 ·have ht:t<n*2:=by have:=(bK.1 hv).1;rwa[hlen] at this
  rw[Py,<-om t ht];exact hv
 ·simp[ac1,hb]
 ·let ⟨t,ht,e⟩:=Hu hv;rw[hlen] at ht;refine h1 t ht v ?_;rw[<-om t ht,<-e];exact cX _
 ·rintro r w' ⟨rfl,zs,Aa,nM,rfl⟩;refine ⟨rfl,?_⟩;have sD:(((cur.toList.drop off).take (n*2)).drop (j*2)).length=(n-j)*2:=by rw[jq,hlen,Bw]
  let ⟨c1,a1,a2,a3⟩:=nf (((cur.toList.drop off).take (n*2)).drop (j*2)) (off+i*2) w.drew cur hb (by rw[sD];omega)
  let ⟨c2,b1,b2,b3⟩:=nf zs (off+(i+(n-j))*2) _ c1 a1.heap (by rw[a2,Aa];omega)
  refine ⟨c2,⟨b1.heap,b1.size.trans a1.size,λk hk=>(b1.Lv k hk).trans (a1.Lv k hk),b1.os.trans a1.os,b1.tape.trans a1.tape,b1.output.trans a1.output⟩,b2.trans a2,λk hk=> ?_,λt ht=> ?_,λt ht=> ?_⟩
  ·rw[b3,aC (by rw[Aa];omega),a3,aC (by rw[sD];omega)]
  ·rw[b3,aC (by omega),a3,aF (by rw[sD];omega),show off+i*2+t-(off+i*2)=t by omega,fh,om _ (by omega),gL]
  ·refine ⟨zs[t]'(by rw[Aa];omega),?_,nM _ (nZ _)⟩
   rw[b3,aF (by rw[Aa];omega),show off+i*2+(n*2-j*2)+t-(off+(i+(n-j))*2)=t by omega]
   exact cX _
def i44:TypeInfo:=(Tryz.prog.info? 44).get (by kernel_rfl)
def hi44:Tryz.prog.info? 44=V i44:=by kernel_rfl
def hs44:i44.size=5:=by kernel_rfl
set_option maxHeartbeats 4000000 in
set_option maxRecDepth 1000000 in
def aLD (mN off n cap i j:Nat) (cs:List BL) (w:World) (hcs:cs.length=n*5) (hc:∀t v,cs[t]? =V v->w.cell? ⟨mN,off+t,G⟩=V v) (hf:∀t,t<n*5->w.frozen? ⟨mN,off+t,G⟩=B) (h1:∀v∈cs,v.oneCell'=M) (jH:n<=cap) (hij:i<j) (hj:j<=n):
  Calls Tryz.prog 185 #[.slice (V ⟨mN,off,G⟩) n cap,.int .i64 i,.int .i64 j] w λe w'=>e= .returned (.slice (V ⟨mN,off,G⟩) (n-(j-i)) cap)/\∃zs:List BL,zs.length=(j-i)*5/\(∀v∈zs,v.oneCell'=M)/\w'=(w.drew.setCells mN (off+i*5) (cs.drop (j*5))).setCells mN (off+(i+(n-j))*5) zs:=by
 have heq:¬(i=j):=by omega
 have heq':((i:Int)==(j:Int))=B:=by simp;omega
 obtain ⟨news,vu⟩:∃news,news=cs.drop (j*5):=⟨_,rfl⟩;have hlen:news.length=(n-j)*5:=by rw[vu,jq,hcs,Bw]
 obtain ⟨f9,hA,MP⟩:∃f9:Addr,(if cap=j then V (⟨mN,off,G⟩:Addr) else V ⟨mN,off+j*5,G⟩)=V f9/\Hid (∀t u,news[t]? =V u->w.drew.cell? (f9.add t)=V u):=by
  by_cases h:cap=j
  ·refine ⟨⟨mN,off,G⟩,by simp[h],λt u hu=> ?_⟩
   have h0:news.length=0:=by rw[hlen];omega
   rw[sP.1 h0] at hu;simp at hu
  ·refine ⟨⟨mN,off+j*5,G⟩,by simp[h],λt u hu=> ?_⟩
   rw[vu,fh] at hu;rw[abG,show off+j*5+t=off+(j*5+t) by omega]
   exact hc _ _ hu
 have s1:Hid (news.length=(n-j)*5):=hlen;have s2:Hid (∀u∈news,u.oneCell'=M):=λu hu=>h1 u (oG (by rw[<-vu];exact hu))
 have JF:∀t,t<n*5->(w.cell? ⟨mN,off+t,G⟩).isSome=M:=λt ht=>by
  rw[hc t cs[t] (by rw[cX])];rfl
 have s3:Hid (∀t,t<news.length->(w.drew.cell? ⟨mN,off+i*5+t,G⟩).isSome=M/\w.drew.frozen? ⟨mN,off+i*5+t,G⟩=B):=λt ht=>by
  rw[hlen] at ht;rw[gL];exact ⟨JF (i*5+t) (by omega),hf (i*5+t) (by omega)⟩
 obtain ⟨W1,vw⟩:∃W1,W1=w.drew.setCells mN (off+i*5) news:=⟨_,rfl⟩;have S6:∀t,t<n*5->(W1.cell? ⟨mN,off+t,G⟩).isSome=M:=λt ht=>by
  rw[vw];exact Bj mN _ _ _ (λk hk=>(s3 k hk).1) _ (JF t ht)
 have fz1:∀t,t<n*5->W1.frozen? ⟨mN,off+t,G⟩=B:=λt ht=>by
  rw[vw,ac7];exact hf t ht
 let ⟨zs,Aa,nM,fg⟩:=QX (P:=Tryz.prog) W1 23 44 _ 5 Tryz.underlying23 Tryz.zeroValue44 (by kernel_rfl) (awP _ (by kernel_rfl)) mN (off+(i+(n-j))*5) (n-(i+(n-j))) (cap-(i+(n-j))) (by omega)
  (λt ht=>by rw[gL];exact S6 _ (by omega)) (λt ht=>by rw[gL];exact fz1 _ (by omega))
 have hic:i<=cap:=by omega
 have hjc:j<=cap:=by omega
 have hW:Hid (W1=w.drew.setCells mN (off+i*5) news):=vw;have hNW:Hid (news=cs.drop (j*5)):=vu;clear vw vu hlen JF S6 fz1 hc hf h1;go_enter Tryz.func185,Tryz.ntmps185;go_wp2_with fail;go_region_law (refine step_append_room rfl (.tmp 22) (.tmp 25) 23 rfl 44 i44 5 Tryz.underlying23 hi44 hs44 mN off i cap (by simp[Act.eval,Act.put]) f9 (n-j) (cap-j) news (by simp[Act.eval,Act.put,hA]) s1.out MP.out s2.out (by omega) s3.out ?_;rw[<-hW.out])
 go_wp2;go_ret;refine ⟨?_,zs,by rw[Aa];congr 1;omega,nM,?_⟩
 ·rw[show n-(j-i)=i+(n-j) by omega];rfl
 ·rw[hW.out,hNW.out]
def aCO:atC Tryz.prog 185 5:=by
 refine ⟨⟨_,Tryz.func185,by kernel_rfl,by rw[show Tryz.f185.name= "slices.Delete[[]partsync/api.Table,partsync/api.Table]" by kernel_rfl];decide⟩,λm w b off n c i j cur e hb hl h1 hij hj vV=>ab6.2 ?_⟩
 have Py:∀t,w.cell? ⟨b,t,G⟩=cur[t]? :=λt=>wc hb
 have hlen:((cur.toList.drop off).take (n*5)).length=n*5:=by simp;omega
 have om:∀t,t<n*5->((cur.toList.drop off).take (n*5))[t]? =cur[off+t]? :=λt ht=>by
  rw[fw,aF ht,fh,mC]
 refine (aLD b off n c i j ((cur.toList.drop off).take (n*5)) w hlen (λt v hv=> ?_) (λt ht=> ?_) (λv hv=> ?_) vV hij hj).mono ?_
 ·have ht:t<n*5:=by have:=(bK.1 hv).1;rwa[hlen] at this
  rw[Py,<-om t ht];exact hv
 ·simp[ac1,hb]
 ·let ⟨t,ht,e⟩:=Hu hv;rw[hlen] at ht;refine h1 t ht v ?_;rw[<-om t ht,<-e];exact cX _
 ·rintro r w' ⟨rfl,zs,Aa,nM,rfl⟩;refine ⟨rfl,?_⟩;have sD:(((cur.toList.drop off).take (n*5)).drop (j*5)).length=(n-j)*5:=by rw[jq,hlen,Bw]
  let ⟨c1,a1,a2,a3⟩:=nf (((cur.toList.drop off).take (n*5)).drop (j*5)) (off+i*5) w.drew cur hb (by rw[sD];omega)
  let ⟨c2,b1,b2,b3⟩:=nf zs (off+(i+(n-j))*5) _ c1 a1.heap (by rw[a2,Aa];omega)
  refine ⟨c2,⟨b1.heap,b1.size.trans a1.size,λk hk=>(b1.Lv k hk).trans (a1.Lv k hk),b1.os.trans a1.os,b1.tape.trans a1.tape,b1.output.trans a1.output⟩,b2.trans a2,λk hk=> ?_,λt ht=> ?_,λt ht=> ?_⟩
  ·rw[b3,aC (by rw[Aa];omega),a3,aC (by rw[sD];omega)]
  ·rw[b3,aC (by omega),a3,aF (by rw[sD];omega),show off+i*5+t-(off+i*5)=t by omega,fh,om _ (by omega),gL]
  ·refine ⟨zs[t]'(by rw[Aa];omega),?_,nM _ (nZ _)⟩
   rw[b3,aF (by rw[Aa];omega),show off+i*5+(n*5-j*5)+t-(off+(i+(n-j))*5)=t by omega]
   exact cX _
def Px (w:World) (dT sT ty elem:ll) (i:TypeInfo) (sz:Nat) (b o dLen dCap:Nat) (a:Addr) (aAR sCap k:Nat) (cs:List BL) (hu:P.underlying dT=V (.slice elem)) (hi:P.info? elem=V i) (hs:i.size=sz) (hk:Nat.min aAR dLen=k) (hn:cs.length=k*sz) (MP:∀j v,cs[j]? =V v->w.cell? (a.add j)=V v) (hc:∀j,j<cs.length->(w.cell? ⟨b,o+j,G⟩).isSome=M) (hf:∀j,j<cs.length->w.frozen? ⟨b,o+j,G⟩=B) (h1:∀v∈cs,v.oneCell'=M):
  (aa4 #[dT,sT] ty #[.slice (V ⟨b,o,G⟩) dLen dCap,.slice (V a) aAR sCap]).run P w= .ok (goInt k) (w.setCells b o cs):=by
 subst hs;have hfc:=run_firstCells_some (P:=P) w i.size k a aAR sCap cs hn MP;have lV:=run_storeCells_cells (P:=P) b o cs 0 w (by simpa using hc) (by simpa using hf) h1
 simp only[oH] at lV;simp[aa4,run_underlying hu,Builtin.lenOf,sizeOf,typeInfo,hi,hk,hfc,lV]
def wpC (w:World) (hgd:o.guard=G) (d s:C') (t t':ll) (ho:o.op= .call {callee:=.builtin .copy,args:= #[d,s],argTypes:= #[t,t']}) (v u:BL) (hd:a.eval d=v) (hs:a.eval s=u) (hr:(aa4 #[t,t'] o.type #[v,u]).run P w= .ok v' w') (h:wpList P ops Q rest (a.put o.dst v') w'):wpList P ops Q (o::rest) a w:=
 wpList_plain hgd λ_ hK=>by
  unfold Oper.wp execOp;simp only[ho,resolve,invoke,builtin,B',E2,D',List.map_toArray,ki,xf,hd,hs,hr];exact hK _ _ h
def aDU (hg:o.guard=G) (d x:C') (dT sT:ll) (gC:o.op=Op.call {callee:=Callee.builtin Builtin.copy,args:= #[d,x],argTypes:= #[dT,sT]}) (v u:BL) (hd:a.eval d=v) (hx:a.eval x=u) (hr:(aa4 #[dT,sT] o.type #[v,u]).run P w= .ok v' w') (hK:K (a.put o.dst v') w'):
  if Region.wanted o (yielded ops a.tmps)=M then Oper.wp P o a w K Q else E:=by
 have hw:Region.wanted o (yielded ops a.tmps)=M:=by simp[Region.wanted,hg]
 rw[aF hw];unfold Oper.wp;simp[execOp,gC,resolve,invoke,builtin,hd,hx,hr,Result.andThen];exact hK
structure aiS (w:World) (b off n c vb kE q vc:Nat) (cs vs:List BL):Prop where
 cl:cs.length=n*2
 vl:vs.length=q*2
 hc:∀j v,cs[j]? =V v->w.cell? ⟨b,off+j,G⟩=V v
 hv:∀j v,vs[j]? =V v->w.cell? ⟨vb,kE+j,G⟩=V v
 sp:∀j,j<c*2->(w.cell? ⟨b,off+j,G⟩).isSome=M
 fz:∀j,j<c*2->w.frozen? ⟨b,off+j,G⟩=B
 h1:∀v∈cs,v.oneCell'=M
 h2:∀v∈vs,v.oneCell'=M
set_option maxHeartbeats 4000000 in
set_option maxRecDepth 1000000 in
def agU (b off n c vb kE q vc:Nat) (cs vs:List BL) (w:World) (I:aiS w b off n c vb kE q vc cs vs) (hq:0<q) (nT:n+q<=c):
  Calls Tryz.prog 184 #[.slice (V ⟨b,off,G⟩) n c,.int .i64 n,.slice (V ⟨vb,kE,G⟩) q vc] w λe w'=>e= .returned (.slice (V ⟨b,off,G⟩) (n+q) c)/\w'=w.setCells b (off+n*2) vs:=by
 have Aa:¬((q:Int)=0):=by omega
 have rk:∀ty,(aa7 #[40,40] ty #[.slice (V ⟨b,off,G⟩) n c,.slice (V ⟨vb,kE,G⟩) q vc]).run Tryz.prog w= .ok (.slice (V ⟨b,off,G⟩) (n+q) c) (w.setCells b (off+n*2) vs):=λty=>by
  have h:=run_append_room_cells (P:=Tryz.prog) w 40 ty 73 i73 Tryz.underlying40 MU b off n c ⟨vb,kE,G⟩ q vc vs (by rw[I.vl,AN]) (λj u hj=>by rw[abG];exact I.hv j u hj) I.h2 nT
   (λj hj=>by rw[AN,gL];rw[I.vl] at hj;exact I.sp _ (by omega)) (λj hj=>by rw[AN,gL];rw[I.vl] at hj;exact I.fz _ (by omega))
  rw[AN] at h;exact h
 clear I;go_enter Tryz.func184,Tryz.ntmps184;go_wp2_with (at_builtin;refine Lib.wpList_append_run _ rfl _ _ _ _ rfl _ _ rfl rfl _ _ (rk _) ?_);go_ret;exact ⟨rfl,rfl⟩
def z73:i73.zero=V i73.zero.get! :=by kernel_rfl
def b73:i73.bytes=24:=by kernel_rfl
def aAx:(i73.zero.get!).cells.size=2:=by kernel_rfl
set_option maxHeartbeats 4000000 in
set_option maxRecDepth 1000000 in
def agV (b off n c vb kE q vc:Nat) (cs vs:List BL) (w:World) (I:aiS w b off n c vb kE q vc cs vs) (hq:0<q) (nT:c<n+q) (Ac:n<=1000000) (hq6:q<=1000000) (vV:n<=c):
  Calls Tryz.prog 184 #[.slice (V ⟨b,off,G⟩) n c,.int .i64 n,.slice (V ⟨vb,kE,G⟩) q vc] w λe w'=>∃ge,e= .returned (.slice (V ⟨w.heap.size,0,G⟩) (n+q) ge)/\n+q<=ge/\∃j6:Array BL,ge*2<=j6.size/\(∀t,t<(n+q)*2->j6[t]? =(cs++vs)[t]?)/\Nw w w' 73 j6:=by
 have Aa:¬((q:Int)=0):=by omega
 have MP:Src Tryz.prog i73.size 40 (.slice (V ⟨vb,kE,G⟩) q vc) q vs w:=by
  rw[AN];exact Src.ofSlice w Tryz.underlying40 ⟨vb,kE,G⟩ q vc vs I.vl (λj u hj=>by rw[abG];exact I.hv j u hj) I.h2
 have hold:(ab5 i73.size n (.slice (V ⟨b,off,G⟩) n c)).run Tryz.prog w.drew= .ok cs.toArray w.drew:=by
  rw[AN];exact run_firstCells_some w.drew 2 n ⟨b,off,G⟩ n c cs I.cl (λj v hj=>by rw[abG];exact I.hc j v hj)
 obtain ⟨ge,hG⟩:∃ge,ge=grownCap w (n+q) c 73:=⟨_,rfl⟩;obtain ⟨cur,G6⟩:∃cur:Array BL,cur=(cs++vs).toArray++aa5 (i73.zero.get!).cells (ge-(n+q)):=⟨_,rfl⟩;have hGe:n+q<=ge:=by rw[hG];exact grownCap_ge w _ _ _
 have oQ:cur.size=ge*2:=by
  rw[G6];simp[aa5,aAx,I.cl,I.vl];omega
 have om:∀t,t<(n+q)*2->cur[t]? =(cs++vs)[t]? :=λt ht=>by
  rw[G6,LN (by simp[I.cl,I.vl];omega),LM]
 have rk:∀ty,(aa7 #[40,40] ty #[.slice (V ⟨b,off,G⟩) n c,.slice (V ⟨vb,kE,G⟩) q vc]).run Tryz.prog w= .ok (.slice (V ⟨w.heap.size,0,G⟩) (n+q) ge) (w.drew.alloc (.cells cur 73)):=λty=>by
  have h:=run_append_grow_src w 40 40 ty 73 i73 _ Tryz.underlying40 MU z73 (V ⟨b,off,G⟩) n c cs hold _ q vs MP nT (by omega) (growslice_fits nT (by rw[b73];omega))
  rw[<-hG,<-G6] at h;exact h
 clear I hold MP hG G6;go_enter Tryz.func184,Tryz.ntmps184;go_wp2_with (at_builtin;refine Lib.wpList_append_run _ rfl _ _ _ _ rfl _ _ rfl rfl _ _ (rk _) ?_);all_goals (go_ret;exact ⟨ge,rfl,hGe,cur,by omega,om,⟨rfl,rfl,rfl,rfl⟩⟩)
set_option maxHeartbeats 4000000 in
set_option maxRecDepth 1000000 in
def ayx (b off n c i vb kE q vc:Nat) (cs vs:List BL) (w:World) (I:aiS w b off n c vb kE q vc cs vs) (hi:i<n) (hq:0<q) (nT:n+q<=c) (hvb:vb≠b) (Ac:n<=1000000) (hq6:q<=1000000)
  (tA tB:ll) (kA kB:Nat) (hsa:w.shape? vb=V (tA,kA)) (hsb:w.shape? b=V (tB,kB)) (hkB:kB≠0) (hfa:w.frozen? ⟨vb,kE,G⟩=B) (hfe:w.frozen? ⟨vb,kA,G⟩=B):
  Calls Tryz.prog 184 #[.slice (V ⟨b,off,G⟩) n c,.int .i64 i,.slice (V ⟨vb,kE,G⟩) q vc] w λe w'=>e= .returned (.slice (V ⟨b,off,G⟩) (n+q) c)/\w'=(w.drew.setCells b (off+(i+q)*2) (cs.drop (i*2))).setCells b (off+i*2) vs:=by
 have Aa:¬((q:Int)=0):=by omega
 have nM:¬((i:Int)=(n:Int)):=by omega
 have hz3:¬((c:Int)<(n:Int)+(q:Int)):=by omega
 have hov:∀lb cb,(callFunc 199 #[.slice (V ⟨vb,kE,G⟩) q vc,.slice (V ⟨b,off+(i+q)*2,G⟩) lb cb]).run Tryz.prog w= .ok (.value (.bool B)) w:=λlb cb=>by
  rw[run_callFunc_extern Tryz.func199 (by kernel_rfl) (by kernel_rfl) (by kernel_rfl) (e:=Extern.SlicesOverlaps.overlaps #[40,40] #[4]) (by kernel_rfl),
   Lib.run_overlaps_apart w 40 4 73 Tryz.underlying40 2 Tryz.sizeOf73 ⟨vb,kE,G⟩ ⟨b,off+(i+q)*2,G⟩ q vc lb cb hvb tA tB kA kB hsa hsb hkB hfa hfe]
  rfl
 have sD:(cs.drop (i*2)).length=(n-i)*2:=by rw[jq,I.cl,Bw]
 have hw1:IntKind.i64.wrap ((i:Int)+(q:Int))=(i:Int)+(q:Int):=by rw[IntKind.wrap_i64];omega
 have hw2:IntKind.i64.wrap ((n:Int)+(q:Int))=(n:Int)+(q:Int):=by rw[IntKind.wrap_i64];omega
 have hb1:(0:Int)<=(i:Int)+(q:Int):=by omega
 have jD:i<=n:=by omega
 have htn:((i:Int)+(q:Int)).toNat=i+q:=by omega
 have hb2:¬(c=i+q):=by omega
 have hb3:(i:Int)<=(n:Int)+(q:Int):=by omega
 have hb4:¬(c=i):=by omega
 have hcp1:∀ty dc sc,(aa4 #[40,40] ty #[.slice (V ⟨b,off+(i+q)*2,G⟩) (n+q-(i+q)) dc,.slice (V ⟨b,off+i*2,G⟩) (n+q-i) sc]).run Tryz.prog w.drew= .ok (goInt (n-i:Nat)) (w.drew.setCells b (off+(i+q)*2) (cs.drop (i*2))):=λty dc sc=>
  Px w.drew 40 40 ty 73 i73 2 b (off+(i+q)*2) (n+q-(i+q)) dc ⟨b,off+i*2,G⟩ (n+q-i) sc (n-i) (cs.drop (i*2)) Tryz.underlying40 MU AN (by simp only[SD];split<;>omega) sD
   (λj v hj=>by rw[abG,gL];exact I.hc (i*2+j) v (by rwa[fh] at hj))
   (λj hj=>by rw[sD] at hj;rw[gL];exact I.sp _ (by omega)) (λj hj=>by rw[sD] at hj;rw[gL];exact I.fz _ (by omega)) (λv hv=>I.h1 v (oG hv))
 obtain ⟨W1,vw⟩:∃W1,W1=w.drew.setCells b (off+(i+q)*2) (cs.drop (i*2)):=⟨_,rfl⟩;have hsp1:∀k,k<c*2->(W1.cell? ⟨b,off+k,G⟩).isSome=M:=λk hk=>by
  rw[vw];exact Bj b _ _ _ (λj hj=>by rw[sD] at hj;rw[gL];exact I.sp _ (by omega)) _ (I.sp k hk)
 have hcp2:∀ty dc,(aa4 #[40,40] ty #[.slice (V ⟨b,off+i*2,G⟩) (n+q-i) dc,.slice (V ⟨vb,kE,G⟩) q vc]).run Tryz.prog W1= .ok (goInt (q:Nat)) (W1.setCells b (off+i*2) vs):=λty dc=>
  Px W1 40 40 ty 73 i73 2 b (off+i*2) (n+q-i) dc ⟨vb,kE,G⟩ q vc q vs Tryz.underlying40 MU AN (by simp only[SD];split<;>omega) I.vl
   (λj v hj=>by
    rw[abG,vw,ac9 b _ _ _ _ (λh _=>absurd h hvb)]
    exact I.hv j v hj)
   (λj hj=>by rw[I.vl] at hj;rw[gL];exact hsp1 _ (by omega)) (λj hj=>by rw[I.vl] at hj;rw[vw,ac7,gL];exact I.fz _ (by omega)) I.h2
 rw[<-vw] at hcp1;have hW:Hid (W1=w.drew.setCells b (off+(i+q)*2) (cs.drop (i*2))):=vw;clear I hsp1 sD vw;go_enter Tryz.func184,Tryz.ntmps184;go_wp2_with (simp only[hov]);go_region_law (refine aDU rfl _ _ 40 40 rfl _ _ (by simp[Act.eval,Act.put]) (by simp[Act.eval,Act.put]) (hcp1 _ _ _) ?_)
 go_wp2_with (at_builtin;refine wpC _ rfl _ _ 40 40 rfl _ _ rfl rfl (hcp2 _ _) ?_);go_ret;exact ⟨rfl,by rw[hW.out]⟩
set_option maxHeartbeats 4000000 in
set_option maxRecDepth 1000000 in
def aBx (b off n c i vb kE q vc:Nat) (cs vs:List BL) (w:World) (I:aiS w b off n c vb kE q vc cs vs) (hi:i<n) (hq:0<q) (nT:c<n+q) (Ac:n<=1000000) (hq6:q<=1000000) (vV:n<=c) (hbw:b<w.heap.size) (hvw:vb<w.heap.size):
  Calls Tryz.prog 184 #[.slice (V ⟨b,off,G⟩) n c,.int .i64 i,.slice (V ⟨vb,kE,G⟩) q vc] w λe w'=>∃ge,e= .returned (.slice (V ⟨w.heap.size,0,G⟩) (n+q) ge)/\n+q<=ge/\∃zM:Array BL,zM.size=ge*2/\(∀t,t<i*2->zM[t]? =cs[t]?)/\w'=((w.drew.alloc (.cells zM 73)).setCells w.heap.size (i*2) vs).drew.setCells w.heap.size ((i+q)*2) (cs.drop (i*2)):=by
 have Aa:¬((q:Int)=0):=by omega
 have nM:¬((i:Int)=(n:Int)):=by omega
 have hz3:(c:Int)<(n:Int)+(q:Int):=by omega
 have hkk:(n:Int)+(q:Int)-(i:Int)=((n+q-i:Nat):Int):=by omega
 have hik:i+(n+q-i)=n+q:=by omega
 have hold:(ab5 i73.size i (.slice (V ⟨b,off,G⟩) i c)).run Tryz.prog w.drew= .ok (cs.take (i*2)).toArray w.drew:=by
  rw[AN];exact run_firstCells_some w.drew 2 i ⟨b,off,G⟩ i c (cs.take (i*2)) (by rw[dE,I.cl];omega) (λj v hj=>by
   rw[abG];rw[fw] at hj;split at hj
   ·exact I.hc j v hj
   ·cases hj)
 obtain ⟨ge,hG⟩:∃ge,ge=grownCap w (n+q) c 73:=⟨_,rfl⟩;obtain ⟨zM,arl⟩:∃zM:Array BL,zM=(cs.take (i*2)).toArray++aa5 (i73.zero.get!).cells (n+q-i)++aa5 (i73.zero.get!).cells (ge-(n+q)):=⟨_,rfl⟩;have hrz:∀ty,(aa7 #[40,3] ty #[.slice (V ⟨b,off,G⟩) i c,.int .i64 ((n:Int)+(q:Int)-(i:Int))]).run Tryz.prog w= .ok (.slice (V ⟨w.heap.size,0,G⟩) (n+q) ge) (w.drew.alloc (.cells zM 73)):=λty=>by
  have h:=Lib.run_append_grow_zeros w 40 3 ty 73 i73 _ .i64 .i64 Tryz.underlying40 Tryz.underlying3 MU z73 (V ⟨b,off,G⟩) i c (cs.take (i*2)) hold (n+q-i) (by omega) (by rw[AN];omega) (by omega) (by omega) (by rw[b73];omega) (by rw[b73,hik];exact growslice_fits nT (by omega))
  rw[hik,<-hG,<-arl] at h;rw[hkk];exact h
 have hGn:n+q<=ge:=by rw[hG];exact grownCap_ge w _ _ _
 have hRl:zM.size=ge*2:=by
  rw[arl];simp[aa5,aAx,I.cl];omega
 have hRg:∀t,t<i*2->zM[t]? =cs[t]? :=λt ht=>by
  rw[arl,LN (by simp[aa5,aAx,I.cl];omega),LN (by simp[I.cl];omega),LM,fw,aF ht]
 obtain ⟨W1,vw⟩:∃W1,W1=w.drew.alloc (.cells zM 73):=⟨_,rfl⟩;have hN:∀j,j<ge*2->(W1.cell? ⟨w.heap.size,j,G⟩).isSome=M:=λj hj=>by
  rw[vw,World.cell?_alloc_at (w:=w.drew) zM _ w.heap.size j rfl,By (by omega)];rfl
 have hNf:∀j,W1.frozen? ⟨w.heap.size,j,G⟩=B:=λj=>by rw[vw];exact World.frozen?_alloc_at (w:=w.drew) zM _ w.heap.size j rfl
 have hOb:∀j v,w.cell? ⟨b,j,G⟩=V v->W1.cell? ⟨b,j,G⟩=V v:=λj v h=>by rw[vw,World.cell?_alloc_past (w:=w.drew) _ b j hbw];exact h
 have hOv:∀j v,w.cell? ⟨vb,j,G⟩=V v->W1.cell? ⟨vb,j,G⟩=V v:=λj v h=>by rw[vw,World.cell?_alloc_past (w:=w.drew) _ vb j hvw];exact h
 have hG63:ge<=9223372036854775807:=by
  have:=grownCap_le_maxLen w (n+q) c 73 (by unfold maxLen;omega)
  rw[<-hG] at this;unfold maxLen at this;omega
 have hcpA:∀(W:World),(∀x,W.cell? x=W1.cell? x)->(∀x,W.frozen? x=W1.frozen? x)->∀ty dc,(aa4 #[40,40] ty #[.slice (V ⟨w.heap.size,i*2,G⟩) (n+q-i) dc,.slice (V ⟨vb,kE,G⟩) q vc]).run Tryz.prog W= .ok (goInt (q:Nat)) (W.setCells w.heap.size (i*2) vs):=λW hWc hWf ty dc=>
  Px W 40 40 ty 73 i73 2 w.heap.size (i*2) (n+q-i) dc ⟨vb,kE,G⟩ q vc q vs Tryz.underlying40 MU AN (by simp only[SD];split<;>omega) I.vl
   (λj v hj=>by rw[abG,hWc];exact hOv _ v (I.hv j v hj))
   (λj hj=>by rw[hWc];rw[I.vl] at hj;exact hN _ (by omega)) (λj hj=>by rw[hWf];exact hNf _) I.h2
 have hbN:b≠w.heap.size:=by omega
 have sD:(cs.drop (i*2)).length=(n-i)*2:=by rw[jq,I.cl,Bw]
 have hcpB:∀(W:World),(∀x,W.cell? x=(W1.setCells w.heap.size (i*2) vs).cell? x)->(∀x,W.frozen? x=(W1.setCells w.heap.size (i*2) vs).frozen? x)->∀ty dc sc,(aa4 #[40,40] ty #[.slice (V ⟨w.heap.size,(i+q)*2,G⟩) (n+q-(i+q)) dc,.slice (V ⟨b,off+i*2,G⟩) (n-i) sc]).run Tryz.prog W= .ok (goInt (n-i:Nat)) (W.setCells w.heap.size ((i+q)*2) (cs.drop (i*2))):=λW hWc hWf ty dc sc=>
  Px W 40 40 ty 73 i73 2 w.heap.size ((i+q)*2) (n+q-(i+q)) dc ⟨b,off+i*2,G⟩ (n-i) sc (n-i) (cs.drop (i*2)) Tryz.underlying40 MU AN (by simp only[SD];split<;>omega) sD
   (λj v hj=>by
    rw[abG,hWc,ac9 _ _ _ _ _ (λh _=>absurd h hbN),gL]
    exact hOb _ v (I.hc (i*2+j) v (by rwa[fh] at hj)))
   (λj hj=>by rw[sD] at hj;rw[hWc];exact Bj _ _ _ _ (λt ht=>by rw[I.vl] at ht;exact hN _ (by omega)) _ (hN _ (by omega)))
   (λj hj=>by rw[hWf,ac7];exact hNf _) (λv hv=>I.h1 v (oG hv))
 have hGi:¬(ge=i):=by omega
 have hGim:¬(ge=i+q):=by omega
 have hci:¬(c=i):=by omega
 have hw1:IntKind.i64.wrap ((i:Int)+(q:Int))=(i:Int)+(q:Int):=by rw[IntKind.wrap_i64];omega
 have hb1:(0:Int)<=(i:Int)+(q:Int):=by omega
 have jD:i<=n:=by omega
 have htn:((i:Int)+(q:Int)).toNat=i+q:=by omega
 have hb3:(i:Int)<=(n:Int):=by omega
 rw[<-vw] at hrz;have hW:Hid (W1=w.drew.alloc (.cells zM 73)):=vw;have hA:=λty dc=>hcpA W1 (λ_=>rfl) (λ_=>rfl) ty dc
 obtain ⟨W2,hW2⟩:∃W2,W2=W1.setCells w.heap.size (i*2) vs:=⟨_,rfl⟩;rw[<-hW2] at hA;have hB:=λty dc sc=>hcpB W2.drew (λ_=>by rw[hW2];rfl) (λ_=>by rw[hW2];rfl) ty dc sc
 have hW2':Hid (W2=W1.setCells w.heap.size (i*2) vs):=hW2;clear hkk hik hold arl hG I hN hNf hOb hOv hcpA hcpB sD vw hW2 hbw hvw;go_enter Tryz.func184,Tryz.ntmps184;go_wp2_with (first
  |(at_builtin;refine Lib.wpList_append_run _ rfl _ _ _ _ rfl _ _ rfl rfl _ _ (hrz _) ?_)
  |(at_builtin;refine wpC _ rfl _ _ 40 40 rfl _ _ rfl rfl (hA _ _) ?_))
 go_region_law (refine aDU rfl _ _ 40 40 rfl (.slice (V ⟨w.heap.size,(i+q)*2,G⟩) (n+q-(i+q)) (ge-(i+q))) (.slice (V ⟨b,off+i*2,G⟩) (n-i) (c-i)) (by simp[Act.eval,Act.put]) (by simp[Act.eval,Act.put]) (hB 3 (ge-(i+q)) (c-i)) ?_)
 go_wp2;go_ret;exact ⟨ge,rfl,hGn,zM,hRl,hRg,by rw[hW2'.out,hW.out]⟩
def aJm {xs ys:List J} (hk:k<=xs.length) (t:Nat):(CB xs k ys)[t]? =if t<k then xs[t]? else if t<k+ys.length then ys[t-k]? else xs[t-ys.length]? :=by
 show (xs.take k++(ys++xs.drop k))[t]? =_;rw[sM,dE,fu hk];by_cases q1:t<k
 ·rw[aF q1,aF q1,fw,aF q1]
 ·rw[aC q1,aC q1,sM];by_cases q2:t<k+ys.length
  ·rw[aF (by omega),aF q2]
  ·rw[aC (by omega),aC q2,fh]
   congr 1;omega
def aBy:aHx Tryz.prog 184 73 2:=by
 refine ⟨⟨_,Tryz.func184,by kernel_rfl,by rw[show Tryz.f184.name= "slices.Insert[[]partsync/api.Column,partsync/api.Column]" by kernel_rfl];decide⟩,λm w b off n c i vb kE q vc cur Kw ev hb hvb cR hcs yF h1 h2 vV Ac hq hq6 jD=>ab6.2 ?_⟩
 have Py:∀t,w.cell? ⟨b,t,G⟩=cur[t]? :=λt=>wc hb
 have aSw:∀t,w.cell? ⟨vb,t,G⟩=Kw[t]? :=λt=>wc hvb
 obtain ⟨cs,aCd⟩:∃cs,cs=(cur.toList.drop off).take (n*2):=⟨_,rfl⟩;obtain ⟨vs,aBU⟩:∃vs,vs=(Kw.toList.drop kE).take (q*2):=⟨_,rfl⟩;have lc:cs.length=n*2:=by rw[aCd];simp;omega
 have lv:vs.length=q*2:=by rw[aBU];simp;omega
 have gc:∀t,t<n*2->cs[t]? =cur[off+t]? :=λt ht=>by rw[aCd,fw,aF ht,fh,mC]
 have gv:∀t,t<q*2->vs[t]? =Kw[kE+t]? :=λt ht=>by rw[aBU,fw,aF ht,fh,mC]
 have I:aiS w b off n c vb kE q vc cs vs:=by
  refine ⟨lc,lv,λt v hv=> ?_,λt v hv=> ?_,λt ht=> ?_,λt ht=> ?_,λv hv=> ?_,λv hv=> ?_⟩
  ·have ht:t<n*2:=by have:=(bK.1 hv).1;rwa[lc] at this
   rw[Py,<-gc t ht];exact hv
  ·have ht:t<q*2:=by have:=(bK.1 hv).1;rwa[lv] at this
   rw[aSw,<-gv t ht];exact hv
  ·rw[Py,By (by omega)];rfl
  ·simp[ac1,hb]
  ·let ⟨t,ht,e⟩:=Hu hv;rw[lc] at ht;refine h1 t ht v ?_;rw[<-gc t ht,<-e];exact cX _
  ·let ⟨t,ht,e⟩:=Hu hv;rw[lv] at ht;refine h2 t ht v ?_;rw[<-gv t ht,<-e];exact cX _
 rw[<-aCd,<-aBU];have ge:∀t,(CB cs (i*2) vs)[t]? =if t<i*2 then cs[t]? else if t<i*2+q*2 then vs[t-i*2]? else cs[t-q*2]? :=λt=>by
  rw[aJm (by rw[lc];omega),lv]
 rcases Nat.eq_or_lt_of_le jD with rfl|dz
 ·by_cases nT:i+q<=c
  ·refine (agU b off i c vb kE q vc cs vs w I hq nT).mono ?_;rintro r w' ⟨rfl,rfl⟩;let ⟨c1,a1,a2,a3⟩:=nf vs (off+i*2) w cur hb (by rw[lv];omega)
   refine ⟨b,off,c,c1,rfl,nT,by rw[a2];exact hcs,λt ht=> ?_,.inl ⟨rfl,rfl,a1⟩⟩
   rw[ge,a3,lv];by_cases q1:t<i*2
   ·rw[aC (by omega),aF q1,gc t q1]
   ·rw[aF (by omega),aC q1,aF (by omega),show off+t-(off+i*2)=t-i*2 by omega]
  ·refine (agV b off i c vb kE q vc cs vs w I hq (by omega) Ac hq6 vV).mono ?_
   rintro r w' ⟨G',rfl,hG,c1,oQ,om,hw⟩;refine ⟨w.heap.size,0,G',c1,rfl,hG,by omega,λt ht=> ?_,.inr ⟨rfl,rfl,hw⟩⟩
   rw[ge,cq,om t ht,sM,lc];by_cases q1:t<i*2
   ·rw[aF q1,aF q1]
   ·rw[aC q1,aC q1,aF (by omega)]
 ·have hld:(cs.drop (i*2)).length=(n-i)*2:=by rw[jq,lc,Bw]
  by_cases nT:n+q<=c
  ·refine (ayx b off n c i vb kE q vc cs vs w I dz hq nT cR Ac hq6 ev 73 Kw.size cur.size (by simp[World.shape?,hvb]) (by simp[World.shape?,hb]) (by omega) (by simp[ac1,hvb]) (by simp[ac1,hvb])).mono ?_
   rintro r w' ⟨rfl,rfl⟩;let ⟨c1,a1,a2,a3⟩:=nf (cs.drop (i*2)) (off+(i+q)*2) w.drew cur hb (by rw[hld];omega)
   let ⟨c2,b1,b2,b3⟩:=nf vs (off+i*2) _ c1 a1.heap (by rw[lv,a2];omega)
   refine ⟨b,off,c,c2,rfl,nT,by rw[b2,a2];exact hcs,λt ht=> ?_,.inl ⟨rfl,rfl,⟨b1.heap,b1.size.trans a1.size,λk hk=>(b1.Lv k hk).trans (a1.Lv k hk),b1.os.trans a1.os,b1.tape.trans a1.tape,b1.output.trans a1.output⟩⟩⟩
   rw[ge,b3,lv];by_cases q1:t<i*2
   ·rw[aC (by omega),aF q1,a3,aC (by omega),gc t (by omega)]
   ·rw[aC q1];by_cases q2:t<i*2+q*2
    ·rw[aF (by omega),aF q2,show off+t-(off+i*2)=t-i*2 by omega]
    ·rw[aC (by omega),aC q2,a3,aF (by rw[hld];omega),fh]
     congr 1;omega
  ·have hbw:=(oI.1 hb).1;have hvw:=(oI.1 hvb).1;refine (aBx b off n c i vb kE q vc cs vs w I dz hq (by omega) Ac hq6 vV hbw hvw).mono ?_
   rintro r w' ⟨G',rfl,hG,zM,oQ,om,rfl⟩;have hW:(w.drew.alloc (.cells zM 73)).heap[w.heap.size]? =V (.cells zM 73 (0,0)):=heap_alloc_new w.drew _;let ⟨c1,a1,a2,a3⟩:=nf vs (i*2) _ zM hW (by rw[lv];omega)
   let ⟨c2,b1,b2,b3⟩:=nf (cs.drop (i*2)) ((i+q)*2) (World.drew _) c1 a1.heap (by rw[hld,a2];omega)
   refine ⟨w.heap.size,0,G',c2,rfl,hG,by omega,λt ht=> ?_,.inr ⟨rfl,rfl,?_,b1.os.trans a1.os,b1.tape.trans a1.tape,b1.output.trans a1.output⟩⟩
   ·rw[ge,cq,b3,hld];by_cases q1:t<i*2
    ·rw[aC (by omega),aF q1,a3,aC (by omega),om t q1]
    ·rw[aC q1];by_cases q2:t<i*2+q*2
     ·rw[aC (by omega),aF q2,a3,aF (by rw[lv];omega)]
     ·rw[aF (by omega),aC q2,fh]
      congr 1;omega
   ·have hs:((w.drew.alloc (.cells zM 73))).heap.size=w.heap.size+1:=by simp
    apply Array.ext_getElem?;intro k;rw[Array.getElem?_push];by_cases hk:k=w.heap.size
    ·subst hk;rw[aF rfl];exact b1.heap
    ·rw[aC hk,b1.Lv k hk];refine (a1.Lv k hk).trans ?_;by_cases yH:k<w.heap.size
     ·exact heap_alloc_old w.drew _ yH
     ·rw[Ht (by rw[hs];omega),Ht (by omega)]
end Go.Proofs.YtbnkhmoelnfjoaaGreat
namespace Go.Proofs.YtbnkhmoelnfjoaaGreat
open Go.RowKit Go.bL
variable {E:Env}
def aQI (hP:E.P=Tryz.prog) (hT:E.ty=tyT) (h:E.apJ= [(182,146),(184,147),(185,88),(165,1048576),(219,1048577)]):∀k c,JS k E.apJ=V c->KJ E k c:=λk c hc=>by
 rw[h] at hc;have hc:aS (iX 182 k) (V 146) (JS k _)=V c:=hc;rw[cI] at hc;split at hc
 ·rename_i e;obtain rfl:=(beq_iff _ _).1 e;cases hc;exact ⟨λh=>absurd h (by decide),λ_ ie hie=>⟨λ_=>by rw[hT] at hie;rw[hP,show ie.size=2 from by rw[show ie=_ from (lp (hie.symm.trans (show tyT.get 73=V _ from rfl)))];kernel_rfl];exact aCP,λh=>absurd rfl h⟩⟩
 have hc:aS (iX 184 k) (V 147) (JS k _)=V c:=hc;rw[cI] at hc;split at hc
 ·rename_i e;obtain rfl:=(beq_iff _ _).1 e;cases hc;exact ⟨λh=>absurd h (by decide),λ_ ie hie=>⟨λh=>absurd h (by decide),λ_=>by rw[hT] at hie;rw[hP,show ie.size=2 from by rw[show ie=_ from (lp (hie.symm.trans (show tyT.get 73=V _ from rfl)))];kernel_rfl];exact aBy⟩⟩
 have hc:aS (iX 185 k) (V 88) (JS k _)=V c:=hc;rw[cI] at hc;split at hc
 ·rename_i e;obtain rfl:=(beq_iff _ _).1 e;cases hc;exact ⟨λh=>absurd h (by decide),λ_ ie hie=>⟨λ_=>by rw[hT] at hie;rw[hP,show ie.size=5 from by rw[show ie=_ from (lp (hie.symm.trans (show tyT.get 44=V _ from rfl)))];kernel_rfl];exact aCO,λh=>absurd rfl h⟩⟩
 have hc:aS (iX 165 k) (V 1048576) (JS k _)=V c:=hc;rw[cI] at hc;split at hc
 ·rename_i e;obtain rfl:=(beq_iff _ _).1 e;cases hc;exact ⟨λ_=>by rw[hP];exact avP,λh=>absurd h (by decide)⟩
 have hc:aS (iX 219 k) (V 1048577) G=V c:=hc;rw[cI] at hc;split at hc
 ·rename_i e;obtain rfl:=(beq_iff _ _).1 e;cases hc;exact ⟨λ_=>by rw[hP];exact ahP,λh=>absurd h (by decide)⟩
 cases hc
end Go.Proofs.YtbnkhmoelnfjoaaGreat
namespace Go.Proofs.YtbnkhmoelnfjoaaGreat
open Go.bL
variable {J g7:Type} {s:SV} {r:SV×hJ} {new nx' K:Nat} {svs vs as':bf} {z:Int} {rest:Mn} {e:Ex} {y:AV} {gP:cZ}
def E0:Env:=⟨Tryz.prog,tyT,aCq,[],[],[],[],[],[],[]⟩
instance:K7 E0:=⟨λk fn h=>have ⟨h1,h2,_⟩:=ui.get apM.fn k fn h;⟨h1,h2⟩⟩
def aCJ (x:Int):List AV:= [.int .i64 x]
def dM (xs:List Int):List (List AV):=xs.map aCJ
def avX (xs:List Int):dM xs=xs.map aCJ:=rfl
def R3:RowsK aCJ dM:=⟨avX⟩
def ahJ (x:Int):List AV:= [.int .u8 x]
def Bd (xs:List Int):List (List AV):=xs.map ahJ
def aah (xs:List Int):Bd xs=xs.map ahJ:=rfl
def R5:RowsK ahJ Bd:=⟨aah⟩
structure cF where
 aM:ByteArray
 aE:Int
def Ks (x:cF):List AV:= [.str x.aM,.int .i64 x.aE]
def eK (xs:List cF):List (List AV):=xs.map Ks
def apW (xs:List cF):eK xs=xs.map Ks:=rfl
def fk:RowsK Ks eK:=⟨apW⟩
structure bq where
 ag:(List Int)
 av:Int
def EW (x:bq):List AV:= [.slice 3 1 x.ag.length (dM x.ag),.int .i64 x.av]
def eD (xs:List bq):List (List AV):=xs.map EW
def alw (xs:List bq):eD xs=xs.map EW:=rfl
def fD:RowsK EW eD:=⟨alw⟩
structure aT where
 aE:Int
 dj:Int
 cM:ByteArray
def ir (x:aT):List AV:= [.int .i64 x.aE,.int .i64 x.dj,.str x.cM]
def db (xs:List aT):List (List AV):=xs.map ir
def aqc (xs:List aT):db xs=xs.map ir:=rfl
def jh:RowsK ir db:=⟨aqc⟩
structure bO where
 aE:Int
 dk:Int
 bk:aT
def rY (x:bO):List AV:= [.int .i64 x.aE,.int .i64 x.dk,.int .i64 x.bk.aE,.int .i64 x.bk.dj,.str x.bk.cM]
def O4 (xs:List bO):List (List AV):=xs.map rY
def alA (xs:List bO):O4 xs=xs.map rY:=rfl
def asV:RowsK rY O4:=⟨alA⟩
structure aj where
 bg:Int
 fI:Int
 cQ:bO
 cx:bO
 fArgs:(List aj)
mutual
def Zu:aj->List AV
 |⟨bg,fI,cQ,cx,fArgs⟩=> [.int .i64 bg,.int .i64 fI,.int .i64 cQ.aE,.int .i64 cQ.dk,.int .i64 cQ.bk.aE,.int .i64 cQ.bk.dj,.str cQ.bk.cM,.int .i64 cx.aE,.int .i64 cx.dk,.int .i64 cx.bk.aE,.int .i64 cx.bk.dj,.str cx.bk.cM,.slice 107 13 fArgs.length (dV fArgs)]
def dV:List aj->List (List AV)
 | []=> []
 |x::xs=>Zu x::dV xs
end
def fW (x:aj):List AV:= [.int .i64 x.bg,.int .i64 x.fI,.int .i64 x.cQ.aE,.int .i64 x.cQ.dk,.int .i64 x.cQ.bk.aE,.int .i64 x.cQ.bk.dj,.str x.cQ.bk.cM,.int .i64 x.cx.aE,.int .i64 x.cx.dk,.int .i64 x.cx.bk.aE,.int .i64 x.cx.bk.dj,.str x.cx.bk.cM,.slice 107 13 x.fArgs.length (dV x.fArgs)]
def arH (x:aj):Zu x=fW x:=by cases x;simp[Zu,fW]
def alz (xs:List aj):dV xs=xs.map fW:=by
 induction xs with
 |nil=>simp[dV]
 |cons x xs ih=>simp[dV,ih,arH]
def fa:RowsK fW dV:=⟨alz⟩
structure ai where
 aM:ByteArray
 ag:(List cF)
 aH:Int
 ar:(List bq)
 aL:(List aj)
def jN (x:ai):List AV:= [.str x.aM,.slice 73 2 x.ag.length (eK x.ag),.int .i64 x.aH,.slice 121 2 x.ar.length (eD x.ar),.slice 107 13 x.aL.length (dV x.aL)]
def dG (xs:List ai):List (List AV):=xs.map jN
def aqa (xs:List ai):dG xs=xs.map jN:=rfl
def cy:RowsK jN dG:=⟨aqa⟩
structure ae where
 aA:Int
 ah:(List ai)
def cG (x:ae):List AV:= [.int .i64 x.aA,.slice 44 5 x.ah.length (dG x.ah)]
def S9 (xs:List ae):List (List AV):=xs.map cG
def aqd (xs:List ae):S9 xs=xs.map cG:=rfl
def IA:RowsK cG S9:=⟨aqd⟩
structure iH where
 f0:aT
 f1:aT
def B7 (x:iH):List AV:= [.int .i64 x.f0.aE,.int .i64 x.f0.dj,.str x.f0.cM,.int .i64 x.f1.aE,.int .i64 x.f1.dj,.str x.f1.cM]
def kr (xs:List iH):List (List AV):=xs.map B7
def aly (xs:List iH):kr xs=xs.map B7:=rfl
def E8:RowsK B7 kr:=⟨aly⟩
def arK (x:(List iH)):List AV:= [.slice 110 6 x.length (kr x)]
def HO (xs:List (List iH)):List (List AV):=xs.map arK
def aqb (xs:List (List iH)):HO xs=xs.map arK:=rfl
def R39:RowsK arK HO:=⟨aqb⟩
structure aG where
 bg:Int
 av:Int
 ba:Int
 kM:Int
 aM:ByteArray
 aE:Int
 bk:aT
 cA:(List iH)
 bt:ai
def nU (x:aG):List AV:= [.int .i64 x.bg,.int .i64 x.av,.int .i64 x.ba,.int .i64 x.kM,.str x.aM,.int .i64 x.aE,.int .i64 x.bk.aE,.int .i64 x.bk.dj,.str x.bk.cM,.slice 110 6 x.cA.length (kr x.cA),.str x.bt.aM,.slice 73 2 x.bt.ag.length (eK x.bt.ag),.int .i64 x.bt.aH,.slice 121 2 x.bt.ar.length (eD x.bt.ar),.slice 107 13 x.bt.aL.length (dV x.bt.aL)]
def qt (xs:List aG):List (List AV):=xs.map nU
def apZ (xs:List aG):qt xs=xs.map nU:=rfl
def NA:RowsK nU qt:=⟨apZ⟩
structure aN where
 qH:(List Int)
 CW:Int
def fA (x:aN):List AV:= [.sy 5 1 x.qH.length (Bd x.qH),.int .i64 x.CW]
def arI (x:(List aT)):List AV:= [.slice 38 3 x.length (db x)]
def iM (xs:List (List aT)):List (List AV):=xs.map arI
def apX (xs:List (List aT)):iM xs=xs.map arI:=rfl
def jW:RowsK arI iM:=⟨apX⟩
def arJ (x:(List (List aT))):List AV:= [.slice 70 1 x.length (iM x)]
def pH (xs:List (List (List aT))):List (List AV):=xs.map arJ
def apY (xs:List (List (List aT))):pH xs=xs.map arJ:=rfl
def po:RowsK arJ pH:=⟨apY⟩
structure aw where
 ah:(List (List (List aT)))
def vz (x:aw):List AV:= [.slice 68 1 x.ah.length (pH x.ah)]
structure cE where
 bg:Int
 av:Int
 aH:(List aT)
 ag:(List Int)
 xu:(List aT)
def oT (x:cE):List AV:= [.int .i64 x.bg,.int .i64 x.av,.slice 38 3 x.aH.length (db x.aH),.slice 3 1 x.ag.length (dM x.ag),.slice 38 3 x.xu.length (db x.xu)]
def s8 (xs:List cE):List (List AV):=xs.map oT
def alx (xs:List cE):s8 xs=xs.map oT:=rfl
def NC:RowsK oT s8:=⟨alx⟩
structure bB where
 av:Int
 dS:(List aT)
 dP:(List aT)
def kI (x:bB):List AV:= [.int .i64 x.av,.slice 38 3 x.dS.length (db x.dS),.slice 38 3 x.dP.length (db x.dP)]
def nH (xs:List bB):List (List AV):=xs.map kI
def alu (xs:List bB):nH xs=xs.map kI:=rfl
def qa:RowsK kI nH:=⟨alu⟩
structure eM where
 AO:(List ae)
 B5:(List aG)
def qJ (x:eM):List AV:= [.sy 25 2 x.AO.length (S9 x.AO),.sy 46 15 x.B5.length (qt x.B5)]
structure dR where
 gX:Int
 fV:Int
 dL:Bool
 fU:aT
 cU:(List (List iH))
def Ir (x:dR):List AV:= [.int .i64 x.gX,.int .i64 x.fV,.bool x.dL,.int .i64 x.fU.aE,.int .i64 x.fU.dj,.str x.fU.cM,.slice 39 1 x.cU.length (HO x.cU)]
def uW (xs:List dR):List (List AV):=xs.map Ir
def alv (xs:List dR):uW xs=xs.map Ir:=rfl
def ail:RowsK Ir uW:=⟨alv⟩
def ahK (x:Nat):List AV:= [(aSu x)]
def O3 (xs:List Nat):List (List AV):=xs.map ahK
def als (xs:List Nat):O3 xs=xs.map ahK:=rfl
def NB:RowsK ahK O3:=⟨als⟩
structure aJ where
 bZ:ae
 fm:aG
def EV (x:aJ):List AV:= [.int .i64 x.bZ.aA,.slice 44 5 x.bZ.ah.length (dG x.bZ.ah),.int .i64 x.fm.bg,.int .i64 x.fm.av,.int .i64 x.fm.ba,.int .i64 x.fm.kM,.str x.fm.aM,.int .i64 x.fm.aE,.int .i64 x.fm.bk.aE,.int .i64 x.fm.bk.dj,.str x.fm.bk.cM,.slice 110 6 x.fm.cA.length (kr x.fm.cA),.str x.fm.bt.aM,.slice 73 2 x.fm.bt.ag.length (eK x.fm.bt.ag),.int .i64 x.fm.bt.aH,.slice 121 2 x.fm.bt.ar.length (eD x.fm.bt.ar),.slice 107 13 x.fm.bt.aL.length (dV x.fm.bt.aL)]
structure mQ where
 mu:(List Int)
 oo:(List Int)
def Nc (x:mQ):List AV:= [.slice 3 1 x.mu.length (dM x.mu),.slice 3 1 x.oo.length (dM x.oo)]
def Ue (x:(List dR)):List AV:= [.slice 140 7 x.length (uW x)]
structure Hh where
 f0:(List aT)
 f1:(List aT)
def ayL (x:Hh):List AV:= [.slice 38 3 x.f0.length (db x.f0),.slice 38 3 x.f1.length (db x.f1)]
structure lS where
 f0:bO
 f1:bO
def Ud (x:lS):List AV:= [.int .i64 x.f0.aE,.int .i64 x.f0.dk,.int .i64 x.f0.bk.aE,.int .i64 x.f0.bk.dj,.str x.f0.bk.cM,.int .i64 x.f1.aE,.int .i64 x.f1.dk,.int .i64 x.f1.bk.aE,.int .i64 x.f1.bk.dj,.str x.f1.bk.cM]
abbrev aP:=List Int
abbrev gq:=List iH
abbrev lz:=List dR
abbrev bD:=List ai
abbrev bp:=List aT
abbrev re:=List cE
abbrev bC:=List bB
abbrev di:=List cF
abbrev gZ:=List ae
abbrev vB:=List bO
abbrev cH:=List aG
abbrev bQ:=List bq
abbrev bw:=List aj
abbrev tw:=List (List iH)
abbrev bn:=List (List aT)
abbrev cf:=List (List (List aT))
abbrev Wf0:=aP->A aP
abbrev Wf1:=Z->aN->A (Z×aN)
abbrev Wf2:=Z->Int->aN->A (Z×aN)
abbrev Wf3:=aP->Int->aN->bO->vB->A (bO×aN)
abbrev Wf4:=Int->aN->bO->vB->A (bO×aN)
abbrev Wf5:=aN->aj->aj->bw->A (aj×aN)
abbrev Wf6:=Int->A Int
abbrev Wf7:=Int->Int->di->Int->cF->cF->Int->Bool->ai->A Bool
abbrev Wf8:=bQ->Int->Int->Int->bD->Int->aP->Int->bD->Int->ai->ai->Int->ae->ai->bq->A Bool
abbrev Wf9:=bQ->Int->Int->ae->ai->A Bool
abbrev Ny:=ae->A Int
abbrev ZH:=bD->Int->Int->ae->A Int
abbrev ZG:=Int->Int->ae->A Int
abbrev Wf13:=ai->ai->di->bQ->A ai
abbrev aDo:=aP->Int->Int->A aP
abbrev asS:=aP->aj->A aP
abbrev asR:=Int->bQ->Int->Int->ai->A Bool
abbrev asQ:=Int->bw->Int->Int->A Bool
abbrev asP:=aj->aj->bw->A aj
abbrev aij:=Int->Int->Int->Int->di->bw->ai->ai->bQ->A (ai×di×bQ×bw)
abbrev Wf20:=Int->Int->di->bw->ai->ai->bQ->A (ai×di×bQ×bw)
abbrev Wf21:=di->bw->ai->ai->bQ->A (ai×di×bQ×bw)
abbrev Wf22:=gq->Int->Int->Int->gq->Int->Int->Int->Int->gq->Int->Int->iH->A Bool
abbrev Wf23:=gq->Int->Int->Int->gq->Int->Int->Int->Int->iH->A Bool
abbrev Wf24:=gq->Int->gq->Int->Int->A Bool
abbrev Wf25:=ae->aG->ae->ae->bD->A (ae×Bool)
abbrev Wf26:=Nat->aG->ae->ae->di->bD->A (ae×Bool)
abbrev Wf27:=ae->ae->bD->A (ae×Bool)
abbrev Wf28:=Int->Int->ae->aG->ae->ae->ai->di->bw->bD->bD->ai->Nat->Nat->bQ->A (ae×Bool)
abbrev aDn:=Int->Int->ae->aG->ae->ae->bD->bD->Nat->A (ae×Bool)
abbrev Wf30:=ae->ae->bD->bD->Nat->A (ae×Bool)
abbrev ZF:=Int->aN->ae->cH->A (cH×aN)
abbrev Wf32:=aN->cH->A (cH×aN)
abbrev Wf33:=bD->Int->Int->bQ->Int->Int->Int->bD->Int->ae->ai->bq->A Bool
abbrev Wf34:=bD->Int->Int->bQ->Int->Int->ae->ai->A Bool
abbrev asO:=bD->Int->Int->ae->A Bool
abbrev Wf36:=bw->Int->Int->mQ->A Bool
abbrev aDm:=Int->bp->Int->Int->ai->A Bool
abbrev asN:=bp->bp->A Int
abbrev asM:=Int->cf->Int->Int->ae->A Int
abbrev Wf40:=aJ->aj->aj->bw->A aj
abbrev Wf41:=ai->ai->ai->di->bQ->A ai
abbrev Wf42:=ai->ai->di->bw->bQ->A ai
abbrev Wf43:=ae->ae->bD->A ae
abbrev Wf44:=lS->Int->aP->aj->A (aP×aP)
abbrev Wf45:=aP->aj->A (aP×aP)
abbrev Wf46:=lS->Int->aP->aj->A aP
abbrev asL:=Nat->Int->Int->aJ->bD->ai->bQ->A aJ
abbrev Nx:=Int->Int->aJ->bD->A (Bool×aJ)
abbrev asK:=aJ->bD->A (Bool×aJ)
abbrev asJ:=Int->Int->Int->bn->A bn
abbrev Wf51:=Int->gq->Int->Int->aT->aT->A aT
abbrev ZE:=aT->aT->A aT
abbrev aDl:=cH->Int->Int->dR->dR->tw->A dR
abbrev Wf54:=dR->dR->tw->A dR
abbrev Wf55:=bp->lz->Int->Int->bp->A bp
abbrev asI:=Int->Int->aw->aw->eM->aw->cf->A (aw×Int)
abbrev asH:=aw->aw->cf->A (aw×Int)
abbrev Wf58:=cE->cE->cE->aP->bp->bp->A (cE×Bool)
abbrev aDk:=Int->Int->aP->Int->Int->aN->bp->A (bp×aN)
abbrev Wf60:=Int->bp->bp->Bool->bn->Int->Int->cf->ae->aw->aw->bn->A (aw×cf)
abbrev Wf61:=Int->bp->Bool->cf->aw->aw->bn->A (aw×cf)
abbrev asG:=Int->Int->Int->aN->ae->aw->aw->cf->A (aw×aN)
abbrev Wf63:=aN->aw->aw->cf->A (aw×aN)
abbrev Wf64:=Int->Hh->Int->ae->bB->A Bool
abbrev Wf65:=bn->bp->Int->Int->ae->bB->A (Int×Bool×ae×bB)
abbrev asF:=Int->bC->cf->Int->Int->ae->aw->aw->cf->A (aw×Int)
abbrev Wf67:=Int->bC->ae->aw->aw->cf->A (aw×Int)
abbrev Wf68:=cf->Int->Int->aw->aw->bn->cf->A aw
abbrev Wf69:=cf->Int->Int->aw->aw->cf->A aw
abbrev Wf70:=aw->aw->cf->A aw
abbrev aDj:=Int->Int->aN->ae->aw->aw->bC->cf->A (bC×aw×aN)
abbrev Wf72:=aN->aw->aw->bC->cf->A (bC×aw×aN)
abbrev Wf73:=ae->Int->A (Int×ae×Int)
abbrev R7:=Int->Int->Int->bC->ae->A (bC×ae)
abbrev Wf75:=Int->Int->Int->Int->bC->ae->A (bC×ae)
abbrev asE:=Int->Int->bC->ae->A (bC×ae)
abbrev aDi:=Int->Int->bC->ae->bC->bB->bB->A (bC×Int)
abbrev Wf78:=Int->Int->bC->ae->bC->A (bC×Int)
abbrev asD:=Int->Int->eM->bC->bC->A (bC×Int)
def bj (x:aJ) (a1:AV):List AV:= [.int .i64 x.bZ.aA,a1,.int .i64 x.fm.bg,.int .i64 x.fm.av,.int .i64 x.fm.ba,.int .i64 x.fm.kM,.str x.fm.aM,.int .i64 x.fm.aE,.int .i64 x.fm.bk.aE,.int .i64 x.fm.bk.dj,.str x.fm.bk.cM,.slice 110 6 x.fm.cA.length (kr x.fm.cA),.str x.fm.bt.aM,.slice 73 2 x.fm.bt.ag.length (eK x.fm.bt.ag),.int .i64 x.fm.bt.aH,.slice 121 2 x.fm.bt.ar.length (eD x.fm.bt.ar),.slice 107 13 x.fm.bt.aL.length (dV x.fm.bt.aL)]
def bX (x:ai):List AV:= [.str x.aM,.undef,.int .i64 x.aH,.slice 121 2 x.ar.length (eD x.ar),.slice 107 13 x.aL.length (dV x.aL)]
def eR (x:ai):List AV:= [.str x.aM,.undef,.int .i64 x.aH,.undef,.slice 107 13 x.aL.length (dV x.aL)]
def fy (x:aj) (a12:AV):List AV:= [.int .i64 x.bg,.int .i64 x.fI,.int .i64 x.cQ.aE,.int .i64 x.cQ.dk,.int .i64 x.cQ.bk.aE,.int .i64 x.cQ.bk.dj,.str x.cQ.bk.cM,.int .i64 x.cx.aE,.int .i64 x.cx.dk,.int .i64 x.cx.bk.aE,.int .i64 x.cx.bk.dj,.str x.cx.bk.cM,a12]
def cP (x:ai):List AV:= [.str x.aM,.undef,.int .i64 x.aH,.undef,.undef]
def nI (x:ai):List AV:= [.str x.aM,.slice 73 2 x.ag.length (eK x.ag),.int .i64 x.aH,.slice 121 2 x.ar.length (eD x.ar),.undef]
def oL (x:dR) (a6:AV):List AV:= [.int .i64 x.gX,.int .i64 x.fV,.bool x.dL,.int .i64 x.fU.aE,.int .i64 x.fU.dj,.str x.fU.cM,a6]
def BC (x:ai):List AV:= [.str x.aM,.slice 73 2 x.ag.length (eK x.ag),.int .i64 x.aH,.undef,.slice 107 13 x.aL.length (dV x.aL)]
def tH (x:ai):List AV:= [.str x.aM,.slice 73 2 x.ag.length (eK x.ag),.int .i64 x.aH,.undef,.undef]
def eT (x:ai) (a1 a3 a4:AV):List AV:= [.str x.aM,a1,.int .i64 x.aH,a3,a4]
def zX (x:aG) (a2 a3 a4 a5 a6 a7 a8 a10 a12:AV):List AV:= [.int .i64 x.bg,.int .i64 x.av,a2,a3,a4,a5,a6,a7,a8,.slice 110 6 x.cA.length (kr x.cA),a10,.slice 73 2 x.bt.ag.length (eK x.bt.ag),a12,.slice 121 2 x.bt.ar.length (eD x.bt.ar),.slice 107 13 x.bt.aL.length (dV x.bt.aL)]
def kR (x:cE) (a2 a3 a4:AV):List AV:= [.int .i64 x.bg,.int .i64 x.av,a2,a3,a4]
def Z7 (x:ai) (a1:AV):List AV:= [.str x.aM,a1,.int .i64 x.aH,.slice 121 2 x.ar.length (eD x.ar),.slice 107 13 x.aL.length (dV x.aL)]
def yk (x:ai) (a4:AV):List AV:= [.str x.aM,.undef,.int .i64 x.aH,.undef,a4]
def ym (x:ai) (a1:AV):List AV:= [.str x.aM,a1,.int .i64 x.aH,.undef,.undef]
def yl (x:ai) (a3 a4:AV):List AV:= [.str x.aM,.undef,.int .i64 x.aH,a3,a4]
def yn (x:ai) (a1 a3:AV):List AV:= [.str x.aM,a1,.int .i64 x.aH,a3,.undef]
noncomputable section
def ow:List Sh:= [.d,.o B [.d,.d],.d,.o B [.o B [.d],.d],.o B [.d,.d,.d,.d,.d,.d,.d,.d,.d,.d,.d,.d,.d]]
def bM (a:Int):AV:= .int .i64 a
def q2_:Bx:= .flat 107 [.int .i64 0,.int .i64 0,.int .i64 0,.int .i64 0,.int .i64 0,.int .i64 0,.str vp,.int .i64 0,.int .i64 0,.int .i64 0,.int .i64 0,.str vp,.cr]
def td (a:ae) (b c:Nat):Bx:= .flat 25 [.int .i64 a.aA,.ms b 5 0 c]
def q4_ (a:ae):AV:= .int .i64 a.aA
def CP (a:bQ):Bx:= .tree 121 2 [.o B [.d],.d] (eD a) []
def q6_ (a:List AV) (b:Nat) (c:aJ):List (Nat×Bx):= [(0,.flat 184 a),(b,.tree 44 5 ow (dG c.bZ.ah) [])]
def HW (a:bC) (b:Nat) (c:List AV):List (Nat×Bx):= [(0,.rows B 156 3 (nH a)),(b,.flat 25 c)]
def ij (a:List AV):Bx:= .flat 25 a
def zZ (a:bD):Bx:= .tree 44 5 ow (dG a) []
def wZ (a:aP):Bx:= .rows B 3 1 (dM a)
def vL (a:cf):Bx:= .rows B 68 1 (pH a)
def xO (a:di):Bx:= .rows B 73 2 (eK a)
def AD (a:bC):Bx:= .rows M 156 3 (nH a)
def Cu (a:bp):Bx:= .rows M 38 3 (db a)
def xN (a:bn):Bx:= .rows M 70 1 (iM a)
def rj:Bx:= .flat 51 [.cr]
def GY (a:List (List AV)) (b c d e f g h i j:Nat):Bx:= .tree 44 5 ow a [(b,.ms c 13 0 d),(e,.ms f 2 0 g),(h,.ms i 2 0 j)]
def mV (a:List AV):Bx:= .flat 97 a
def ia (a:List AV):Bx:= .flat 44 a
def Em (a:bw):Bx:= .rows B 107 13 (dV a)
def l4 (a:List AV):Bx:= .flat 184 a
def q22_ (a:Nat) (b:ai) (c d:Nat):List (Nat×Bx):= [(a,.rows B 73 2 (eK b.ag)),(c,.tree 121 2 [.o B [.d],.d] (eD b.ar) []),(d,.rows B 107 13 (dV b.aL))]
def El (a:cH):Bx:= .rows B 46 15 (qt a)
def JP (a:bn):Bx:= .rows B 70 1 (iM a)
def GX (a:bw):Bx:= .rows M 107 13 (dV a)
def kY (a:List AV):Bx:= .flat 107 a
def qu (a:Int):List AV:= [.undef,bM a]
def aqo (a b:Nat) (c:ai) (d e f g:Nat):List (Nat×AV):= [(a,.ms b 2 0 c.ag.length),(d,.ms e 2 0 c.ar.length),(f,.ms g 13 0 c.aL.length)]
def Ek (a:Nat):Bx:= .flat 51 [.ms 32 1 0 a]
def Y2 (a:cf):Bx:= .tree 68 1 [.o B [.d]] (pH a) []
def AB (a:ae):Bx:= .flat 25 [q4_ a,.cr]
def Ej (a b:Nat):Bx:= .flat 51 [.ms a 1 0 b]
def GW (a:Nat):AV:= .fn 90 [] [.loc a 0]
def Ml (a:aP):Bx:= .rows M 3 1 (dM a)
def Y1 (a:gZ):Bx:= .rows B 25 2 (S9 a)
def q36_ (a:List AV) (b:aJ):List AV:= [.kH a,.int .i64 b.fm.ba]
def aqn (a b:List AV) (c:vB):List (Nat×Bx):= [(0,mV a),(8,.flat 105 b),(29,.rows M 105 5 (O4 c))]
def agf:Bx:= .flat 25 [.int .i64 0,.cr]
def tQ (a b:Nat):AV:= .ms a 1 0 b
def GV (a b:List AV):List (Nat×AV):= [(0,.agg a),(1,.agg b)]
def age:Bx:= .flat 182 [.loc 9000 0]
def Y0 (a:ae) (b:Nat):Bx:= .flat 25 [q4_ a,.ms 32 5 0 b]
def GU (a:Int):Bx:= .flat 3 [bM a]
def ta (a:List AV):List (Nat×Bx):= [(0,mV a)]
def YZ:List Sh:= [.o B [.d],.d]
def vd (a:List AV):Bx:= .flat 46 a
def y8 (a:List AV):Bx:= .flat 156 a
def aqm:List (Nat×AV):= [(2,.loc 2 0),(3,.loc 3 0)]
def aql (a:bC):Bx:= .rows B 156 3 (nH a)
def aAX (a b:List AV) (c:tw):List (Nat×Bx):= [(6,.flat 140 a),(7,.flat 140 b),(44,.rows M 39 1 (HO c))]
def YY (a:List (List AV)) (b c d:Nat):Bx:= .tree 44 5 ow a [(b,.ms c 2 0 d)]
def aqk:AV:= .fn 198 [] [.loc 1 0]
def xM (a:List AV):Bx:= .flat 38 a
def aqj:Bx:= .flat 182 [.loc 0 0]
def aqi (a:di):Bx:= .rows M 73 2 (eK a)
def aqh (a:cf):Bx:= .rows M 68 1 (pH a)
def YX:AV:= .fn 67 [] []
def aAW (a:aw):Bx:= .rows B 68 1 (pH a.ah)
def Mk:AV:= .loc 11 0
def Mj:AV:= .loc 12 0
end
abbrev pW:Nat:=100001
abbrev mc:Nat:=100003
abbrev pU:Nat:=100004
abbrev jL:Nat:=1000611
abbrev mS:Nat:=1000613
abbrev mR:Nat:=1000614
abbrev eZ:Nat:=100100
abbrev Bi:Nat:=100101
abbrev lq:Nat:=100200
abbrev zd:Nat:=100201
abbrev vR:Nat:=100300
abbrev gM:Nat:=1120986464256
abbrev fF:Nat:=1138166333440
abbrev kT:Nat:=1146756268032
abbrev Ey:Nat:=1152921504607355976
abbrev Ew:Nat:=12885001891
abbrev pL:Nat:=145698175582208
abbrev bF:Nat:=200000
abbrev uA:Nat:=201001
abbrev qy:Nat:=330200000
abbrev jt:Nat:=4294967296
abbrev vQ:Nat:=520031
abbrev ti:Nat:=520033
abbrev cg:Nat:=520061
abbrev pK:Nat:=600601
abbrev bI:Nat:=8589934592
def eG {J:Type} {xs zs:List J} {j:Nat} {x:J} (h:setAt xs j x=V zs):=(mH h).symm
abbrev SE:=Sc E0
def bG {J:Type} (_:J):List (Nat×Bx):= []
def dv {E:Env} (a b:Sc E):Sc E:=a++b
def uC {E:Env} {ro:Bool} {f:Nat} {bs ds:List (Nat×Bx)} {xs:List AV} {y:AV} (h:kX ro E f bs xs y ds):It E:=.call h [] []
def aD {a b:Bool} (h:a=b):Nat×It E0:=(0,eb h)
def aW {a b:Bool} (h:a=b):Nat×It E0:=(1,eb h)
def aQ {a b:Bool} (h:a=b):Nat×It E0:=(2,eb h)
def aX {a b:Bool} (h:a=b):Nat×It E0:=(3,eb h)
def bl {a b:Bool} (h:a=b):Nat×It E0:=(4,eb h)
def bS {a b:Bool} (h:a=b):Nat×It E0:=(5,eb h)
def dm {a b:Bool} (h:a=b):Nat×It E0:=(6,eb h)
def il {a b:Bool} (h:a=b):Nat×It E0:=(7,eb h)
def iS {a b:Bool} (h:a=b):Nat×It E0:=(8,eb h)
def Uf {a b:Bool} (h:a=b):Nat×It E0:=(9,eb h)
def jM {ro:Bool} {f:Nat} {bs ds:List (Nat×Bx)} {xs:List AV} {y:AV} (h:kX ro E0 f bs xs y ds):Nat×It E0:=(0,uC h)
def qT {ro:Bool} {f:Nat} {bs ds:List (Nat×Bx)} {xs:List AV} {y:AV} (h:kX ro E0 f bs xs y ds):Nat×It E0:=(1,uC h)
def jj {ro:Bool} {f:Nat} {bs ds:List (Nat×Bx)} {xs:List AV} {y:AV} (h:kX ro E0 f bs xs y ds):Nat×It E0:=(2,uC h)
def ky {ro:Bool} {f:Nat} {bs ds:List (Nat×Bx)} {xs:List AV} {y:AV} (h:kX ro E0 f bs xs y ds):Nat×It E0:=(3,uC h)
def ku {ro:Bool} {f:Nat} {bs ds:List (Nat×Bx)} {xs:List AV} {y:AV} (h:kX ro E0 f bs xs y ds):Nat×It E0:=(4,uC h)
def mh {ro:Bool} {f:Nat} {bs ds:List (Nat×Bx)} {xs:List AV} {y:AV} (h:kX ro E0 f bs xs y ds):Nat×It E0:=(5,uC h)
def ze {ro:Bool} {f:Nat} {bs ds:List (Nat×Bx)} {xs:List AV} {y:AV} (h:kX ro E0 f bs xs y ds):Nat×It E0:=(6,uC h)
def vt {ro:Bool} {f:Nat} {bs ds:List (Nat×Bx)} {xs:List AV} {y:AV} (h:kX ro E0 f bs xs y ds):Nat×It E0:=(7,uC h)
def aRh {ro:Bool} {f:Nat} {bs ds:List (Nat×Bx)} {xs:List AV} {y:AV} (h:kX ro E0 f bs xs y ds):Nat×It E0:=(8,uC h)
abbrev oJ:aT:=aT.mk 0 0 vp
abbrev zTO:bO:=bO.mk 0 0 oJ
abbrev sw:aj:=aj.mk 0 0 zTO zTO []
def aY (k:Nat):Nat×AV:=(k,.loc k 0)
def zx:Nat->List AV->List AV
 |0,l=>l
 |n+1,l=>.bool M::zx n l
def iI (n:Int):AV:=.int .i64 n
def bnG_:Nat->Nat->List Nat->List Nat
 |0,_,l=>l
 |k+1,n,l=>cond (kN n 1) l (bnG_ k (n/2) (n%2::l))
def aI (n:Nat):List Nat:=bnG_ 64 n []
def aLi (r:(List Int)):AV:=.dq []
def aIV (r:(List Int)):List (Nat×Bx):= [(0,.rows B 3 1 (dM r))]
def C165:=Cx E0 165 aLi aIV
def aIt (CZ:(List Int)):LS:=⟨[(0,.ms 0 1 0 CZ.length)],[(0,.rows B 3 1 (dM CZ))]⟩
def aLh (r:((List cF)×(List cF))):AV:=.ms 0 2 0 r.2.length
def aIU (r:((List cF)×(List cF))):List (Nat×Bx):= [(0,.rows B 73 2 (eK r.2))]
def C182:=Cx E0 182 aLh aIU
def aIq (CZ:(List cF)) (a1_:Int) (a2_:Int):LS:=⟨[(0,.ms 0 2 0 CZ.length),(1,.int .i64 a1_),(2,.int .i64 a2_)],[(0,.rows B 73 2 (eK CZ))]⟩
def aLg (r:((List cF)×(List cF))):AV:=.ms 4294967296 2 0 r.2.length
def aIT (r:((List cF)×(List cF))):List (Nat×Bx):= [(4294967296,.rows B 73 2 (eK r.2))]
def C184:=CxS E0 184 [2] aLg aIT
def aIp (CZ:(List cF)) (a1_:Int) (a2_:(List cF)):LS:=⟨[(0,.ms 4294967296 2 0 CZ.length),(1,.int .i64 a1_),(2,.ms 2 2 0 a2_.length)],[(2,.rows B 73 2 (eK a2_)),(4294967296,.rows B 73 2 (eK CZ))]⟩
def aLf (r:((List ai)×(List ai))):AV:=.ms 0 5 0 r.2.length
def aIS (r:((List ai)×(List ai))):List (Nat×Bx):= [(0,.tree 44 5 [.d,.o B [.d,.d],.d,.o B [.o B [.d],.d],.o B [.d,.d,.d,.d,.d,.d,.d,.d,.d,.d,.d,.d,.d]] (dG r.2) [])]
def C185:=Cx E0 185 aLf aIS
def aIo (CZ:(List ai)) (a1_:Int) (a2_:Int):LS:=⟨[(0,.ms 0 5 0 CZ.length),(1,.int .i64 a1_),(2,.int .i64 a2_)],[(0,.tree 44 5 [.d,.o B [.d,.d],.d,.o B [.o B [.d],.d],.o B [.d,.d,.d,.d,.d,.d,.d,.d,.d,.d,.d,.d,.d]] (dG CZ) [])]⟩
def afX (r:Int):AV:=.int .i64 r
def aIR (r:Int):List (Nat×Bx):= []
def C203:=Cx E0 203 afX aIR
def aIm (CZ:Z) (a1_:Z):LS:=⟨[(0,.str CZ),(1,.str a1_)],[]⟩
def aLe (r:((List Int)×(List Int))):AV:=.ms 0 1 0 r.2.length
def aIQ (r:((List Int)×(List Int))):List (Nat×Bx):= [(0,.rows B 3 1 (dM r.2))]
def C219:=Cx E0 219 aLe aIQ
def aIk (CZ:(List Int)):LS:=⟨[(0,.ms 0 1 0 CZ.length)],[(0,.rows B 3 1 (dM CZ))]⟩
def atg (_n:Nat) (a b:Z):A Int:=V (aa0 a.data.toList b.data.toList)
def pk0:∀k c,JS k [(182,146),(184,147),(185,88),(165,1048576),(219,1048577)]=V c->KJ E0 k c:=aQI (E:=⟨Tryz.prog,tyT,aCq,[],[],[],[],[(182,146),(184,147),(185,88),(165,1048576),(219,1048577)],[],[]⟩) rfl rfl rfl
def aRG (n:Nat):KK C203 aIm (atg n):=λa b r h=>by
 have e:=lp h;subst e;show iA E0 203 [] [.str a,.str b] (afX (aa0 a.data.toList b.data.toList)) [];rw[show afX (aa0 a.data.toList b.data.toList)= .int .i64 (Np a b) from bH (AV.int .i64) (aax a b)];have hz:HX Tryz.f203=B:=by kernel_rfl
 obtain ⟨_,_,h3⟩:=ui.get apM.fn 203 Tryz.f203 (by kernel_rfl)
 rcases h3 with h3|⟨h1,h2⟩
 ·exact absurd (show HX Tryz.f203=M from h3) (by rw[hz];exact HF)
 exact iA.cmp (fn:=Tryz.f203) Tryz.func203 (by kernel_rfl) (by kernel_rfl) h1 h2
def Zw {J:Type} (s:List J) (i j:Int):A (List J×List J):=if 0<=i/\i<j/\j<=s.length then V (s.take i.toNat++s.drop j.toNat,s.take i.toNat++s.drop j.toNat) else G
def agW {J:Type} (s:List J) (i:Int) (v:List J):A (List J×List J):=if 0<=i/\i<=s.length/\0<s.length/\0<v.length/\s.length<=1000000/\v.length<=1000000 then V (s.take i.toNat++v++s.drop i.toNat,s.take i.toNat++v++s.drop i.toNat) else G
def aaw {s:List J} {i j:Int} {r:List J×List J} (h:Zw s i j=V r):∃a b:Nat,i=a/\j=b/\a<b/\b<=s.length/\r=(s.take a++s.drop b,s.take a++s.drop b)/\(s.take a++s.drop b).length=s.length-(b-a):=by
 unfold Zw at h;split at h
 ·rename_i c;refine ⟨i.toNat,j.toNat,by omega,by omega,by omega,by omega,(lp h).symm,?_⟩
  simp;omega
 ·cases h
def ayz {s v:List J} {i:Int} {r:List J×List J} (h:agW s i v=V r):∃a:Nat,i=a/\a<=s.length/\0<s.length/\0<v.length/\s.length<=1000000/\v.length<=1000000/\r=(s.take a++v++s.drop a,s.take a++v++s.drop a)/\(s.take a++v++s.drop a).length=s.length+v.length:=by
 unfold agW at h;split at h
 ·rename_i c;refine ⟨i.toNat,by omega,by omega,by omega,by omega,by omega,by omega,(lp h).symm,?_⟩
  simp;omega
 ·cases h
def ajh (_n:Nat) (xs:List Int):A (List Int):=if xs.length<=4294967295 then V (fo xs) else G
def aRP (n:Nat):KK C165 aIt (ajh n):=λxs r h=>by
 unfold ajh at h;split at h
 ·rename_i c;cases h;exact iA.ints (E:=E0) (k:=165) (c:=1048576) (z:=M) (e:=3) (xs:=xs) (pk0 165 1048576 (by kernel_rfl)) (by kernel_rfl) (by kernel_rfl) rfl c
 ·cases h
def aiW (_n:Nat) (xs:List Int):A (List Int×List Int):=if xs.length<=4294967295 then V (l8 xs,l8 xs) else G
def aRC (n:Nat):KK C219 aIk (aiW n):=λxs r h=>by
 unfold aiW at h;split at h
 ·rename_i c;cases h;exact iA.ints (E:=E0) (k:=219) (c:=1048577) (z:=B) (e:=3) (xs:=xs) (pk0 219 1048577 (by kernel_rfl)) (by kernel_rfl) (by kernel_rfl) rfl c
 ·cases h
def ajb (_n:Nat) (s:List cF) (i j:Int):A (List cF×List cF):=Zw s i j
def aGc (n:Nat):KK C182 aIq (ajb n):=λs i j r h=>by
 obtain ⟨a,b,rfl,rfl,h1,h2,rfl,hl⟩:=aaw h;have key:=iA.del (E:=E0) (k:=182) (c:=146) (sz:=2) (e:=73) (l:= []) (n:=s.length) (Q:=eK s) (pk0 182 146 (by kernel_rfl)) (h9:=by kernel_rfl) (h0:=by kernel_rfl) (h1:=by kernel_rfl) (hie:=rfl) (hs:=by kernel_rfl) (hn:=fk.len s) h1 h2
 rw[<-hl] at key;have e:(eK s).take a++(eK s).drop b=eK (s.take a++s.drop b):=by simp[eK,vD,Bz]
 rw[e] at key;exact key
def aDC (_n:Nat) (s:List ai) (i j:Int):A (List ai×List ai):=Zw s i j
def aRM (n:Nat):KK C185 aIo (aDC n):=λs i j r h=>by
 obtain ⟨a,b,rfl,rfl,h1,h2,rfl,hl⟩:=aaw h;have key:=iA.del (E:=E0) (k:=185) (c:=88) (sz:=5) (e:=44) (n:=s.length) (Q:=dG s) (l:= [.d,.o B [.d,.d],.d,.o B [.o B [.d],.d],.o B [.d,.d,.d,.d,.d,.d,.d,.d,.d,.d,.d,.d,.d]]) (pk0 185 88 (by kernel_rfl)) (h9:=by kernel_rfl) (h0:=by kernel_rfl) (h1:=by kernel_rfl) (hie:=rfl) (hs:=by kernel_rfl) (hn:=cy.len s) h1 h2
 rw[<-hl] at key;have e:(dG s).take a++(dG s).drop b=dG (s.take a++s.drop b):=by simp[dG,vD,Bz]
 rw[e] at key;exact key
def aDD (_n:Nat) (s:List cF) (i:Int) (v:List cF):A (List cF×List cF):=agW s i v
def aRN (n:Nat):KK C184 aIp (aDD n):=λs i v r h=>by
 obtain ⟨a,rfl,h1,h2,h3,h4,h5,rfl,hl⟩:=ayz h;have key:=iA.ins (E:=E0) (k:=184) (c:=147) (sz:=2) (e:=73) (e2:=73) (z:=B) (n:=s.length) (q:=v.length) (Q:=eK s) (f7:=eK v) (pk0 184 147 (by kernel_rfl)) (h9:=by kernel_rfl) (h0:=by kernel_rfl) (h1:=by kernel_rfl) (hie:=rfl) (hs:=by kernel_rfl) (hn:=fk.len s) (hq:=fk.len v) h1 h2 h3 h4 h5
 rw[<-hl] at key;have e:(eK s).take a++eK v++(eK s).drop a=eK (s.take a++v++s.drop a):=by simp[eK,vD,Bz]
 rw[e] at key;exact key
section
def qN (ops:eY) (i:Nat) (d:cB) (op:Op):Prop:=∃o,ops[i]? =V o/\o.dst=d/\o.op=op/\o.guard=G
section
variable {E:Env} {nt:Nat} {m m':MS} {ops:eY} {i:Nat} {d:cB} {op:Op} {v:SV} {us:hJ}
def qN.go (h:qN ops i d op) (hd:nA nt d=M) (ho:ux E op m.T m.H new=V (v,us)) (hH:m.H new=G) (h1:m.nx<=new) (h2:us≠ []->new<nx') (h3:m.nx<=nx') (k:lT E nt ops (i+1) ⟨eN m.T d v,hZ m.H us,nx'⟩ m'):lT E nt ops i m m':=by
 obtain ⟨o,a1,rfl,rfl,a4⟩:=h;exact lT.cons a1 (qX.op a1 (by unfold kq;rw[a4]) hd ho hH h3) (λx hx=>by have hx:x=new:=hx;omega) (λx hx=>by
  obtain ⟨hx,hu⟩:=(show x=new/\us≠ [] from hx);have:=h2 hu;exact ⟨by omega,by show x<nx';omega⟩) k
def qN.go0 (h:qN ops i d op) (hd:nA nt d=M) (ho:ux E op m.T m.H m.nx=V (v,[])) (hH:m.H m.nx=G) (k:lT E nt ops (i+1) ⟨eN m.T d v,m.H,m.nx⟩ m'):lT E nt ops i m m':=
 h.go hd ho hH (cS _) (λh=>absurd rfl h) (cS _) k
def yB (h:ops.size=i):lT E nt ops i m m:=h ▸ lT.nil
def aaq:∀{es:iC} {e:SV×SV×Nat},e∈es->(es.map (·.2.2)).Nodup->Ga e.2.2 es=V (.dq [e.1,e.2.1])
 | [],_,h,_=>by cases h
 |x::es,e,h,nd=>by
  rw[ki,pG] at nd;unfold Ga;rw[cI];rcases da.1 h with rfl|h
  ·rw[aF ((beq_iff _ _).2 rfl)]
  ·rw[aC λhb=>nd.1 (by rw[(beq_iff _ _).1 hb];exact Hv h)]
   exact aaq h nd.2
def TN:∀(l:bP) (b:Nat),Pj (l++ [b])=V b
 | [],_=>rfl
 | [_],_=>rfl
 |_::y::l,b=>TN (y::l) b
def aak:∀{l:iC} {e:SV×SV×Nat},e∈l->(l.map (·.2.2)).Nodup->l.Perm (e::l.filter λx=>U (x.2.2≠e.2.2))
 | [],_,h,_=>by cases h
 |x::l,e,h,nd=>by
  rw[ki,pG] at nd;rcases da.1 h with rfl|h
  ·rw[je,aC (by simp)]
   refine .cons _ (.of_eq (D0.2 λy hy=> ?_).symm)
   simp only[j2];exact λe=>nd.1 (e ▸ Hv hy)
  ·rw[je,aF (by simp only[j2];exact λe2=>nd.1 (e2 ▸ Hv h))]
   exact ((aak h nd.2).cons x).trans (.swap _ _ _)
def aqG (seen:bP) (b:Nat) (es:iC):qR (seen++ [b]) es=(qR seen es).filter λx=>U (x.2.2≠b):=by
 unfold qR;rw[List.filter_filter];refine SH λx _=> ?_
 rw[oa];simp only[adP,bJ,j2,<-adO,Ms,eV,gg];exact ⟨λh=>⟨λe=>h (.inr e),λe=>h (.inl e)⟩,λh e=>e.elim h.2 h.1⟩
end
def Et (c:Mn):eY:=match c with| .region _ o _=>o|_=> #[]
def RY (b:Nat):Nat->SV
 |0=>.cr
 |k+1=>.sl (b+2*(k+1)) 0 (k+1) (.u 3)
def Tq (T:Tf) (c it:gb):Tf:=λx=>if x=14 then c else if x=86 then it else if x=15\/(84<x/\x<97) then G else T x
def Hq (H:Hf) (b:Nat) (it:A SO) (k:Nat) (svs:bf):Hf:=λx=>if x=b then it else if x=b+2*k/\0<k then V (.cells 3 svs) else if b<=x then G else H x
section
variable (T:Tf) (H:Hf) (b js cl:Nat)
def mq (gx:iC):MS:=⟨Tq T (V (RY b gx.length)) (V (.ptr b 0)),Hq H b (V (.mapIter (V js) cl (gx.map (·.2.2)) cl)) gx.length (gx.map (·.1)),b+2*gx.length+1⟩
end
variable {T T' T2:Tf} {H H':Hf} {b js cl k n:Nat} {gx ms:iC} {c it:gb} {x v:SV} {xs:bf}
def apI (h14:T2 14=c) (h86:it≠G->T2 86=it) (h:∀x,x≠14->x≠86->x≠15->(x<=84\/97<=x)->T2 x=T x):∀x v,Tq T c it x=V v->T2 x=V v:=λx v hv=>by
 unfold Tq at hv;split at hv
 ·rename_i e;rw[e,h14];exact hv
 split at hv
 ·rename_i e;rw[e,h86 (by rw[hv];simp)];exact hv
 split at hv
 ·cases hv
 ·rename_i e1 e2 e3;rw[h x e1 e2 (by omega) (by omega)];exact hv
def aFL (hb:∀x,b<=x->H x=G) {it:A SO}:∀x,b+2*k+1<=x->Hq H b it k svs x=G:=λx hx=>by
 unfold Hq;rw[aC (by omega),aC (by omega),aF (by omega)]
def aEz:Op:=.call {callee:=.builtin .append,args:= #[.tmp 91,.tmp 93],argTypes:= #[102,102]}
def i102:TI:=(tyT.get 102).getD default
def i3:TI:=(tyT.get 3).getD default
def aCn:E0.ty.get 102=V i102:=by kernel_rfl
def g3:E0.ty.get 3=V i3:=by kernel_rfl
def s102:oM i102.desc=V 3:=by kernel_rfl
def r102:Az i102.desc=M:=by kernel_rfl
def e3:mL i3=M:=by kernel_rfl
def z3:i3.size=1:=by kernel_rfl
def z0:i3.zero= [.int .i64 (.lit 0)]:=by kernel_rfl
def aPX {n1:Nat} (h1:T' 91=V s) (h2:T' 93=V (.sl n1 0 1 (.k 1))) (h3:H' n1=V (.cells 3 [x])) (h4:r9 s H' new 3 1 1 [x]=V r):ux E0 aEz T' H' new=V r:=by
 show ay (gj T' [.tmp 91,.tmp 93]) (λl=>nK E0 H' new .append l [102,102])=_
 rw[show gj T' [.tmp 91,.tmp 93]=V [s,.sl n1 0 1 (.k 1)] from by show cj (T' 91) (cj (T' 93) (V []) λv l=>V (v::l)) (λv l=>V (v::l))=_;rw[h1,h2];rfl]
 show ay (E0.ty.get 102) (λi=>aS (Az i.desc) (mP E0 H' new 102 s (.sl n1 0 1 (.k 1))) G)=_
 rw[fp aCn,r102];show ay (E0.ty.get 102) (λi=>ay (oM i.desc) λe=>PD E0 H' new e s (.sl n1 0 1 (.k 1)))=_
 rw[fp aCn,fp s102];show ay (E0.ty.get 3) (λie=>aS (mL ie) (ay (oZ H' ie.size (.sl n1 0 1 (.k 1))) λq=>aS (kN q.1 1000000) (aS (iX q.1 0) (aS (MG s) (V (s,[])) G) (r9 s H' new 3 ie.size q.1 q.2)) G) G)=_
 rw[fp g3,e3,z3];have e:oZ H' 1 (.sl n1 0 1 (.k 1))=V (1,[x]):=by
  show cj (V 1) (ay (jy (H' n1) 0 (A' 1 1)) λp=>aS (kN (p8 0 (A' 1 1)) p.2.length) (V ((p.2.drop 0).take (A' 1 1))) G) (λn xs=>V (n,xs))=_
  rw[h3];rfl
 show ay (oZ H' 1 (.sl n1 0 1 (.k 1))) (λq=>aS (kN q.1 1000000) (aS (iX q.1 0) (aS (MG s) (V (s,[])) G) (r9 s H' new 3 1 q.1 q.2)) G)=_
 rw[fp e];exact h4
def aJP (hk:k<=1000000) (hl:xs.length=k) (h:0<k->H' (b+2*k)=V (.cells 3 xs)):r9 (RY b k) H' new 3 1 1 [x]=V (.sl new 0 (k+1) (.u 3),(if k=0 then [] else [(b+2*k,G)])++ [(new,V (.cells 3 (xs++ [x])))]):=by
 cases k with
 |zero=>rw[sP.1 hl];rfl
 |succ k=>
  have h:=h (Nat.succ_pos k);show aS (kN (k+1) 1000000) (cj (mM (H' (b+2*(k+1)))) (ln H' (b+2*(k+1)) 0 (A' (k+1) 1)) λp old=>aS (kN (p8 0 (A' (k+1) 1)) p.2.length&&iX 3 p.1) (C9 new 3 (p8 (k+1) 1) (old++ [x]) [(b+2*(k+1),G)]) G) G=_
  have hb:kN (p8 0 (A' (k+1) 1)) xs.length=M:=(bN _ _).2 (by show 0+(k+1)*1<=_;omega)
  have e:ln H' (b+2*(k+1)) 0 (A' (k+1) 1)=V xs:=by
   show ay (jy (H' (b+2*(k+1))) 0 (A' (k+1) 1)) (λp=>aS (kN (p8 0 (A' (k+1) 1)) p.2.length) (V ((p.2.drop 0).take (A' (k+1) 1))) G)=_
   rw[h];show aS (kN (p8 0 (A' (k+1) 1)) xs.length) (V ((xs.drop 0).take (A' (k+1) 1))) G=_;rw[hb,pF,iT (by show _<=(k+1)*1;omega)]
  rw[(bN _ _).2 hk,e,h];show aS (kN (p8 0 (A' (k+1) 1)) xs.length&&iX 3 3) _ G=_;rw[hb];rfl
def ayZ (h:T' 92=V (.int .i64 (.lit z))):ux E0 (.buildSlice 102 1 #[(0,.tmp 92)]) T' H' new=V (.sl new 0 1 (.k 1),[(new,V (.cells 3 [.int .i64 (.lit z)]))]):=by
 show ay (ay (T' 92) λv=>cj v.cells (V []) λcs l=>V ((0,cs)::l)) (λjC=>qv E0 new 102 1 jC)=_
 rw[h];show qv E0 new 102 1 [(0,[.int .i64 (.lit z)])]=_;unfold qv;rw[fp aCn,fp s102,fp g3,e3,z3,z0];rfl
def Iv:Mn:=Tryz.f74.body.getD .skip
def CO:bP:=P' 9 1
def rg (p:bP):eY:=Et (sf Iv (p++CO))
def aqA:Mn:=.seq (.region 25 (rg [0,0,0,1,0,1]) B) (.seq (.cond (.tmp 88) .skip (.exit 2)) (.block 3 (.seq (.region 26 (rg [0,0,1,1,0,0,1,0,1]) B) (.region 27 (rg [1,0,1,1,0,0,1,0,1]) B))))
def aLI:sf Iv CO= .seq (.region 23 (rg [0]) B) (.seq (.seq (.region 24 (rg [0,0,1]) B) (.block 2 (.loop aqA))) (.seq (.region 28 (rg [0,1,1]) B) (sf Iv ([1,1,1]++CO)))):=by kernel_rfl
def aQX:qN (rg [0]) 0 (V 14) (.assign (.const (.slice G 0 0))):=⟨(rg [0])[0]!,by kernel_rfl,by kernel_rfl,by kernel_rfl,by kernel_rfl⟩
def aQW:qN (rg [0,0,1]) 0 (V 85) (.move (.tmp 9)):=⟨(rg [0,0,1])[0]!,by kernel_rfl,by kernel_rfl,by kernel_rfl,by kernel_rfl⟩
def aQV:qN (rg [0,0,1]) 1 (V 86) (.range 210 (.tmp 85)):=⟨(rg [0,0,1])[1]!,by kernel_rfl,by kernel_rfl,by kernel_rfl,by kernel_rfl⟩
def aQU:qN (rg [0,0,0,1,0,1]) 0 (V 87) (.next (.tmp 86) B):=⟨(rg [0,0,0,1,0,1])[0]!,by kernel_rfl,by kernel_rfl,by kernel_rfl,by kernel_rfl⟩
def aEA:qN (rg [0,0,0,1,0,1]) 1 (V 88) (.extract (.tmp 87) 0):=⟨(rg [0,0,0,1,0,1])[1]!,by kernel_rfl,by kernel_rfl,by kernel_rfl,by kernel_rfl⟩
def aQT:qN (rg [0,0,1,1,0,0,1,0,1]) 0 (V 89) (.entry (.tmp 86)):=⟨(rg [0,0,1,1,0,0,1,0,1])[0]!,by kernel_rfl,by kernel_rfl,by kernel_rfl,by kernel_rfl⟩
def aQS:qN (rg [0,0,1,1,0,0,1,0,1]) 1 (V 90) (.extract (.tmp 89) 0):=⟨(rg [0,0,1,1,0,0,1,0,1])[1]!,by kernel_rfl,by kernel_rfl,by kernel_rfl,by kernel_rfl⟩
def aQR:qN (rg [0,0,1,1,0,0,1,0,1]) 2 (V 15) (.assign (.tmp 90)):=⟨(rg [0,0,1,1,0,0,1,0,1])[2]!,by kernel_rfl,by kernel_rfl,by kernel_rfl,by kernel_rfl⟩
def aQQ:qN (rg [1,0,1,1,0,0,1,0,1]) 0 (V 91) (.move (.tmp 14)):=⟨(rg [1,0,1,1,0,0,1,0,1])[0]!,by kernel_rfl,by kernel_rfl,by kernel_rfl,by kernel_rfl⟩
def aQP:qN (rg [1,0,1,1,0,0,1,0,1]) 1 (V 92) (.move (.tmp 15)):=⟨(rg [1,0,1,1,0,0,1,0,1])[1]!,by kernel_rfl,by kernel_rfl,by kernel_rfl,by kernel_rfl⟩
def aQO:qN (rg [1,0,1,1,0,0,1,0,1]) 2 (V 93) (.buildSlice 102 1 #[(0,.tmp 92)]):=⟨(rg [1,0,1,1,0,0,1,0,1])[2]!,by kernel_rfl,by kernel_rfl,by kernel_rfl,by kernel_rfl⟩
def aQN:qN (rg [1,0,1,1,0,0,1,0,1]) 3 (V 94) aEz:=⟨(rg [1,0,1,1,0,0,1,0,1])[3]!,by kernel_rfl,by kernel_rfl,by kernel_rfl,by kernel_rfl⟩
def aQM:qN (rg [1,0,1,1,0,0,1,0,1]) 4 (V 14) (.assign (.tmp 94)):=⟨(rg [1,0,1,1,0,0,1,0,1])[4]!,by kernel_rfl,by kernel_rfl,by kernel_rfl,by kernel_rfl⟩
abbrev wX:Nat:=Tryz.f74.ntmps
section
variable {i:Nat} {o:cB} {m m':MS} {ops:eY} {d:Nat}
def qN.mv {x:Nat} (h:qN ops i (V d) (.move (.tmp x))) (hd:nA wX (V d)=M) (hv:m.T x=V v) (hH:m.H m.nx=G) (k:lT E0 wX ops (i+1) ⟨eN m.T (V d) v,m.H,m.nx⟩ m'):lT E0 wX ops i m m':=
 h.go0 hd (show ay (m.T x) (λv=>V (v,[]))=_ by rw[hv];rfl) hH k
def qN.asg {x:Nat} (h:qN ops i (V d) (.assign (.tmp x))) (hd:nA wX (V d)=M) (hv:m.T x=V v) (hH:m.H m.nx=G) (k:lT E0 wX ops (i+1) ⟨eN m.T (V d) v,m.H,m.nx⟩ m'):lT E0 wX ops i m m':=
 h.go0 hd (show ay (m.T x) (λv=>V (v,[]))=_ by rw[hv];rfl) hH k
def qN.ext {x:Nat} (h:qN ops i (V d) (.extract (.tmp x) 0)) (hd:nA wX (V d)=M) (hv:m.T x=V (.dq (v::vs))) (hH:m.H m.nx=G) (k:lT E0 wX ops (i+1) ⟨eN m.T (V d) v,m.H,m.nx⟩ m'):lT E0 wX ops i m m':=
 h.go0 hd (show ay (m.T x) (λv=>ay (SL v) λvs=>same (vs[0]?))=_ by rw[hv];rfl) hH k
def qN.zn {x iid:Nat} (h:qN ops i (V d) (.entry (.tmp x))) (hd:nA wX (V d)=M) (hx:m.T x=V (.ptr iid 0)) (hv:Nb m.H iid=V v) (k:lT E0 wX ops (i+1) ⟨eN m.T (V d) v,m.H,m.nx⟩ m'):lT E0 wX ops i m m':=by
 obtain ⟨o,a1,a2,a3,a4⟩:=h;rw[<-a2] at hd k;exact qX.entry a1 a3 (by unfold kq;rw[a4]) hd hx hv k
end
def lG {T:Tf} {d x:Nat} (h:d≠x):eN T (V d) v x=T x:=by unfold eN;rw[aC (λe=>h (lp e))]
def awX (ahn:js<b) (hm:H js=V (.map ms cl)) (hw:AZ ms cl) (Bk:∀e∈ms,∃z:Int,e.1= .int .i64 (.lit z)) (hb:∀x,b<=x->H x=G) (hl:gx.length<=1000000):
  mU E0 wX aqA (mq T H b js cl gx) λe m'=>(e= .normal/\∃x∈qR (gx.map (·.2.2)) ms,m'=mq T H b js cl (gx++ [x]))\/(e= .exit 2/\qR (gx.map (·.2.2)) ms= []/\m'=mq T H b js cl gx):=by
 let m0:=mq T H b js cl gx;let mA:=λx:SV×SV×Nat=>(⟨eN (eN m0.T (V 87) (.dq [.bool M,x.1,x.2.1])) (V 88) (.bool M),jB m0.H (b,V (.mapIter (V js) cl (gx.map (·.2.2)++ [x.2.2]) cl)),m0.nx⟩:MS)
 let mB:MS:=⟨eN (eN m0.T (V 87) (.dq [.bool B])) (V 88) (.bool B),m0.H,m0.nx⟩;have nO:∀x,m0.nx<=x->m0.H x=G:=aFL hb;have MZ:∀{o:A SO} x,m0.nx<=x->jB m0.H (b,o) x=G:=λ{o} x hx=>by
  show (if x=b then o else m0.H x)=G
  rw[aC (by have:b+2*gx.length+1<=x:=hx;omega)]
  exact nO x hx
 have h86:m0.T 86=V (.ptr b 0):=rfl;have jw:m0.H b=V (.mapIter (V js) cl (gx.map (·.2.2)) cl):=aF rfl
 have hmm:m0.H js=V (.map ms cl):=by
  show Hq H b _ _ _ js=_;unfold Hq;rw[aC (by omega),aC (by omega),aC (by omega)]
  exact hm
 have hit:iterM cl (gx.map (·.2.2)) cl cl ms=M:=by
  unfold iterM;rw[bJ];exact ⟨j1.2 λe he=>(bN _ _).2 (hw.1 _ (Hv he)),(bN _ _).2 (cS _)⟩
 obtain ⟨o,p1,p2,p3,p4⟩:=aQU;refine mU.seq (P1:=λe m1=>e= .normal/\((∃x∈qR (gx.map (·.2.2)) ms,m1=mA x)\/(qR (gx.map (·.2.2)) ms= []/\m1=mB))) (mU.next p1 p3 (by unfold kq;rw[p4]) (by rw[p2];kernel_rfl) h86 jw hmm hit (λhn=>⟨mB,?_,rfl,.inr ⟨hn,rfl⟩⟩) λx hx=>⟨mA x,?_,rfl,.inl ⟨x,hx,rfl⟩⟩) λe m1 ⟨he,h⟩=>.inl ⟨he,?_⟩
 ·rw[p2];exact aEA.ext (by kernel_rfl) (v:=.bool B) (vs:= []) rfl (nO _ (cS _)) (yB (by kernel_rfl))
 ·rw[p2];exact aEA.ext (by kernel_rfl) (v:=.bool M) (vs:= [x.1,x.2.1]) rfl (MZ _ (cS _)) (yB (by kernel_rfl))
 rcases h with ⟨x,hx,rfl⟩|⟨hn,rfl⟩
 ·have hxm:x∈ms:=(mD.1 hx).1;obtain ⟨z,hz⟩:=Bk x hxm;have aCc:Nb (mA x).H b=V (.dq [x.1,x.2.1]):=by
   unfold Nb;rw[show (mA x).H b=V (.mapIter (V js) cl (gx.map (·.2.2)++ [x.2.2]) cl) from aF rfl]
   show (match (mA x).H js with
    |some (.map es c)=>aS (iX c cl) (ay (Pj ((gx.map λ(y:SV×SV×Nat)=>y.2.2)++ [x.2.2])) λb=>Ga b es) G
    |_=>G)=_
   rw[show (mA x).H js=V (.map ms cl) from (aC (show ¬js=b by omega)).trans hmm]
   show aS (iX cl cl) (ay (Pj ((gx.map λ(y:SV×SV×Nat)=>y.2.2)++ [x.2.2])) λb=>Ga b ms) G=_
   rw[(beq_iff _ _).2 rfl,TN];exact aaq hxm hw.2
  let n0:=m0.nx;let m1:MS:=⟨eN (eN (eN (mA x).T (V 89) (.dq [x.1,x.2.1])) (V 90) x.1) (V 15) x.1,(mA x).H,n0⟩;let T2:=eN (eN m1.T (V 91) (RY b gx.length)) (V 92) x.1;let H2:=hZ (mA x).H [(n0,V (.cells 3 [x.1]))];let us:hJ:=(if gx.length=0 then [] else [(b+2*gx.length,G)])++ [(n0+1,V (.cells 3 (gx.map (·.1)++ [x.1])))]
  let c':SV:=.sl (n0+1) 0 (gx.length+1) (.u 3);let m2:MS:=⟨eN (eN (eN T2 (V 93) (.sl n0 0 1 (.k 1))) (V 94) c') (V 14) c',hZ H2 us,n0+2⟩;have h26:lT E0 wX (rg [0,0,1,1,0,0,1,0,1]) 0 (mA x) m1:=
   aQT.zn (by kernel_rfl) (iid:=b) rfl aCc<|
   aQS.ext (by kernel_rfl) (v:=x.1) (vs:= [x.2.1]) rfl (MZ _ (cS _))<|
   aQR.asg (by kernel_rfl) (v:=x.1) rfl (MZ _ (cS _)) (yB (by kernel_rfl))
  have oA:∀y,hZ H2 us y=if y=n0+1 then V (.cells 3 (gx.map (·.1)++ [x.1])) else if 0<gx.length/\y=b+2*gx.length then G else H2 y:=λy=>by
   show hZ H2 ((if gx.length=0 then [] else [(b+2*gx.length,G)])++ [(n0+1,V (.cells 3 (gx.map (·.1)++ [x.1])))]) y=_
   by_cases h0:gx.length=0
   ·rw[aF h0];show (if y=n0+1 then _ else H2 y)=_
    split
    ·rfl
    ·rw[aC (by omega)]
   ·rw[aC h0];show (if y=n0+1 then _ else if y=b+2*gx.length then G else H2 y)=_
    split
    ·rfl
    ·by_cases h1:y=b+2*gx.length
     ·rw[aF h1,aF ⟨by omega,h1⟩]
     ·rw[aC h1,aC (by omega)]
  have hH2:H2 (n0+1)=G:=by
   show (if n0+1=n0 then _ else (mA x).H (n0+1))=G
   rw[aC (by omega)]
   exact MZ _ (sO _)
  have h27:lT E0 wX (rg [1,0,1,1,0,0,1,0,1]) 0 m1 m2:=by
   refine aQQ.mv (by kernel_rfl) (v:=RY b gx.length) rfl (MZ _ (cS _))<|
    aQP.mv (by kernel_rfl) (v:=x.1) rfl (MZ _ (cS _)) ?_
   have hbs:ux E0 (.buildSlice 102 1 #[(0,.tmp 92)]) T2 (mA x).H n0=V (.sl n0 0 1 (.k 1),[(n0,V (.cells 3 [x.1]))]):=by
    rw[hz];exact ayZ (by rw[<-hz];rfl)
   refine aQO.go (by kernel_rfl) (new:=n0) (nx':=n0+1) hbs (MZ _ (cS _)) (cS _) (λ_=>LO _) (sO _) ?_
   refine aQN.go (by kernel_rfl) (new:=n0+1) (nx':=n0+2) (v:=c') (us:=us) (aPX (s:=RY b gx.length) (n1:=n0) (x:=x.1) rfl rfl (aF rfl) (aJP hl (by simp) λh0=> ?_)) hH2 (cS _) (λ_=>LO _) (sO _) ?_
   ·show (if b+2*gx.length=n0 then _ else (if b+2*gx.length=b then _ else Hq H b _ _ _ (b+2*gx.length)))=_
    rw[aC (by show ¬_=b+2*gx.length+1;omega),aC (by omega)]
    unfold Hq;rw[aC (by omega),aF ⟨rfl,h0⟩]
   ·exact aQM.asg (by kernel_rfl) (v:=c') rfl (by
     show hZ H2 us (n0+1+1)=G;rw[oA,aC (by omega),aC (by show ¬(_/\b+2*gx.length+1+1+1=_);omega)]
     show (if n0+1+1=n0 then _ else (mA x).H (n0+1+1))=G
     rw[aC (by omega)]
     exact MZ _ (by omega)) (yB (by kernel_rfl))
  have G7:c'=RY b (gx++ [x]).length:=by
   rw[gf];show SV.sl (b+2*gx.length+1+1) 0 (gx.length+1) (.u 3)=SV.sl (b+2*(gx.length+1)) 0 (gx.length+1) (.u 3);rw[show b+2*gx.length+1+1=b+2*(gx.length+1) by omega]
  refine .of (m1:=m2) (m2:=mq T H b js cl (gx++ [x])) (gu.seq (gu.cond (b:=M) (m:=mA x) rfl .skip) (gu.block (id:=3) (e:=.normal) (gu.seq (gu.region h26) (gu.region h27)))) ⟨apI ?_ (λ_=>rfl) λy h1 h2 h3 h4=> ?_,λy o ho=> ?_,?_⟩ (.inl ⟨rfl,x,hx,rfl⟩)
  ·rw[<-G7];rfl
  ·show eN _ _ _ y=_;rw[lG (by omega),lG (by omega),lG (by omega)]
   show eN _ _ _ y=_;rw[lG (by omega),lG (by omega)]
   show eN _ _ _ y=_;rw[lG (by omega),lG (by omega),lG (by omega)]
   show eN _ _ _ y=_;rw[lG (by omega),lG (by omega)]
   show Tq _ _ _ y=_;unfold Tq;rw[aC h1,aC h2,aC (by omega)]
  ·have ho:Hq H b (V (.mapIter (V js) cl ((gx++ [x]).map (·.2.2)) cl)) (gx++ [x]).length ((gx++ [x]).map (·.1)) y=V o:=ho
   show hZ H2 us y=V o;have hn0:n0=b+2*gx.length+1:=rfl;unfold Hq at ho;rw[gf,List.length_singleton] at ho;rw[oA];split at ho
   ·rename_i e;rw[aC (by omega),aC (by omega)]
    show (if y=n0 then _ else jB m0.H _ y)=_
    rw[aC (by omega),<-ho,e,kh]
    exact aF rfl
   ·split at ho
    ·rename_i e1 e2;rw[aF (by omega),<-ho,kh];rfl
    ·split at ho
     ·cases ho
     ·rename_i e1 e2 e3;rw[aC (by omega),aC (by omega)]
      show (if y=n0 then _ else jB m0.H _ y)=_
      rw[aC (by omega)]
      show (if y=b then _ else Hq H b _ _ _ y)=_
      rw[aC e1];unfold Hq;rw[aC e1,aC (by omega),aC e3]
      exact ho
  ·show b+2*(gx++ [x]).length+1=b+2*gx.length+1+2;simp;omega
 ·refine .of (m1:=mB) (m2:=mq T H b js cl gx) (gu.avU rfl (gu.cond (b:=B) (m:=mB) rfl .exit)) ⟨?_,λx o h=>h,rfl⟩ (.inr ⟨rfl,hn,rfl⟩)
  intro y v hv;have:y≠87/\y≠88:=by
   constructor<;>(rintro rfl;cases hv)
  show eN (eN _ _ _) _ _ y=_;rw[lG (qp this.2),lG (qp this.1)];exact hv
end
section
variable {T T' T2:Tf} {H H':Hf} {b js cl k n:Nat} {gx ms:iC} {zs:List Int}
def agF (ahn:js<b) (hm:H js=V (.map ms cl)) (hw:AZ ms cl) (Bk:∀e∈ms,∃z:Int,e.1= .int .i64 (.lit z)) (hb:∀x,b<=x->H x=G) (hl:ms.length<=1000000):∀(n:Nat) (gx:iC),(qR (gx.map (·.2.2)) ms).length<n->ms.Perm (gx++qR (gx.map (·.2.2)) ms)->
  mU E0 wX (.loop aqA) (mq T H b js cl gx) λe m'=>e= .exit 2/\∃v:iC,ms.Perm v/\m'=mq T H b js cl v
 |0,gx,hn,_=>by omega
 |n+1,gx,hn,hp=>by
  have hvl:gx.length<=1000000:=by have:=hp.length_eq;rw[gf] at this;omega
  refine mU.loop (awX ahn hm hw Bk hb hvl) λe m1 h=> ?_
  rcases h with ⟨rfl,x,hx,rfl⟩|⟨rfl,h0,rfl⟩
  ·have e:qR ((gx++ [x]).map (·.2.2)) ms=(qR (gx.map (·.2.2)) ms).filter λy=>U (y.2.2≠x.2.2):=by
    rw[kh];exact aqG _ _ _
   have nd:((qR (gx.map (·.2.2)) ms).map (·.2.2)).Nodup:=(List.Sublist.map _ List.filter_sublist).nodup hw.2
   have hpk:=aak hx nd;rw[<-e] at hpk;have dz:=hpk.length_eq;rw[iU] at dz;refine .inl ⟨rfl,agF ahn hm hw Bk hb hl n (gx++ [x]) (by omega) ?_⟩
   rw[lr];exact hp.trans (hpk.append_left gx)
  ·refine .inr ⟨rfl,rfl,gx,?_,rfl⟩;rw[h0,rG] at hp;exact hp
def qN.call {m m':MS} {ops:eY} {i nt:Nat} {d:cB} {c:Call} {fv v:SV} (h:qN ops i d (.call c)) (hd:nA nt d=M) (hc:AU m.T c.callee=V fv) (has:gj m.T c.args.toList=V as') (hs:rE E0 B fv as' m.H m.nx v H' nx') (hb:∀x,m.nx<=x->m.H x=G) (hn:m.nx<=nx') (k:lT E0 nt ops (i+1) ⟨eN m.T d v,H',nx'⟩ m'):lT E0 nt ops i m m':=by
 obtain ⟨o,a1,rfl,a3,a4⟩:=h;exact lT.cons a1 (qX.aGM (H2:=H') a1 (by unfold kq;rw[a4]) hd a3 hc has hs (λ_ _ h=>h) hb hn (λ_ _=>rfl) (λ_ h=>h)) (λx hx=>hx) (λx hx=>hx) k
def DO:Mn:=Tryz.f124.body.getD .skip
def c124:Tryz.f124.body=V (.region 0 (Et DO) B):=by kernel_rfl
def q0:qN (Et DO) 0 (V 2) (.move (.tmp 0)):=⟨(Et DO)[0]!,by kernel_rfl,by kernel_rfl,by kernel_rfl,by kernel_rfl⟩
def q1:qN (Et DO) 1 (V 3) (.call {callee:=.value (.func 165),args:= #[.tmp 2],argTypes:= #[102]}):=⟨(Et DO)[1]!,by kernel_rfl,by kernel_rfl,by kernel_rfl,by kernel_rfl⟩
def aLa {id nx:Nat} {c:Cp} (hz:0<zs.length) (hl:zs.length<=4294967295) (h:H id=V (.cells 3 (fE zs))):rE E0 B (.fn (.func 165) [] []) [.sl id 0 zs.length c] H nx (.dq []) (jB H (id,V (.cells 3 (fE (fo zs))))) (nx+1):=by
 have hlen:(fE zs).length=zs.length:=by simp[fE]
 have ho:xE E0 1048576 H nx [.sl id 0 zs.length c]=V (.dq [],[(id,V (.cells 3 ((fE zs).take 0++(fE (fo zs)++(fE zs).drop (p8 0 zs.length)))))]):=by
  show aS (iX zs.length 0) _ (ay (mM (H id)) _)=_;rw[h,show iX zs.length 0=B from adN.2 λh=>by have:=(beq_iff _ _).1 h;omega]
  show ay (J3 (((fE zs).drop 0).take zs.length)) _=_;rw[pF,iT (by omega),J2]
  show aS (kN 1 zs.length&&(kN (p8 0 zs.length) (fE zs).length&&kN zs.length 4294967295)) _ G=_;rw[pN hz,pN hl,pN (show p8 0 zs.length<=(fE zs).length by show 0+_<=_;omega)]
  rfl
 have e:(fE zs).take 0++(fE (fo zs)++(fE zs).drop (p8 0 zs.length))=fE (fo zs):=by
  rw[yV,j0,uq (by show _<=0+_;omega),rG]
 rw[e] at ho;exact En (pk0 165 1048576 (by kernel_rfl)) ho
def aLb {id nx:Nat} {c:Cp} (hz:0<zs.length) (hl:zs.length<=4294967295) (h:H id=V (.cells 3 (fE zs))) (hb:∀x,nx<=x->H x=G):rE E0 B (.fn (.func 124) [] []) [.sl id 0 zs.length c] H nx (.dq []) (jB H (id,V (.cells 3 (fE (fo zs))))) (nx+1):=by
 have jw:id<nx:=yU λhx=>by rw[hb _ hx] at h;cases h
 have hr:gu E0 Tryz.f124.ntmps (.region 0 (Et DO) B) ⟨(setArgs ([]++ [.sl id 0 zs.length c]++ []) 0 .nil).get,H,nx⟩ .normal ⟨eN (eN (setArgs ([]++ [.sl id 0 zs.length c]++ []) 0 .nil).get (V 2) (.sl id 0 zs.length c)) (V 3) (.dq []),jB H (id,V (.cells 3 (fE (fo zs)))),nx+1⟩:=
  .region (q0.go0 (by kernel_rfl) (show ay ((setArgs ([]++ [.sl id 0 zs.length c]++ []) 0 .nil).get 0) (λv=>V (v,[]))=_ from rfl) (hb _ (cS _)) (q1.call (by kernel_rfl) rfl rfl (aLa hz hl h) hb (sO _) (yB (by kernel_rfl))))
 exact gu.sem (fi:= []) (ca:= []) (vs:= []) (fn:=Tryz.f124) (by kernel_rfl) c124 (by kernel_rfl) (xg (by kernel_rfl)) rfl hr (by kernel_rfl)
def aQL:qN (rg [0,1,1]) 0 (V 95) (.move (.tmp 14)):=⟨(rg [0,1,1])[0]!,by kernel_rfl,by kernel_rfl,by kernel_rfl,by kernel_rfl⟩
def aQK:qN (rg [0,1,1]) 1 (V 96) (.call {callee:=.value (.func 124),args:= #[.tmp 95],argTypes:= #[102]}):=⟨(rg [0,1,1])[1]!,by kernel_rfl,by kernel_rfl,by kernel_rfl,by kernel_rfl⟩
def i210:TI:=(tyT.get 210).getD default
def g210:E0.ty.get 210=V i210:=by kernel_rfl
def aQG (v:SV) (H:Hf):HU i210.desc v H=awl v H:=by kernel_rfl
def mz (T:Tf) (H:Hf) (b:Nat) (zs:List Int):MS:=⟨Tq T (V (.sl (b+2*zs.length) 0 zs.length (.u 3))) G,Hq H b G zs.length (fE (fo zs)),b+2*zs.length+2⟩
def aAE:∀{l:iC} {zs:List Int},l.map (·.1)=fE zs->∀{v},l.Perm v->∃ys:List Int,v.map (·.1)=fE ys/\zs.Perm ys:=λ{l zs} h v hp=>by
 refine ⟨v.map λe=>(Mz e.1).getD 0,?_,?_⟩
 ·have hk:∀e∈v,e.1= .int .i64 (.lit ((Mz e.1).getD 0)):=λe he=>by
   have:e.1∈fE zs:=h ▸ Hv (hp.mem_iff.2 he);obtain ⟨z,_,hz⟩:=dJ.1 this;rw[<-hz];rfl
  unfold fE;rw[vC];exact DZ λe he=>hk e he
 ·have e:zs=l.map λe=>(Mz e.1).getD 0:=by
   have:=bH (List.map λv=>(Mz v).getD 0) h
   rw[vC] at this;refine (this.trans ?_).symm;unfold fE;rw[vC];exact (DZ λz _=>rfl).trans (List.map_id _)
  rw[e];exact hp.map _
def alq {xs ys:List Int} (h:xs.Perm ys):fo xs=fo ys:=Cs (yY xs) (yY ys) (((wF xs).trans h).trans (wF ys).symm)
def aqq {m':MS} (h9:T 9=V (.mp js)) (hm:H js=V (.map ms cl)) (hw:AZ ms cl) (Bk:ms.map (·.1)=fE zs) (hz:0<zs.length) (hl:zs.length<=1000000) (hb:∀x,b<=x->H x=G) (hr:gu E0 wX rest (mz T H b zs) e m'):
  gu E0 wX (.seq (.region 23 (rg [0]) B) (.seq (.seq (.region 24 (rg [0,0,1]) B) (.block 2 (.loop aqA))) (.seq (.region 28 (rg [0,1,1]) B) rest))) ⟨T,H,b⟩ e m':=by
 have ahn:js<b:=yU λhx=>by rw[hb _ hx] at hm;cases hm
 have hml:ms.length=zs.length:=by have:=bH aa8 Bk;simpa[fE] using this
 have BY:∀e∈ms,∃z:Int,e.1= .int .i64 (.lit z):=λe he=>by
  have:e.1∈fE zs:=Bk ▸ Hv he;obtain ⟨z,_,hz⟩:=dJ.1 this;exact ⟨z,hz.symm⟩
 let m1:MS:=⟨eN T (V 14) .cr,H,b⟩;have h23:gu E0 wX (.region 23 (rg [0]) B) ⟨T,H,b⟩ .normal m1:=.region (aQX.go0 (by kernel_rfl) (v:=.cr) rfl (hb _ (cS _)) (yB (by kernel_rfl)))
 let it:SO:=.mapIter (V js) cl [] cl;let m2:MS:=⟨eN (eN m1.T (V 85) (.mp js)) (V 86) (.ptr b 0),hZ H [(b,V it)],b+1⟩;have h24:gu E0 wX (.region 24 (rg [0,0,1]) B) m1 .normal m2:=by
  refine .region (aQW.mv (by kernel_rfl) (v:=.mp js) h9 (hb _ (cS _)) ?_)
  refine aQV.go (by kernel_rfl) (new:=b) (nx':=b+1) (v:=.ptr b 0) (us:= [(b,V it)]) ?_ (hb _ (cS _)) (cS _) (λ_=>LO _) (sO _) (yB (by kernel_rfl))
  show ay (E0.ty.get 210) (λi=>ay (HU i.desc (.mp js) H) λo=>V (SV.ptr b 0,[(b,V o)]))=_
  rw[fp g210,aQG];show ay (ay (kZ (H js)) λp=>V (SO.mapIter (V js) p.2 [] p.2)) (λo=>V (SV.ptr b 0,[(b,V o)]))=_
  rw[hm];rfl
 have hq0:(mq T H b js cl []).Le m2:=by
  refine ⟨apI rfl (λ_=>rfl) λy h1 h2 h3 h4=> ?_,λy o ho=> ?_,rfl⟩
  ·show eN _ _ _ y=_;rw[lG (by omega),lG (by omega)]
   show eN _ _ _ y=_;rw[lG (by omega)]
  ·have ho:Hq H b (V it) 0 [] y=V o:=ho;show (if y=b then V it else H y)=V o
   unfold Hq at ho;split at ho
   ·rename_i e1;rw[aF e1];exact ho
   ·rename_i e1;rw[aC e1];rw[aC (by omega)] at ho
    split at ho
    ·cases ho
    ·exact ho
 refine h23.seq (mU.toT (mU.seq (P1:=λe m'=>e= .normal/\∃v:iC,ms.Perm v/\m'=mq T H b js cl v) (mU.seq (P1:=λx y=>x= .normal/\y=mq T H b js cl []) (.of h24 hq0 ⟨rfl,rfl⟩) λx y ⟨hx,hy⟩=>.inl ⟨hx,?_⟩) λx y ⟨hx,v,hp,hy⟩=>.inl ⟨hx,?_⟩))
 ·rw[hy];refine mU.block ?_;have:=agF (T:=T) ahn hm hw BY hb (by omega) ((qR [] ms).length+1) [] (LO _) (.of_eq (D0.2 λ_ _=>rfl).symm)
  exact λok ro k g a w Q hn hq=>this ok ro k g a w Q hn λg' a' w' x e m' ⟨he,h⟩=>hq g' a' w' x e m' ⟨by rw[he];rfl,h⟩
 ·rw[hy];obtain ⟨ys,y1,y2⟩:=aAE Bk hp;have hyl:ys.length=zs.length:=y2.length_eq.symm;have hvl:v.length=ys.length:=by have:=bH aa8 y1;simpa[fE] using this
  obtain ⟨k,hk⟩:∃k,v.length=k+1:=⟨v.length-1,by omega⟩
  have hT:(mq T H b js cl v).T 14=V (.sl (b+2*ys.length) 0 ys.length (.u 3)):=by
   show V (RY b v.length)=_;rw[hk,<-hvl,hk];rfl
  have hH:(mq T H b js cl v).H (b+2*ys.length)=V (.cells 3 (fE ys)):=by
   show Hq H b _ v.length (v.map (·.1)) _=_
   unfold Hq;rw[aC (by omega),aF ⟨by omega,by omega⟩,y1]
  have nO:∀x,(mq T H b js cl v).nx<=x->(mq T H b js cl v).H x=G:=aFL hb;have hs:=aLb (nx:=(mq T H b js cl v).nx) (c:=.u 3) (show 0<ys.length by omega) (by omega) hH nO
  have h28:gu E0 wX (.region 28 (rg [0,1,1]) B) (mq T H b js cl v) .normal ⟨eN (eN (mq T H b js cl v).T (V 95) (.sl (b+2*ys.length) 0 ys.length (.u 3))) (V 96) (.dq []),jB (mq T H b js cl v).H (b+2*ys.length,V (.cells 3 (fE (fo ys)))),(mq T H b js cl v).nx+1⟩:=
   .region (aQL.mv (by kernel_rfl) hT (nO _ (cS _)) (aQK.call (by kernel_rfl) rfl rfl hs nO (sO _) (yB (by kernel_rfl))))
  refine mU.seq (P1:=λx y=>x= .normal/\y=mz T H b zs) (.of h28 ⟨apI ?_ (λh=>absurd rfl h) λy h1 h2 h3 h4=> ?_,λy o ho=> ?_,?_⟩ ⟨rfl,rfl⟩) λx y ⟨hx,hy⟩=>.inl ⟨hx,hy ▸ .of hr ⟨λ_ _ h=>h,λ_ _ h=>h,rfl⟩ ⟨rfl,rfl⟩⟩
  ·show eN (eN (mq T H b js cl v).T (V 95) (.sl (b+2*ys.length) 0 ys.length (.u 3))) (V 96) (.dq []) 14=_;rw[lG (by decide),lG (by decide),hT,hyl]
  ·show eN _ _ _ y=_;rw[lG (by omega),lG (by omega)]
   show Tq _ _ _ y=_;unfold Tq;rw[aC h1,aC h2,aC (by omega)]
  ·have ho:Hq H b G zs.length (fE (fo zs)) y=V o:=ho;show (if y=b+2*ys.length then _ else Hq H b _ v.length (v.map (·.1)) y)=V o
   unfold Hq at ho ⊢;split at ho
   ·cases ho
   ·rename_i e1;split at ho
    ·rename_i e2;rw[aF (by omega),<-ho,alq y2]
    ·rename_i e2;split at ho
     ·cases ho
     ·rename_i e3;rw[aC (by omega),aC e1,aC (by omega),aC e3]
      exact ho
  ·show b+2*zs.length+2=b+2*v.length+1+1;omega
end
def apU {g7:Type} (m:List (Int×g7)):A (List Int):=if m.length=0\/1000000<m.length then G else V (fo (m.map (·.1)))
def abH (x:Nat):Bool:= !(iX x 14||(iX x 15||(kN 85 x&&kN x 96)))
def FV:fq->fq
 | []=> []
 |p::l=>aS (abH p.1) (p::FV l) (FV l)
def Zb {t:Nat} {x:AV}:∀{l:fq},lk t (FV l)=V x->abH t=M/\lk t l=V x
 | [],h=>by cases h
 |p::l,h=>by
  unfold FV at h;rw[cI] at h;split at h
  ·rename_i hp;rw[show lk t (p::FV l)=lk t ((p.1,p.2)::FV l) from rfl,dD] at h;rw[show lk t (p::l)=lk t ((p.1,p.2)::l) from rfl,dD];split at h
   ·rename_i e;rw[aF e];exact ⟨e ▸ hp,h⟩
   ·rename_i e;rw[aC e];exact Zb h
  ·rename_i hp;obtain ⟨h1,h2⟩:=Zb h;rw[show lk t (p::l)=lk t ((p.1,p.2)::l) from rfl,dD,aC (λe:t=p.1=>hp (e ▸ h1))]
   exact ⟨h1,h2⟩
def ase (s:LS) (zs:List Int):LS:=⟨(14,.ms 14 1 0 zs.length)::FV s.ts,(14,.rows B 3 1 (dM zs))::s.bs⟩
def fits (s s':LS) (zs:List Int):A LS:=ay (Nl (ase s zs).bs s'.bs) λbs=>V ⟨cvT s'.ts (ase s zs).ts,bs⟩
def aJg:kG Iv ([1,1,1]++CO)=kG Iv CO:=by kernel_rfl
def agO {F:Hf} {g:Gb}:∀{l:List Int} {vs:bf},dK F g vs (l.map (AV.int .i64))->vs=fE l
 | [],_,.nil=>rfl
 |x::l,_,.cons h t=>by
  rw[agO t];cases h;rfl
def aBr {x:Nat} (h:abH x=M):x≠14/\x≠86/\¬(x=15\/(84<x/\x<97)):=by
 unfold abH at h;simp only[adP,adL] at h;obtain ⟨h1,h2,h3⟩:=h;have e1:x≠14:=λe=>by rw[(beq_iff x 14).2 e] at h1;cases h1
 have e2:x≠15:=λe=>by rw[(beq_iff x 15).2 e] at h2;cases h2
 have e3:¬(85<=x/\x<=96):=λe=>by rw[(bN 85 x).2 e.1,(bN x 96).2 e.2] at h3;cases h3
 exact ⟨e1,λe=>e3 (by omega),λe=>by omega⟩
def pc74 {X:Fx E0} {s s':LS} {m:List (Int×g7)} {zs:List Int} {f:g7->AV} (hk:At X ([1,1,1]++CO) s' y gP) (hx:apU m=V zs) (hc:X.code=Iv:=by kernel_rfl) (hn:X.fn.ntmps=wX:=by kernel_rfl) (h9:lk 9 s.ts=V (.mp K):=by kernel_rfl) (hK:lk K s.bs=V (.map (gn f m)):=by kernel_rfl) (jx:F7 s 14=M:=by kernel_rfl) (hp:y9 X 14=B:=by kernel_rfl) (BU:y9 X uv=B:=by kernel_rfl) (hs:fits s s' zs=V s':=by kernel_rfl):At X CO s y gP:=by
 unfold apU at hx;split at hx
 ·cases hx
 rename_i hl;have hx:=(lp hx).symm;subst hx;let zs:=m.map (·.1)
 have hzl:zs.length=m.length:=my _;have Ig:(fo zs).length=zs.length:=yZ zs;have yH:Holds X (Fin X y gP) (kG X.code CO) (ase s (fo zs)) (.zn (sf X.code ([1,1,1]++CO)) ([1,1,1]++CO) B):=by
  obtain ⟨bs,b1,b2⟩:=aq hs;have e:=lp b2;have hk:Holds X (Fin X y gP) (kG X.code ([1,1,1]++CO)) s' (.zn (sf X.code ([1,1,1]++CO)) ([1,1,1]++CO) B):=hk;rw[hc,aJg,<-hc] at hk;have hsee:kJ (y9 X) (ase s (fo zs)) s':=by
   have:=kJ.cv (pn:=y9 X) b1;rw[e] at this;exact this
  exact Holds.Rg hk hsee λh=>by rw[BU] at h;cases h
 show Holds X (Fin X y gP) (kG X.code CO) s (.zn (sf X.code CO) CO B);refine yH.lead λw hw=> ?_
 have r:=hw.r;obtain ⟨v9,a1,a2⟩:=r.tm 9 _ h9 (by simp)
 cases a2;obtain ⟨ms,cl,hφ,hH,BY,yF,hwf⟩:=r.map hK;have Bk:ms.map (·.1)=fE zs:=by
  refine agO (F:=w.F) (g:=lU) ?_;rw[show zs.map (AV.int .i64)=(gn f m).map (·.1) from by unfold gn;rw[vC,vC];rfl]
  exact BY
 let b:=w.m.nx;let z:=mz w.m.T w.m.H b zs;let id:=b+2*zs.length;let g':Gb:=kS w.g 14 ⟨id,.u 3,M⟩;have hzp:0<zs.length:=by omega
 have jw:z.H id=V (.cells 3 (fE (fo zs))):=by
  show Hq _ b G zs.length _ id=_;unfold Hq;rw[aC (by omega),aF ⟨rfl,hzp⟩]
 have hlow:∀i,i<b->z.H i=w.m.H i:=λi hi=>by
  show Hq _ b G zs.length _ i=_;unfold Hq;rw[aC (by omega),aC (by omega),aC (by omega)]
 have iR:dM (fo zs)=qQ (fo zs):=rfl;have o9:(qQ (fo zs)).length=(fo zs).length:=my _;have hvl:(fE (fo zs)).length=(fo zs).length:=my _;obtain ⟨c',r1,k1,k2,k3⟩:=r.chg (K:=14) (b':=.rows B 3 1 (dM (fo zs))) (g':=g') (L':= [(id,.cells 3 (fE (fo zs)))]) (H':=z.H)
  (by
   have:=eQ.bY (F:=w.F) (g:=g') (K:=14) (z:=B) (e:=3) (s:=1) (l:= []) (Q:=qQ (fo zs)) (o:= []) (svs:=fE (fo zs)) (L:= []) (show (kS w.g 14 ⟨id,.u 3,M⟩ 14).b=M from rfl) (λh=>by cases h) (FG _) (show zQ 3 1 (qQ (fo zs)).length (fE (fo zs)).length (g' 14).c from ⟨rfl,by rw[o9,hvl];omega⟩) (.te (FG _) (by rw[o9,Hs,iT (by omega)];exact Rh _)) (λp hp=>by cases hp)
   exact this) (by simp) (λp hp=>by rw[gg.1 hp];exact ⟨jw,.inr (hw.bd _ (by show b<=_;omega))⟩) (λi hi=>by
   by_cases hib:i<b
   ·exact absurd (hlow i hib) hi
   ·exact .inr (hw.bd i (by show b<=i;omega))) (.inr ⟨xX jx,λk hk=>aC hk⟩)
 have nO:∀x,z.nx<=x->z.H x=G:=λx hx=>by
  have hx:b+2*zs.length+2<=x:=hx;show Hq _ b G zs.length _ x=_;unfold Hq;rw[aC (by omega),aC (by omega),aF (by omega)]
 refine ⟨⟨w.F,g',kS w.Y 14 [(id,.cells 3 (fE (fo zs)))],c',z⟩,⟨⟨λt x ht cR=> ?_,r1.bx,r1.fr,r1.cn⟩,nO⟩,⟨.refl _,λk hk=>aC (λe=>by rw[e,hp] at hk;cases hk),(by show b<=b+_+2;omega),λx hx cR=>(by rw[<-hlow x hx];exact cR),λh=>(by rw[BU] at h;cases h)⟩,?_⟩
 ·have ht:lk t ((14,.ms 14 1 0 (fo zs).length)::FV s.ts)=V x:=ht;rw[dD] at ht;split at ht
  ·rename_i e;cases ht;subst e;refine ⟨.sl id 0 zs.length (.u 3),rfl,?_⟩;rw[Ig];have:=Pa (F:=w.F) (g:=g') (K:=14) (s:=1) (n:=zs.length) rfl;exact this
  ·obtain ⟨t1,t2⟩:=Zb ht;obtain ⟨v,v1,v2⟩:=r1.tm t x t2 cR;obtain ⟨e1,e2,e3⟩:=aBr t1;refine ⟨v,?_,v2⟩;show Tq w.m.T _ G t=_;unfold Tq;rw[aC e1,aC e2,aC e3];exact v1
 ·intro e m' ⟨e1,m1,h1,h2⟩;refine ⟨e1,m1,?_,h2⟩;rw[hc,aLI,hn];rw[hn,hc] at h1;exact aqq a1 hH hwf Bk hzp (by omega) hw.bd h1
abbrev Wt0_:=di->Int->Int->aP->A aP
abbrev R6:=aN->aP->aP->Int->A (aj×aN)
abbrev asC:=aj->Int->A Int
abbrev asB:=aj->Int->A Bool
abbrev aii:=aP->aP->aj->A Bool
abbrev Wt5_:=Z->Int->A Bool
abbrev Wt6_:=Int->Int->ai->A Bool
abbrev R4:=aj->aP->A aP
abbrev ZD:=aj->Int->Int->A aj
abbrev Wt9_:=cH->gZ->A (gZ×Int)
abbrev aHt:=Z->Nat->A Bool
abbrev aHs:=bD->Int->Int->Z->Int->Int->di->Int->(List (Z×Bool))->ai->A Bool
abbrev aHr:=bD->Int->Int->(List (Z×Bool))->A Bool
abbrev acb:=aj->Int->Int->A (Bool×Int)
abbrev Dn:=mQ->aj->A Bool
abbrev PH:=aj->A aj
abbrev PG:=aj->aJ->A aj
abbrev Gw:=aP->aj->A (aP×aP)
abbrev aHq:=aJ->ai->A Bool
abbrev aHp:=aJ->bn->bn->A Bool
abbrev aHo:=Int->bp->Int->Int->eM->cE->cE->cE->lz->(List (Int×aT))->bp->A (cE×Bool)
abbrev aHn:=Int->eM->cE->cE->cE->(List (Int×aT))->bp->A (cE×Bool)
abbrev aHm:=re->re->A (re×Int×Int)
abbrev aHl:=aN->bp->A (bp×aN)
abbrev aHk:=ae->bB->A Bool
def aby (r:(Int×aN)):AV:=.int .i64 r.1
def Tu (r:(Int×aN)):List (Nat×Bx):= (ta (fA r.2))
def gS:=fx E0 Tryz.f18 [0]
def A18:=Ax gS aby Tu
def S4 (c0:aN) (n1:Int):LS:=⟨[aY 0,(1,bM n1)],(ta (fA c0))⟩
def auH (n:Nat) (c0:aN) (n1:Int):A (Int×aN):=
 if !U (c0.CW<(c0.qH.length:Int)) then
 V (0,c0)
 else
 if U (n1<1) then
 V (0,c0)
 else
 (idx c0.qH (aV ((aV (c0.CW+1))-1))).bind λkQ=>(rem (aV (kQ)) n1).bind λx38=>V ((Int.tmod (aV (kQ)) n1),(aN.mk c0.qH (aV (c0.CW+1))))
def aVH (n:Nat):KK (A18 []) S4 (auH n):=λ_ _ r h=>ie h (λdy h=>rr h [(10,eb dy)]) λdy h=>ie h (λc1 h=>rr h [(10,eb dy),aQ c1]) λc1 h=>be h λ_ p6 h=>be h λ_ hx38 h=>rr h [(10,eb dy),aQ c1,(18,R5.idx p6),(3,.nz (aga hx38).1)]
def rf:=auH
def oq (n:Nat):KK (Cx E0 18 aby Tu) S4 (rf n):=λ_ _ _ h=>ca (X:=gS) (aVH n h)
def Be (r:aP):AV:=.ms bF 1 0 r.length
def awE (r:aP):List (Nat×Bx):= [(bF,Ml r)]
def HG:=fx E0 Tryz.f50 []
def A50:=Ax HG Be awE
def aeR (t22:di) (t23 t24:Int) (cm:aP):LS:=⟨[(5,.ms 32 1 0 cm.length),(22,.slice 73 2 t22.length (eK t22)),(23,iI t23),(24,iI t24)],[(32,Ml cm)]⟩
def aeQ (cm:aP):LS:=⟨[(5,.ms 32 1 0 cm.length)],[(32,Ml cm)]⟩
def BG (s0:ae) (dx:Int):LS:=⟨[(0,.agg (cG s0)),(1,bM dx)],[]⟩
def acP (aB:Wf0) (back:Wt0_) (n:Nat) (t22:di) (t23 t24:Int) (cm:aP):A aP:=
 if U (t24<t23) then
 (idx t22 t24).bind λx2=>(app cm [x2.aE]).bind λdu=>back t22 t23 (aV (t24+1)) du
 else
 aB cm
def aUj {aB} (aU:KK (A50 [1,1,1,1]) aeQ aB) {back} (aK:KK (A50 (aI 87)) aeR back) (n:Nat):KK (A50 (aI 87)) aeR (acP aB back n):=λ_ _ _ _ r h=>ie h (λc0 h=>be h λ_ dg h=>be h λ_ fB h=>ra (aK h) [aD c0,(0,fk.idx dg),(7,R3.jU fB)]) λc0 h=>ra (aU h) [aD c0]
def PZ (aB:Wf0):Nat->di->Int->Int->aP->A aP
 |0=>dw.z
 |n+1=>acP aB (PZ aB n) n
def aFc {aB} (aU:KK (A50 [1,1,1,1]) aeQ aB):∀n:Nat,KK (A50 (aI 87)) aeR (PZ aB n)
 |0=>KC.h
 |n+1=>aUj aU (aFc aU n) n
def acO (n:Nat) (cm:aP):A aP:=
 V cm
def aUi (n:Nat):KK (A50 [1,1,1,1]) aeQ (acO n):=λ_ r h=>rr h [(2,.ja 32 bF)]
def auq (n:Nat) (s0:ae) (dx:Int):A aP:=
 if U (dx<0) then
 V []
 else
 if !U (dx<(s0.ah.length:Int)) then
 V []
 else
 (idx s0.ah dx).bind λfN=>PZ (acO n) n fN.ag (fN.ag.length:Int) 0 []
def aUh (n:Nat):KK (A50 []) BG (auq n):=λ_ _ r h=>ie h (λc0 h=>rr h [aX c0,(3,.born [4] [] bF M 3 1)]) λc0 h=>ie h (λc1 h=>rr h [aX c0,bS c1,(2,.born [4] [] bF M 3 1)]) λc1 h=>be h λ_ gU h=>ra (aFc (aUi n) n h) [aX c0,bS c1,(5,cy.idx gU),(4,.born [5] [] 32 M 3 1)]
def F50:=auq
def arw (n:Nat):KK (Cx E0 50 Be awE) BG (F50 n):=λ_ _ _ h=>ca (X:=HG) (aUh n h)
def aEj (r:(Bool×aN)):AV:=.bool r.1
def awC (r:(Bool×aN)):List (Nat×Bx):= (ta (fA r.2))
def x70:=fx E0 Tryz.f70 [0]
def A70:=Ax x70 aEj awC
def auf (n:Nat) (c0:aN) (n1:Int):A (Bool×aN):=
 (rf n c0 n1).bind λx4=>V (x4.1==(aV (n1-1)),x4.2)
def aTI (n:Nat):KK (A70 []) S4 (auf n):=λ_ _ r h=>be h λ_ iB h=>rr h [(3,.call (oq n iB) [(0,0)] [])]
def C0:=auf
def qI (n:Nat):KK (Cx E0 70 aEj awC) S4 (C0 n):=λ_ _ _ h=>ca (X:=x70) (aTI n h)
def aDZ (r:cF):AV:=.agg (Ks r)
def x91:=fx E0 Tryz.f91 []
def A91:=Ax x91 aDZ bG
def avf (aqw:Z) (iE:Int):LS:=⟨[(0,.str aqw),(1,bM iE)],[]⟩
def atN (n:Nat) (aqw:Z) (iE:Int):A cF:=
 V (cF.mk aqw iE)
def aTa (n:Nat):KK (A91 []) avf (atN n):=λ_ _ r h=>rr h []
def Fs:=atN
def ET (n:Nat):KK (Cx E0 91 aDZ bG) avf (Fs n):=λ_ _ _ h=>ca (X:=x91) (aTa n h)
def x136:=fx E0 Tryz.f136 [0]
def A136:=Ax x136 aby Tu
def yy (c0:aN):LS:=⟨[aY 0],(ta (fA c0))⟩
def akR (n:Nat) (c0:aN):A (Int×aN):=
 (rf n c0 12).bind λx3=>if x3.1==9 then
 V ((-1),x3.2)
 else
 if x3.1==10 then
 V (9223372036854775807,x3.2)
 else
 if x3.1==11 then
 V ((-9223372036854775808),x3.2)
 else
 (rem x3.1 4).bind λiK=>V ((Int.tmod x3.1 4),x3.2)
def aOO (n:Nat):KK (A136 []) yy (akR n):=λ_ r h=>be h λ_ eP h=>let zA:SE:=[(2,.call (oq n eP) [(0,0)] [])];ie h (λdy h=>bu h zA [aQ dy]) λdy h=>ie h (λc1 h=>bu h zA [aQ dy,aW c1]) λc1 h=>ie h (λc2 h=>bu h zA [aQ dy,aW c1,aW c2]) λc2 h=>be h λ_ iO h=>bu h zA [aQ dy,aW c1,aW c2,(2,.nz (aga iO).1)]
def atu:=akR
def aSh (n:Nat):KK (Cx E0 136 aby Tu) yy (atu n):=λ_ _ h=>ca (X:=x136) (aOO n h)
def awd (r:(Z×aN)):AV:=.str r.1
def ank (r:(Z×aN)):List (Nat×Bx):= (ta (fA r.2))
def adR:=fx E0 Tryz.f137 [0]
def A9:=Ax adR awd ank
def Yk (rQ:Z) (i4:Int) (b0:aN):LS:=⟨[(3,.str rQ),(4,bM i4)],(ta (fA b0))⟩
def DF (rQ:Z) (b0:aN):LS:=⟨[(3,.str rQ)],(ta (fA b0))⟩
def Yj (rQ:Z) (i5:Int) (b0:aN):LS:=⟨[(3,.str rQ),(5,bM i5)],(ta (fA b0))⟩
def Wn (aB:Wf1) (back:Wf2) (n:Nat) (rQ:Z) (i4:Int) (b0:aN):A (Z×aN):=
 if U (i4<64) then
 (cat rQ (xp #[255])).bind λx4=>back (rQ++(xp #[255])) (aV (i4+1)) b0
 else
 aB rQ b0
def aON {aB} (aU:KK (A9 (aI 458731)) DF aB) {back} (aK:KK (A9 (aI 1376235)) Yk back) (n:Nat):KK (A9 (aI 1376235)) Yk (Wn aB back n):=λ_ _ _ r h=>ie h (λdy h=>be h λ_ iB h=>ra (aK h) [aW dy,(1,.cat (Ky iB).1)]) λdy h=>ra (aU h) [aW dy]
def I5 (aB:Wf1):Nat->Z->Int->aN->A (Z×aN)
 |0=>dw.z
 |n+1=>Wn aB (I5 aB n) n
def aya {aB} (aU:KK (A9 (aI 458731)) DF aB):∀n:Nat,KK (A9 (aI 1376235)) Yk (I5 aB n)
 |0=>KC.h
 |n+1=>aON aU (aya aU n) n
def aAe (n:Nat) (rQ:Z) (b0:aN):A (Z×aN):=
 V (rQ,b0)
def aOM (n:Nat):KK (A9 (aI 458731)) DF (aAe n):=λ_ _ r h=>rr h []
def Wm (br:Wf1) (back:Wf2) (n:Nat) (rQ:Z) (i5:Int) (b0:aN):A (Z×aN):=
 if U (i5<64) then
 (cat rQ (xp #[98])).bind λx4=>back (rQ++(xp #[98])) (aV (i5+1)) b0
 else
 br rQ b0
def aOL {br} (cO:KK (A9 [1,1,1,1]) DF br) {back} (aK:KK (A9 (aI 87)) Yj back) (n:Nat):KK (A9 (aI 87)) Yj (Wm br back n):=λ_ _ _ r h=>ie h (λdy h=>be h λ_ iB h=>ra (aK h) [aW dy,(1,.cat (Ky iB).1)]) λdy h=>ra (cO h) [aW dy]
def I4 (br:Wf1):Nat->Z->Int->aN->A (Z×aN)
 |0=>dw.z
 |n+1=>Wm br (I4 br n) n
def axZ {br} (cO:KK (A9 [1,1,1,1]) DF br):∀n:Nat,KK (A9 (aI 87)) Yj (I4 br n)
 |0=>KC.h
 |n+1=>aOL cO (axZ cO n) n
def aAd (n:Nat) (rQ:Z) (b0:aN):A (Z×aN):=
 V (rQ,b0)
def aOK (n:Nat):KK (A9 [1,1,1,1]) DF (aAd n):=λ_ _ r h=>rr h []
def akQ (n:Nat) (c0:aN):A (Z×aN):=
 (rf n c0 10).bind λx4=>if x4.1==0 then
 V ((xp #[97]),x4.2)
 else
 if x4.1==1 then
 V ((xp #[97]),x4.2)
 else
 if x4.1==2 then
 V ((xp #[97]),x4.2)
 else
 if x4.1==3 then
 V ((xp #[98]),x4.2)
 else
 if x4.1==4 then
 V ((xp #[98]),x4.2)
 else
 if x4.1==5 then
 V (vp,x4.2)
 else
 if x4.1==6 then
 V ((xp #[97,0]),x4.2)
 else
 if x4.1==7 then
 V ((xp #[255]),x4.2)
 else
 if x4.1==8 then
 I5 (aAe n) n vp 0 x4.2
 else
 I4 (aAd n) n vp 0 x4.2
def aOJ (n:Nat):KK (A9 []) yy (akQ n):=λ_ r h=>be h λ_ iB h=>let zA:SE:=[(3,.call (oq n iB) [(0,0)] [])];ie h (λdy h=>bu h zA [aD dy]) λdy h=>let zB:SE:=dv zA [aD dy];ie h (λc1 h=>bu h zB [aW c1]) λc1 h=>let zC:SE:=dv zB [aW c1];ie h (λc2 h=>bu h zC [aW c2]) λc2 h=>let zD:SE:=dv zC [aW c2];ie h (λc3 h=>bu h zD [aW c3]) λc3 h=>let zE:SE:=dv zD [aW c3];ie h (λc4 h=>bu h zE [aW c4]) λc4 h=>let zF:SE:=dv zE [aW c4];ie h (λc5 h=>bu h zF [aW c5]) λc5 h=>let zG:SE:=dv zF [aW c5];ie h (λc6 h=>bu h zG [aW c6]) λc6 h=>ie h (λc7 h=>bu h zG [aW c6,aW c7]) λc7 h=>ie h (λc8 h=>cC (aya (aOM n) n h) zG [aW c6,aW c7,aW c8]) λc8 h=>cC (axZ (aOK n) n h) zG [aW c6,aW c7,aW c8]
def att:=akQ
def aSg (n:Nat):KK (Cx E0 137 awd ank) yy (att n):=λ_ _ h=>ca (X:=adR) (aOJ n h)
def aDY (r:(aT×aN)):AV:=.agg (ir r.1)
def awt (r:(aT×aN)):List (Nat×Bx):= (ta (fA r.2))
def x93:=fx E0 Tryz.f93 [0]
def A93:=Ax x93 aDY awt
def ave (c0:aN) (iE:Int):LS:=⟨[aY 0,(1,bM iE)],(ta (fA c0))⟩
def atL (n:Nat) (c0:aN) (iE:Int):A (aT×aN):=
 if iE==3 then
 (rf n c0 2).bind λx7=>V ((aT.mk iE x7.1 vp),x7.2)
 else
 if iE==4 then
 (atu n c0).bind λx9=>V ((aT.mk iE x9.1 vp),x9.2)
 else
 (att n c0).bind λx8=>V ((aT.mk 5 0 x8.1),x8.2)
def aSY (n:Nat):KK (A93 []) ave (atL n):=λ_ _ r h=>ie h (λdy h=>be h λ_ iQ h=>rr h [aQ dy,(3,.call (oq n iQ) [(0,0)] [])]) λdy h=>ie h (λc1 h=>be h λ_ iq h=>rr h [aQ dy,aW c1,(3,.call (aSh n iq) [(0,0)] [])]) λc1 h=>be h λ_ lj h=>rr h [aQ dy,aW c1,(2,.call (aSg n lj) [(0,0)] [])]
def F93:=atL
def RO (n:Nat):KK (Cx E0 93 aDY awt) ave (F93 n):=λ_ _ _ h=>ca (X:=x93) (aSY n h)
def awb (r:(bO×aN)):AV:=.agg (rY r.1)
def anf (r:(bO×aN)):List (Nat×Bx):= (ta (fA r.2))
def apu:=fx E0 Tryz.f169 [0]
def A7:=Ax apu awb anf
def XM (params2:aP) (mf:Int) (t15:aP) (t16 t17:Int) (b0:aN) (b8:bO) (na:vB):LS:=⟨[aY 0,(2,.slice 3 1 params2.length (dM params2)),(3,iI mf),aY 8,(9,.ms 29 5 0 na.length),(15,.slice 3 1 t15.length (dM t15)),(16,iI t16),(17,iI t17)],(aqn (fA b0) (rY b8) na)⟩
def XL (mf:Int) (t31:aP) (t32 t33:Int) (b0:aN) (b8:bO) (na:vB):LS:=⟨[aY 0,(3,iI mf),aY 8,(9,.ms 29 5 0 na.length),(31,.slice 3 1 t31.length (dM t31)),(32,iI t32),(33,iI t33)],(aqn (fA b0) (rY b8) na)⟩
def XK (mf:Int) (b0:aN) (b8:bO) (na:vB):LS:=⟨[aY 0,(3,bM mf),aY 8,(9,.ms 29 5 0 na.length)],(aqn (fA b0) (rY b8) na)⟩
def XJ (params2:aP) (mf:Int) (b0:aN) (b8:bO) (na:vB):LS:=⟨[aY 0,(2,.slice 3 1 params2.length (dM params2)),(3,iI mf),aY 8,(9,.ms 29 5 0 na.length)],(aqn (fA b0) (rY b8) na)⟩
def amo (c0:aN) (dU params2:aP) (mf:Int):LS:=⟨[aY 0,(1,.slice 3 1 dU.length (dM dU)),(2,.slice 3 1 params2.length (dM params2)),(3,iI mf)],(ta (fA c0))⟩
def VF (br:Wf3) (back:aP->Int->aP->Int->Int->aN->bO->vB->A (bO×aN)) (n:Nat) (params2:aP) (mf:Int) (t15:aP) (t16 t17:Int) (b0:aN) (b8:bO) (na:vB):A (bO×aN):=
 if U (t17<t16) then
 (idx t15 t17).bind λx3=>if x3==mf then
 (app na [(bO.mk 1 t17 oJ)]).bind λga=>back params2 mf t15 t16 (aV (t17+1)) b0 b8 ga
 else
 back params2 mf t15 t16 (aV (t17+1)) b0 b8 na
 else
 br params2 mf b0 b8 na
def aNj {br} (cO:KK (A7 [1,1,1]) XJ br) {back} (aK:KK (A7 [0,1,0,1,1]) XM back) (n:Nat):KK (A7 [0,1,0,1,1]) XM (VF br back n):=λ_ _ _ _ _ _ _ _ r h=>ie h (λdy h=>be h λ_ eP h=>ie h (λc1 h=>be h λ_ lu h=>ra (aK h) [aD dy,(1,R3.idx eP),bS c1,(4,asV.jU lu)]) λc1 h=>ra (aK h) [aD dy,(1,R3.idx eP),bS c1]) λdy h=>ra (cO h) [aD dy]
def IP (br:Wf3):Nat->aP->Int->aP->Int->Int->aN->bO->vB->A (bO×aN)
 |0=>dw.z
 |n+1=>VF br (IP br n) n
def axz {br} (cO:KK (A7 [1,1,1]) XJ br):∀n:Nat,KK (A7 [0,1,0,1,1]) XM (IP br n)
 |0=>KC.h
 |n+1=>aNj cO (axz cO n) n
def VE (bh:Wf4) (back:Int->aP->Int->Int->aN->bO->vB->A (bO×aN)) (n:Nat) (mf:Int) (t31:aP) (t32 t33:Int) (b0:aN) (b8:bO) (na:vB):A (bO×aN):=
 if U (t33<t32) then
 (idx t31 t33).bind λx3=>if x3==mf then
 (app na [(bO.mk 2 t33 oJ)]).bind λga=>back mf t31 t32 (aV (t33+1)) b0 b8 ga
 else
 back mf t31 t32 (aV (t33+1)) b0 b8 na
 else
 bh mf b0 b8 na
def aNi {bh} (cL:KK (A7 [1,1,1,1]) XK bh) {back} (aK:KK (A7 (aI 87)) XL back) (n:Nat):KK (A7 (aI 87)) XL (VE bh back n):=λ_ _ _ _ _ _ _ r h=>ie h (λdy h=>be h λ_ eP h=>ie h (λc1 h=>be h λ_ lu h=>ra (aK h) [aD dy,(1,R3.idx eP),bS c1,(4,asV.jU lu)]) λc1 h=>ra (aK h) [aD dy,(1,R3.idx eP),bS c1]) λdy h=>ra (cL h) [aD dy]
def IN (bh:Wf4):Nat->Int->aP->Int->Int->aN->bO->vB->A (bO×aN)
 |0=>dw.z
 |n+1=>VE bh (IN bh n) n
def axy {bh} (cL:KK (A7 [1,1,1,1]) XK bh):∀n:Nat,KK (A7 (aI 87)) XL (IN bh n)
 |0=>KC.h
 |n+1=>aNi cL (axy cL n) n
def NW (n:Nat) (mf:Int) (b0:aN) (b8:bO) (na:vB):A (bO×aN):=
 (rf n b0 (aV ((na.length:Int)+1))).bind λx5=>if U (x5.1<(na.length:Int)) then
 (eh na.length x5.1).bind λiK=>(na[0+iK]?).bind λfN=>V (fN,x5.2)
 else
 (F93 n x5.2 mf).bind λiK=>V ((bO.mk 3 0 iK.1),iK.2)
def aNh (n:Nat):KK (A7 [1,1,1,1]) XK (NW n):=λ_ _ _ _ r h=>be h λ_ iw h=>let zA:SE:=[(4,.call (oq n iw) [(0,0)] [])];ie h (λdy h=>be h λiK iO h=>be h λ_ gU h=>bu h zA [bl dy,(2,de iO),(0,asV.row gU)]) λdy h=>be h λiK iO h=>bu h zA [bl dy,(2,.call (RO n iO) [(0,0)] [])]
def VD (n:Nat) (params2:aP) (mf:Int) (b0:aN) (b8:bO) (na:vB):A (bO×aN):=
 IN (NW n) n mf params2 (params2.length:Int) 0 b0 b8 na
def aNg (n:Nat):KK (A7 [1,1,1]) XJ (VD n):=λ_ _ _ _ _ r h=>ra (axy (aNh n) n h) []
def azX (n:Nat) (c0:aN) (dU params2:aP) (mf:Int):A (bO×aN):=
 IP (VD n) n params2 mf dU (dU.length:Int) 0 c0 zTO []
def aNf (n:Nat):KK (A7 []) amo (azX n):=λ_ _ _ _ r h=>ra (axz (aNg n) n h) [(5,.born [9] [] 29 M 105 5)]
def atl:=azX
def aGl (n:Nat):KK (Cx E0 169 awb anf) amo (atl n):=λ_ _ _ _ _ h=>ca (X:=apu) (aNf n h)
def Te (r:(aj×aN)):AV:=.agg (fW r.1)
def O8 (r:(aj×aN)):List (Nat×Bx):= (ta (fA r.2))
def x134:=fx E0 Tryz.f134 [0]
def Ho:=Ax x134 Te O8
def NP:=Cx E0 134 Te O8
def aIB (b0:aN) (b8 fj:aj):LS:=⟨[aY 0,aY 8,(11,Mk)],[(0,mV (fA b0)),(8,q2_),(11,.flat 107 [iI 3,iI fj.fI,iI fj.cQ.aE,iI fj.cQ.dk,iI fj.cQ.bk.aE,iI fj.cQ.bk.dj,.str fj.cQ.bk.cM,iI fj.cx.aE,iI fj.cx.dk,iI fj.cx.bk.aE,iI fj.cx.bk.dj,.str fj.cx.bk.cM,.cr])]⟩
def aIA (dU params2:aP) (MF:Int) (b0:aN) (b8:aj):LS:=⟨[aY 0,(1,.slice 3 1 dU.length (dM dU)),(2,.slice 3 1 params2.length (dM params2)),aY 8,(10,iI MF)],[(0,mV (fA b0)),(8,q2_)]⟩
def Ym (dU params2:aP) (nV xm:Int) (b0:aN) (b8 cD:aj) (AY:bw):LS:=⟨[aY 0,(1,.slice 3 1 dU.length (dM dU)),(2,.slice 3 1 params2.length (dM params2)),(3,iI nV),aY 8,aY 12,(13,iI xm)],[(0,mV (fA b0)),(8,kY (fy b8 .cr)),(12,kY (fy cD (.ms 104 13 0 AY.length))),(104,GX AY)]⟩
def Yl (b0:aN) (b8 cD:aj) (AY:bw):LS:=⟨[aY 8,(12,Mj)],[(0,mV (fA b0)),(8,kY (fy b8 .cr)),(12,kY (fy cD (.ms 104 13 0 AY.length))),(104,GX AY)]⟩
def aIz (dU params2:aP) (nV op9:Int) (t27:Bool) (b0:aN) (b8:aj):LS:=⟨[aY 0,(1,.slice 3 1 dU.length (dM dU)),(2,.slice 3 1 params2.length (dM params2)),(3,iI nV),aY 8,(9,iI op9),(27,.bool t27)],[(0,mV (fA b0)),(8,q2_)]⟩
def sY (c0:aN) (dU params2:aP) (nV:Int):LS:=⟨[aY 0,(1,.slice 3 1 dU.length (dM dU)),(2,.slice 3 1 params2.length (dM params2)),(3,iI nV)],(ta (fA c0))⟩
def N7 (ig:R6) (n:Nat) (b0:aN) (b8 fj:aj):A (aj×aN):=
 (C0 n b0 6).bind λx2=>if x2.1 then
 V ((aj.mk 3 fj.fI fj.cx fj.cQ []),x2.2)
 else
 V ((aj.mk 3 fj.fI fj.cQ fj.cx []),x2.2)
def azq {ig} (mJ:KK NP sY ig) (n:Nat):KK (Ho (aI 8051)) aIB (N7 ig n):=λ_ _ _ r h=>be h λ_ dg h=>ie h (λdy h=>rr h [(1,.call (cb (qI n dg) dy) [(0,0)] []),(10,.nQ 8 (.flat 0 (zx 12 [.sl 0 107 13 0 []])))]) λdy h=>rr h [(1,.call (cb (qI n dg) dy) [(0,0)] []),(2,.nQ 8 (.flat 0 (zx 12 [.sl 0 107 13 0 []])))]
def N6 (ig:R6) (n:Nat) (dU params2:aP) (MF:Int) (b0:aN) (b8:aj):A (aj×aN):=
 (rf n b0 6).bind λx2=>(atl n x2.2 dU params2 MF).bind λx9=>(F93 n x9.2 MF).bind λdB=>(C0 n dB.2 3).bind λlM=>if lM.1 then
 (atl n lM.2 dU params2 MF).bind λvk=>N7 ig n vk.2 sw (aj.mk 3 (aV (1+x2.1)) x9.1 vk.1 [])
 else
 N7 ig n lM.2 sw (aj.mk 3 (aV (1+x2.1)) x9.1 (bO.mk 3 0 dB.1) [])
def azp {ig} (mJ:KK NP sY ig) (n:Nat):KK (Ho (aI 1907)) aIA (N6 ig n):=λ_ _ _ _ _ r h=>be h λ_ dg h=>be h λ_ iq h=>be h λ_ fG h=>be h λ_ j5 h=>let zA:SE:=[(1,.call (oq n dg) [(0,0)] []),(5,.call (aGl n iq) [(0,0)] []),(2,.call (RO n fG) [(0,0)] [])];ie h (λdy h=>be h λ_ tY h=>cC (azq mJ n h) zA [(5,.call (cb (qI n j5) dy) [(0,0)] []),(4,.call (aGl n tY) [(0,0)] [])]) λdy h=>cC (azq mJ n h) zA [(5,.call (cb (qI n j5) dy) [(0,0)] [])]
def Wp (ig:R6) (br:Wf5) (back:aP->aP->Int->Int->aN->aj->aj->bw->A (aj×aN)) (n:Nat) (dU params2:aP) (nV xm:Int) (b0:aN) (b8 cD:aj) (AY:bw):A (aj×aN):=
 if !U (xm<0) then
 (ig b0 dU params2 (aV (nV-1))).bind λeW=>(app AY [eW.1]).bind λdB=>back dU params2 nV (aV (xm-1)) eW.2 (aj.mk b8.bg b8.fI b8.cQ b8.cx []) (aj.mk cD.bg cD.fI cD.cQ cD.cx dB) dB
 else
 br b0 (aj.mk b8.bg b8.fI b8.cQ b8.cx []) (aj.mk cD.bg cD.fI cD.cQ cD.cx AY) AY
def aOS {ig} (mJ:KK NP sY ig) {br} (cO:KK (Ho [1,1,1,1,1]) Yl br) {back} (aK:KK (Ho (aI 175)) Ym back) (n:Nat):KK (Ho (aI 175)) Ym (Wp ig br back n):=λ_ _ _ _ _ _ _ _ r h=>ie h (λdy h=>be h λeW iF h=>be h λ_ fG h=>ra (aK h) [aW dy,(7,.call (mJ iF) [(0,0)] []),(0,.laid (bH (Bx.rows B 107 13) (fa.map [eW.1]).symm)),(0,fa.jU fG)]) λdy h=>ra (cO h) [aW dy]
def I6 (ig:R6) (br:Wf5):Nat->aP->aP->Int->Int->aN->aj->aj->bw->A (aj×aN)
 |0=>dw.z
 |n+1=>Wp ig br (I6 ig br n) n
def ayb {ig} (mJ:KK NP sY ig) {br} (cO:KK (Ho [1,1,1,1,1]) Yl br):∀n:Nat,KK (Ho (aI 175)) Ym (I6 ig br n)
 |0=>KC.h
 |n+1=>aOS mJ cO (ayb mJ cO n) n
def Wo (ig:R6) (n:Nat) (b0:aN) (b8 cD:aj) (AY:bw):A (aj×aN):=
 V ((aj.mk cD.bg cD.fI cD.cQ cD.cx AY),b0)
def aOR {ig} (mJ:KK NP sY ig) (n:Nat):KK (Ho [1,1,1,1,1]) Yl (Wo ig n):=λ_ _ _ AY r h=>rr h [(2,fa.eB 104 AY),(0,.nQ 8 (.flat 0 (zx 12 [.sl 0 0 0 0 []])))]
def zV (ig:R6) (n:Nat) (dU params2:aP) (nV op9:Int) (t27:Bool) (b0:aN) (b8:aj):A (aj×aN):=
 if t27 then
 if U (0<(dU.length:Int)) then
 (rf n b0 (dU.length:Int)).bind λx9=>(idx dU x9.1).bind λdu=>N6 ig n dU params2 du x9.2 sw
 else
 N6 ig n dU params2 4 b0 sw
 else
 if op9==6 then
 (ig b0 dU params2 (aV (nV-1))).bind λx9=>V ((aj.mk 6 0 zTO zTO [x9.1]),x9.2)
 else
 (rf n b0 3).bind λdu=>I6 ig (Wo ig n) n dU params2 nV du.1 du.2 sw (aj.mk (aV ((aV (4+op9))-7)) 0 zTO zTO []) []
def Uq {ig} (mJ:KK NP sY ig) (n:Nat):KK (Ho (aI 243)) aIz (zV ig n):=λ_ _ _ _ _ _ _ r h=>ie h (λdy bE=>by subst dy;exact (ie bE (λc1 bE=>be bE λx9 iq bE=>be bE λdu fB bE=>ra (azp mJ n bE) [aX c1,(4,.call (oq n iq) [(0,0)] []),(0,R3.idx fB)]) λc1 bE=>ra (azp mJ n bE) [aX c1])) λdy bE=>by subst dy;exact (ie bE (λc1 bE=>be bE λx9 iq bE=>rr bE [aW c1,(6,.call (mJ iq) [(0,0)] []),(0,.laid (bH (Bx.rows B 107 13) (fa.map [x9.1]).symm)),(2,fa.eB 83 [x9.1])]) λc1 bE=>be bE λdu fB bE=>ra (ayb mJ (aOR mJ n) n bE) [aW c1,(8,.call (oq n fB) [(0,0)] []),(1,.born [] [(12,12)] 104 M 107 13)])
def akT (ig:R6) (n:Nat) (c0:aN) (dU params2:aP) (nV:Int):A (aj×aN):=
 (rf n c0 9).bind λx3=>if x3.1==0 then
 (C0 n x3.2 2).bind λeW=>if eW.1 then
 (rf n eW.2 2).bind λga=>V ((aj.mk (aV (1+ga.1)) 0 zTO zTO []),ga.2)
 else
 if U (x3.1<6) then
 zV ig n dU params2 nV x3.1 M eW.2 sw
 else
 zV ig n dU params2 nV x3.1 (U (nV<1)) eW.2 sw
 else
 if U (x3.1<6) then
 zV ig n dU params2 nV x3.1 M x3.2 sw
 else
 zV ig n dU params2 nV x3.1 (U (nV<1)) x3.2 sw
def aOQ {ig} (mJ:KK NP sY ig) (n:Nat):KK (Ho []) sY (akT ig n):=λ_ _ _ _ r h=>be h λ_ eP h=>let zA:SE:=[(2,.call (oq n eP) [(0,0)] [])];ie h (λdy h=>be h λ_ iF h=>ie h (λc1 h=>be h λ_ lu h=>bu h zA [aQ dy,(2,.call (cb (qI n iF) c1) [(0,0)] []),(3,.call (oq n lu) [(0,0)] []),(3,.nQ 8 (.flat 0 (zx 12 [.sl 0 107 13 0 []])))]) λc1 h=>let zB:SE:=dv zA [aQ dy,(2,.call (cb (qI n iF) c1) [(0,0)] [])];ie h (λc2 h=>cC (Uq mJ n h) zB [aX c2]) λc2 h=>cC (Uq mJ n h) zB [aX c2]) λdy h=>ie h (λc1 h=>cC (Uq mJ n h) zA [aQ dy,bl c1]) λc1 h=>cC (Uq mJ n h) zA [aQ dy,bl c1]
def Fv:Nat->aN->aP->aP->Int->A (aj×aN)
 |0,_,_,_,_=>G
 |n+1,c0,dU,params2,nV=>akT (Fv n) n c0 dU params2 nV
def arB:∀n:Nat,KK NP sY (Fv n)
 |0=>λ_ _ _ _ _ h=>nz h
 |n+1=>λ_ _ _ _ _ h=>ca (X:=x134) (aOQ (arB n) n h)
def cY (r:Bool):AV:=.bool r
def W7:=fx E0 Tryz.f175 []
def A175:=Ax W7 cY bG
def amm (k0:Int):LS:=⟨[(0,bM k0)],[]⟩
def aki (n:Nat) (k0:Int):A Bool:=
 if k0==3 then
 V M
 else
 if k0==4 then
 V M
 else
 V (k0==5)
def aMP (n:Nat):KK (A175 []) amm (aki n):=λ_ r h=>ie h (λc0 h=>rr h [aQ c0]) λc0 h=>ie h (λc1 h=>rr h [aQ c0,aQ c1]) λc1 h=>rr h [aQ c0,aQ c1]
def ajd:=aki
def aGf (n:Nat):KK (Cx E0 175 cY bG) amm (ajd n):=λ_ _ h=>ca (X:=W7) (aMP n h)
def x170:=fx E0 Tryz.f170 []
def Sr:=Ax x170 cY bG
def DE (t5:aP) (t6 t7:Int):LS:=⟨[(5,.slice 3 1 t5.length (dM t5)),(6,iI t6),(7,iI t7)],[]⟩
def XI:LS:=⟨[],[]⟩
def amn (l0:aP):LS:=⟨[(0,.slice 3 1 l0.length (dM l0))],[]⟩
def VC (aB:A Bool) (back:aP->Int->Int->A Bool) (n:Nat) (t5:aP) (t6 t7:Int):A Bool:=
 if U (t7<t6) then
 (idx t5 t7).bind λx2=>(ajd n x2).bind λx7=>if !x7 then
 V B
 else
 back t5 t6 (aV (t7+1))
 else
 aB
def aNe {aB} (aU:KK (Sr [1,1]) XI aB) {back} (aK:KK (Sr [0,1,0,1]) DE back) (n:Nat):KK (Sr [0,1,0,1]) DE (VC aB back n):=λ_ _ _ r h=>ie h (λc0 h=>be h λ_ dg h=>be h λ_ iQ h=>let zA:SE:=[aD c0,(0,R3.idx dg),ky (aGf n iQ)];ie h (λc1 h=>bu h zA [aD c1]) λc1 h=>cC (aK h) zA [aD c1]) λc0 h=>ra (aU h) [aD c0]
def IM (aB:A Bool):Nat->aP->Int->Int->A Bool
 |0=>dw.z
 |n+1=>VC aB (IM aB n) n
def axx {aB} (aU:KK (Sr [1,1]) XI aB):∀n:Nat,KK (Sr [0,1,0,1]) DE (IM aB n)
 |0=>KC.h
 |n+1=>aNe aU (axx aU n) n
def akp (n:Nat):A Bool:=
 V M
def aNd (n:Nat):KK (Sr [1,1]) XI (akp n):=λr h=>rr h []
def ako (n:Nat) (l0:aP):A Bool:=
 IM (akp n) n l0 (l0.length:Int) 0
def aNc (n:Nat):KK (Sr []) amn (ako n):=λ_ r h=>ra (axx (aNd n) n h) []
def ajf:=ako
def aGk (n:Nat):KK (Cx E0 170 cY bG) amn (ajf n):=λ_ _ h=>ca (X:=x170) (aNc n h)
def dX (r:Int):AV:=.int .i64 r
def x171:=fx E0 Tryz.f171 []
def Sq:=Ax x171 dX bG
def ajF:=Cx E0 171 dX bG
def XH (n1 i5:Int) (b2:aj):LS:=⟨[(1,bM n1),aY 2,(5,bM i5)],[(2,kY (fW b2))]⟩
def XG (n1:Int):LS:=⟨[(1,bM n1)],[]⟩
def rA (p0:aj) (n1:Int):LS:=⟨[(0,.agg (fW p0)),(1,bM n1)],[]⟩
def VB (o5:asC) (aB:Wf6) (back:Int->Int->aj->A Int) (n:Nat) (n1 i5:Int) (b2:aj):A Int:=
 if U (i5<(b2.fArgs.length:Int)) then
 if !U (24<n1) then
 (idx b2.fArgs i5).bind λdB=>(o5 dB n1).bind λiZ=>back iZ (aV (i5+1)) b2
 else
 aB n1
 else
 aB n1
def aNb {o5} (BS:KK ajF rA o5) {aB} (aU:KK (Sq [1,1,1]) XG aB) {back} (aK:KK (Sq [0,1,0,1,1]) XH back) (n:Nat):KK (Sq [0,1,0,1,1]) XH (VB o5 aB back n):=λ_ _ _ r h=>ie h (λc0 h=>ie h (λc1 h=>be h λ_ fG h=>be h λ_ iW h=>ra (aK h) [bl c0,aQ c1,(4,fa.idx fG),jj (BS iW)]) λc1 h=>ra (aU h) [bl c0,aQ c1]) λc0 h=>ra (aU h) [bl c0]
def IL (o5:asC) (aB:Wf6):Nat->Int->Int->aj->A Int
 |0=>dw.z
 |n+1=>VB o5 aB (IL o5 aB n) n
def axw {o5} (BS:KK ajF rA o5) {aB} (aU:KK (Sq [1,1,1]) XG aB):∀n:Nat,KK (Sq [0,1,0,1,1]) XH (IL o5 aB n)
 |0=>KC.h
 |n+1=>aNb BS aU (axw BS aU n) n
def azW (o5:asC) (n:Nat) (n1:Int):A Int:=
 V n1
def aNa {o5} (BS:KK ajF rA o5) (n:Nat):KK (Sq [1,1,1]) XG (azW o5 n):=λ_ r h=>rr h []
def akn (o5:asC) (n:Nat) (p0:aj) (n1:Int):A Int:=
 IL o5 (azW o5 n) n (aV (n1+1)) 0 p0
def aMZ {o5} (BS:KK ajF rA o5) (n:Nat):KK (Sq []) rA (akn o5 n):=λ_ _ r h=>ra (axw BS (aNa BS n) n h) []
def ZU:Nat->aj->Int->A Int
 |0,_,_=>G
 |n+1,p0,n1=>akn (ZU n) n p0 n1
def aGj:∀n:Nat,KK ajF rA (ZU n)
 |0=>λ_ _ _ h=>nz h
 |n+1=>λ_ _ _ h=>ca (X:=x171) (aMZ (aGj n) n h)
def W8:=fx E0 Tryz.f172 []
def Sp:=Ax W8 cY bG
def ajE:=Cx E0 172 cY bG
def XF (n1 t10 t11:Int) (b2:aj):LS:=⟨[(1,bM n1),aY 2,(10,bM t10),(11,bM t11)],[(2,kY (fW b2))]⟩
def XE:LS:=⟨[],[]⟩
def Vz (o4:asB) (aB:A Bool) (back:Int->Int->Int->aj->A Bool) (n:Nat) (n1 t10 t11:Int) (b2:aj):A Bool:=
 if U (t11<t10) then
 (idx b2.fArgs t11).bind λx7=>(o4 x7 (aV (n1-1))).bind λj8=>if j8 then
 V M
 else
 back n1 t10 (aV (t11+1)) b2
 else
 aB
def aMY {o4} (BR:KK ajE rA o4) {aB} (aU:KK (Sp [1,1,1]) XE aB) {back} (aK:KK (Sp [0,1,0,1,1]) XF back) (n:Nat):KK (Sp [0,1,0,1,1]) XF (Vz o4 aB back n):=λ_ _ _ _ r h=>ie h (λc0 h=>be h λ_ iQ h=>be h λ_ jc h=>let zA:SE:=[aD c0,(5,fa.idx iQ),ky (BR jc)];ie h (λc1 bE=>by subst c1;exact (rr bE zA)) λc1 bE=>by subst c1;exact (ra (aK bE) zA)) λc0 h=>ra (aU h) [aD c0]
def IK (o4:asB) (aB:A Bool):Nat->Int->Int->Int->aj->A Bool
 |0=>dw.z
 |n+1=>Vz o4 aB (IK o4 aB n) n
def axv {o4} (BR:KK ajE rA o4) {aB} (aU:KK (Sp [1,1,1]) XE aB):∀n:Nat,KK (Sp [0,1,0,1,1]) XF (IK o4 aB n)
 |0=>KC.h
 |n+1=>aMY BR aU (axv BR aU n) n
def akm (o4:asB) (n:Nat):A Bool:=
 V B
def aMX {o4} (BR:KK ajE rA o4) (n:Nat):KK (Sp [1,1,1]) XE (akm o4 n):=λr h=>rr h []
def Vy (o4:asB) (n:Nat) (p0:aj) (n1:Int):A Bool:=
 if n1==0 then
 V M
 else
 IK o4 (akm o4 n) n n1 (p0.fArgs.length:Int) 0 p0
def aMW {o4} (BR:KK ajE rA o4) (n:Nat):KK (Sp []) rA (Vy o4 n):=λ_ _ r h=>ie h (λc0 h=>rr h [aX c0]) λc0 h=>ra (axv BR (aMX BR n) n h) [aX c0]
def NK:Nat->aj->Int->A Bool
 |0,_,_=>G
 |n+1,p0,n1=>Vy (NK n) n p0 n1
def aGi:∀n:Nat,KK ajE rA (NK n)
 |0=>λ_ _ _ h=>nz h
 |n+1=>λ_ _ _ h=>ca (X:=W8) (aMW (aGi n) n h)
def x193:=fx E0 Tryz.f193 []
def A193:=Ax x193 cY bG
def DC (p0:aj):LS:=⟨[(0,.agg (fW p0))],[]⟩
def ajX (n:Nat) (p0:aj):A Bool:=
 if p0.fI==0 then
 if ((p0.cQ.aE==0)&&((p0.cQ.dk==0)&&(((p0.cQ.bk.aE==0)&&((p0.cQ.bk.dj==0)&&((U (p0.cQ.bk.cM=vp))&&M)))&&M))) then
 V ((p0.cx.aE==0)&&((p0.cx.dk==0)&&(((p0.cx.bk.aE==0)&&((p0.cx.bk.dj==0)&&((U (p0.cx.bk.cM=vp))&&M)))&&M)))
 else
 V B
 else
 V B
def aMp (n:Nat):KK (A193 []) DC (ajX n):=λ_ r h=>ie h (λc0 h=>ie h (λc1 h=>rr h [bl c0,bl c1]) λc1 h=>rr h [bl c0,bl c1]) λc0 h=>rr h [bl c0]
def ZQ:=ajX
def abN (n:Nat):KK (Cx E0 193 cY bG) DC (ZQ n):=λ_ _ h=>ca (X:=x193) (aMp n h)
def x158:=fx E0 Tryz.f158 []
def A158:=Ax x158 cY bG
def yw (v0:aT):LS:=⟨[(0,.agg (ir v0))],[]⟩
def akw (n:Nat) (v0:aT):A Bool:=
 if v0.aE==1 then
 if v0.dj==0 then
 V (U (v0.cM=vp))
 else
 V B
 else
 if v0.aE==2 then
 if v0.dj==0 then
 V (U (v0.cM=vp))
 else
 V B
 else
 if v0.aE==3 then
 if v0.dj==0 then
 V (U (v0.cM=vp))
 else
 if v0.dj==1 then
 V (U (v0.cM=vp))
 else
 V B
 else
 if v0.aE==4 then
 V (U (v0.cM=vp))
 else
 if v0.aE==5 then
 if v0.dj==0 then
 V (!U (64<(v0.cM.size:Int)))
 else
 V B
 else
 V B
def aNu (n:Nat):KK (A158 []) yw (akw n):=λ_ r h=>ie h (λc0 h=>ie h (λc1 h=>rr h [bl c0,aX c1]) λc1 h=>rr h [bl c0,aX c1]) λc0 h=>ie h (λc1 h=>ie h (λc2 h=>rr h [bl c0,aW c1,aX c2]) λc2 h=>rr h [bl c0,aW c1,aX c2]) λc1 h=>let zA:SE:=[bl c0,aW c1];ie h (λc2 h=>ie h (λc3 h=>bu h zA [aW c2,aX c3]) λc3 h=>ie h (λc4 h=>bu h zA [aW c2,aX c3,aX c4]) λc4 h=>bu h zA [aW c2,aX c3,aX c4]) λc2 h=>let zB:SE:=dv zA [aW c2];ie h (λc3 h=>bu h zB [aW c3]) λc3 h=>ie h (λc4 h=>ie h (λc5 h=>bu h zB [aW c3,aW c4,aX c5]) λc5 h=>bu h zB [aW c3,aW c4,aX c5]) λc4 h=>bu h zB [aW c3,aW c4]
def atp:=akw
def aGn (n:Nat):KK (Cx E0 158 cY bG) yw (atp n):=λ_ _ h=>ca (X:=x158) (aNu n h)
def x142:=fx E0 Tryz.f142 []
def A142:=Ax x142 cY bG
def akM (n:Nat) (v0:aT):A Bool:=
 (atp n v0).bind λx4=>if x4 then
 V (!U (v0.aE<3))
 else
 V B
def aOs (n:Nat):KK (A142 []) yw (akM n):=λ_ r h=>be h λ_ iB h=>ie h (λc0 bE=>by subst c0;exact (rr bE [ky (aGn n iB)])) λc0 bE=>by subst c0;exact (rr bE [ky (aGn n iB)])
def Sf:=akM
def abQ (n:Nat):KK (Cx E0 142 cY bG) yw (Sf n):=λ_ _ h=>ca (X:=x142) (aOs n h)
def x194:=fx E0 Tryz.f194 []
def A194:=Ax x194 dX bG
def aIn (TF:aP) (b5:bO):LS:=⟨[aY 5,(7,.slice 3 1 TF.length (dM TF))],[(5,.flat 105 (rY b5))]⟩
def ami (fH params1:aP) (o2:bO):LS:=⟨[(0,.slice 3 1 fH.length (dM fH)),(1,.slice 3 1 params1.length (dM params1)),(2,.agg (rY o2))],[]⟩
def NU (n:Nat) (TF:aP) (b5:bO):A Int:=
 if U (b5.dk<0) then
 V 0
 else
 if !U (b5.dk<(TF.length:Int)) then
 V 0
 else
 if !((b5.bk.aE==0)&&((b5.bk.dj==0)&&((U (b5.bk.cM=vp))&&M))) then
 V 0
 else
 (idx TF b5.dk).bind λlM=>V lM
def azi (n:Nat):KK (A194 [1,1,1]) aIn (NU n):=λ_ _ r h=>ie h (λc0 h=>rr h [aQ c0]) λc0 h=>ie h (λc1 h=>rr h [aQ c0,bS c1]) λc1 h=>ie h (λc2 h=>rr h [aQ c0,bS c1,bS c2]) λc2 h=>be h λ_ j5 h=>rr h [aQ c0,bS c1,bS c2,(4,R3.idx j5)]
def ajW (n:Nat) (fH params1:aP) (o2:bO):A Int:=
 if o2.aE==3 then
 if o2.dk !=0 then
 V 0
 else
 (Sf n o2.bk).bind λga=>if !ga then
 V 0
 else
 V o2.bk.aE
 else
 if o2.aE==2 then
 NU n params1 o2
 else
 if o2.aE==1 then
 NU n fH o2
 else
 V 0
def aMo (n:Nat):KK (A194 []) ami (ajW n):=λ_ _ _ r h=>ie h (λc0 h=>ie h (λc1 h=>rr h [dm c0,aX c1]) λc1 h=>be h λ_ lu h=>let zA:SE:=[dm c0,aX c1,ky (abQ n lu)];ie h (λc2 h=>bu h zA [aD c2]) λc2 h=>bu h zA [aD c2]) λc0 h=>ie h (λc1 h=>ra (azi n h) [dm c0,aW c1]) λc1 h=>ie h (λc2 h=>ra (azi n h) [dm c0,aW c1,aW c2]) λc2 h=>rr h [dm c0,aW c1,aW c2]
def aiY:=ajW
def aFX (n:Nat):KK (Cx E0 194 dX bG) ami (aiY n):=λ_ _ _ _ h=>ca (X:=x194) (aMo n h)
def x173:=fx E0 Tryz.f173 []
def Oi:=Ax x173 cY bG
def Z3:=Cx E0 173 cY bG
def XD (fH params1:aP) (t70 t71:Int) (b5:aj):LS:=⟨[(0,.slice 3 1 fH.length (dM fH)),(1,.slice 3 1 params1.length (dM params1)),aY 5,(70,iI t70),(71,iI t71)],[(5,kY (fW b5))]⟩
def XC:LS:=⟨[],[]⟩
def aIs (fH params1:aP) (b5:aj):LS:=⟨[(0,.slice 3 1 fH.length (dM fH)),(1,.slice 3 1 params1.length (dM params1)),aY 5],[(5,kY (fW b5))]⟩
def sX (fH params1:aP) (p2:aj):LS:=⟨[(0,.slice 3 1 fH.length (dM fH)),(1,.slice 3 1 params1.length (dM params1)),(2,.agg (fW p2))],[]⟩
def Vx (lE:aii) (aB:A Bool) (back:aP->aP->Int->Int->aj->A Bool) (n:Nat) (fH params1:aP) (t70 t71:Int) (b5:aj):A Bool:=
 if U (t71<t70) then
 (idx b5.fArgs t71).bind λx9=>(lE fH params1 x9).bind λj8=>if !j8 then
 V B
 else
 back fH params1 t70 (aV (t71+1)) b5
 else
 aB
def aMV {lE} (uE:KK Z3 sX lE) {aB} (aU:KK (Oi [1,1,1,1]) XC aB) {back} (aK:KK (Oi (aI 87)) XD back) (n:Nat):KK (Oi (aI 87)) XD (Vx lE aB back n):=λ_ _ _ _ _ r h=>ie h (λc0 h=>be h λ_ iq h=>be h λ_ jc h=>let zA:SE:=[aD c0,(7,fa.idx iq),qT (uE jc)];ie h (λc1 h=>bu h zA [aD c1]) λc1 h=>cC (aK h) zA [aD c1]) λc0 h=>ra (aU h) [aD c0]
def Fc (lE:aii) (aB:A Bool):Nat->aP->aP->Int->Int->aj->A Bool
 |0=>dw.z
 |n+1=>Vx lE aB (Fc lE aB n) n
def axu {lE} (uE:KK Z3 sX lE) {aB} (aU:KK (Oi [1,1,1,1]) XC aB):∀n:Nat,KK (Oi (aI 87)) XD (Fc lE aB n)
 |0=>KC.h
 |n+1=>aMV uE aU (axu uE aU n) n
def akl (lE:aii) (n:Nat):A Bool:=
 V M
def aMU {lE} (uE:KK Z3 sX lE) (n:Nat):KK (Oi [1,1,1,1]) XC (akl lE n):=λr h=>rr h []
def Jq (lE:aii) (n:Nat) (fH params1:aP) (b5:aj):A Bool:=
 (ZQ n b5).bind λx2=>if !x2 then
 V B
 else
 Fc lE (akl lE n) n fH params1 (b5.fArgs.length:Int) 0 b5
def ahX {lE} (uE:KK Z3 sX lE) (n:Nat):KK (Oi [1,1]) aIs (Jq lE n):=λ_ _ _ r h=>be h λ_ dg h=>ie h (λc0 h=>rr h [qT (abN n dg),aD c0]) λc0 h=>ra (axu uE (aMU uE n) n h) [qT (abN n dg),aD c0]
def akk (lE:aii) (n:Nat) (fH params1:aP) (p2:aj):A Bool:=
 if p2.bg==1 then
 (ZQ n p2).bind λx8=>if x8 then
 V ((p2.fArgs.length:Int)==0)
 else
 V B
 else
 if p2.bg==2 then
 (ZQ n p2).bind λeW=>if eW then
 V ((p2.fArgs.length:Int)==0)
 else
 V B
 else
 if p2.bg==3 then
 (aiY n fH params1 p2.cQ).bind λga=>if (p2.fArgs.length:Int)==0 then
 if !U (p2.fI<1) then
 if !U (6<p2.fI) then
 if ga !=0 then
 (aiY n fH params1 p2.cx).bind λLo=>V (ga==Lo)
 else
 V B
 else
 V B
 else
 V B
 else
 V B
 else
 if p2.bg==4 then
 Jq lE n fH params1 p2
 else
 if p2.bg==5 then
 Jq lE n fH params1 p2
 else
 if p2.bg==6 then
 if (p2.fArgs.length:Int) !=1 then
 V B
 else
 Jq lE n fH params1 p2
 else
 V B
def aMT {lE} (uE:KK Z3 sX lE) (n:Nat):KK (Oi []) sX (akk lE n):=λ_ _ _ r h=>ie h (λc0 h=>be h λ_ lj h=>let zA:SE:=[bl c0,jj (abN n lj)];ie h (λc1 bE=>by subst c1;exact (rr bE zA)) λc1 bE=>by subst c1;exact (rr bE zA)) λc0 h=>let zA:SE:=[bl c0];ie h (λc1 h=>be h λ_ iF h=>let zB:SE:=dv zA [aW c1,jj (abN n iF)];ie h (λc2 bE=>by subst c2;exact (rr bE zB)) λc2 bE=>by subst c2;exact (rr bE zB)) λc1 h=>let zB:SE:=dv zA [aW c1];ie h (λc2 h=>be h λ_ lu h=>let zC:SE:=dv zB [aW c2,mh (aFX n lu)];ie h (λc3 h=>let zD:SE:=dv zC [bl c3];ie h (λc4 h=>ie h (λc5 h=>ie h (λc6 h=>be h λ_ ahi h=>bu h zD [aX c4,bl c5,aX c6,vt (aFX n ahi)]) λc6 h=>bu h zD [aX c4,bl c5,aX c6]) λc5 h=>bu h zD [aX c4,bl c5]) λc4 h=>bu h zD [aX c4]) λc3 h=>bu h zC [bl c3]) λc2 h=>let zC:SE:=dv zB [aW c2];ie h (λc3 h=>cC (ahX uE n h) zC [aW c3]) λc3 h=>let zD:SE:=dv zC [aW c3];ie h (λc4 h=>cC (ahX uE n h) zD [aW c4]) λc4 h=>ie h (λc5 h=>ie h (λc6 h=>bu h zD [aW c4,aW c5,bl c6]) λc6 h=>cC (ahX uE n h) zD [aW c4,aW c5,bl c6]) λc5 h=>bu h zD [aW c4,aW c5]
def NJ:Nat->aP->aP->aj->A Bool
 |0,_,_,_=>G
 |n+1,fH,params1,p2=>akk (NJ n) n fH params1 p2
def aGh:∀n:Nat,KK Z3 sX (NJ n)
 |0=>λ_ _ _ _ h=>nz h
 |n+1=>λ_ _ _ _ h=>ca (X:=x173) (aMT (aGh n) n h)
def x135:=fx E0 Tryz.f135 []
def A135:=Ax x135 dX bG
def akS (n:Nat) (fH params1:aP) (p2:aj):A Int:=
 (ajf n fH).bind λx4=>if !x4 then
 V 1
 else
 (ajf n params1).bind λx9=>if !x9 then
 V 1
 else
 (ZU n p2 0).bind λiK=>if U (24<iK) then
 V 2
 else
 (NK n p2 8).bind λlg=>if lg then
 V 2
 else
 (NJ n fH params1 p2).bind λgw=>if !gw then
 V 50
 else
 V 0
def aOP (n:Nat):KK (A135 []) sX (akS n):=λ_ _ _ r h=>be h λ_ iB h=>let zA:SE:=[ky (aGk n iB)];ie h (λc0 h=>bu h zA [aD c0]) λc0 h=>be h λ_ iq h=>let zB:SE:=dv zA [aD c0,jj (aGk n iq)];ie h (λc1 h=>bu h zB [aD c1]) λc1 h=>be h λ_ iO h=>let zC:SE:=dv zB [aD c1,jj (aGj n iO)];ie h (λc2 h=>bu h zC [aD c2]) λc2 h=>be h λ_ nu h=>let zD:SE:=dv zC [aD c2,jj (aGi n nu)];ie h (λc3 bE=>by subst c3;exact (rr bE zD)) λc3 bE=>by subst c3;exact (be bE λgw ld bE=>let zE:SE:=dv zD [ku (aGh n ld)];ie bE (λc4 bE=>bu bE zE [aD c4]) λc4 bE=>bu bE zE [aD c4])
def ajx:=akS
def aGw (n:Nat):KK (Cx E0 135 dX bG) sX (ajx n):=λ_ _ _ _ h=>ca (X:=x135) (aOP n h)
def x92:=fx E0 Tryz.f92 [0]
def A92:=Ax x92 Te O8
def atM (n:Nat) (c0:aN) (dU params2:aP) (nV:Int):A (aj×aN):=
 (Fv n c0 dU params2 nV).bind λx6=>(ajx n dU params2 x6.1).bind λdB=>if dB==2 then
 (Fv n x6.2 dU params2 1).bind λlg=>V (lg.1,lg.2)
 else
 V (x6.1,x6.2)
def aSZ (n:Nat):KK (A92 []) sY (atM n):=λ_ _ _ _ r h=>be h λ_ jV h=>be h λ_ fG h=>let zA:SE:=[(5,.call (arB n jV) [(0,0)] []),mh (aGw n fG)];ie h (λdy h=>be h λ_ nu h=>bu h zA [aD dy,(3,.call (arB n nu) [(0,0)] [])]) λdy h=>bu h zA [aD dy]
def F92:=atM
def ev92 (n:Nat):KK (Cx E0 92 Te O8) sY (F92 n):=λ_ _ _ _ _ h=>ca (X:=x92) (aSZ n h)
def aEr (r:(ae×aN)):AV:=.agg (cG r.1)
def awI (r:(ae×aN)):List (Nat×Bx):= (ta (fA r.2))
def x38:=fx E0 Tryz.f38 [0]
def A38:=Ax x38 aEr awI
def aKW (b0:aN) (b2 b5:ae) (cm:bD):LS:=⟨[aY 0,aY 2,aY 5],[(0,mV (fA b0)),(2,agf),(5,Y0 b5 cm.length),(32,.rows B 44 5 (dG cm))]⟩
def avA (n3:Int) (b0:aN) (b2 b5:ae) (cm:bD):LS:=⟨[aY 0,aY 2,(3,bM n3),aY 5],[(0,mV (fA b0)),(2,agf),(5,Y0 b5 cm.length),(32,.rows B 44 5 (dG cm))]⟩
def aKV (n3 id4:Int) (b0:aN) (b2:ae):LS:=⟨[aY 0,aY 2,(3,bM n3),(4,bM id4)],[(0,mV (fA b0)),(2,agf)]⟩
def Lh (n:Nat) (b0:aN) (b2 b5:ae) (cm:bD):A (ae×aN):=
 (C0 n b0 3).bind λx2=>if x2.1 then
 (F50 n (ae.mk b5.aA cm) 1).bind λx8=>(F92 n x2.2 x8 [] 1).bind λeW=>(eh cm.length 1).bind λdB=>(cm[0+dB]?).bind λfN=>(setAt cm (0+dB) (ai.mk fN.aM fN.ag fN.aH fN.ar [eW.1])).bind λz18=>V ((ae.mk b5.aA z18),eW.2)
 else
 V ((ae.mk b5.aA cm),x2.2)
def asm (n:Nat):KK (A38 (aI 1023)) aKW (Lh n):=λ_ _ b5 cm r h=>be h λ_ dg h=>ie h (λdy h=>be h λx8 lj h=>be h λeW iF h=>be h λ_ fG h=>be h λ_ gU h=>be h λz18 Zg h=>rr h [(1,.call (cb (qI n dg) dy) [(0,0)] []),(4,.zw (arw n lj) [cy.eB 32 cm] (R3.noDR (λ_=>by kernel_rfl) x8) [] [(80,bF)] [R3.eB 80 x8]),(0,.call (ev92 n iF) [(0,0)] []),(0,.laid (bH (Bx.rows B 107 13) (fa.map [eW.1]).symm)),(0,de fG),(1,cy.hol 4 gU),(0,fa.eB 82 [eW.1]),(0,cy.clo 32 4 (.slice 107 13 [eW.1].length (dV [eW.1])) .undef gU Zg),(2,.seq 77 (bH (AV.ms 32 5 0) (eG Zg))),(0,.seq 79 (bH (λn_=>(AV.agg [q4_ b5,.ms 32 5 0 n_])) (eG Zg))),(0,.seq 85 (bH (λn_=>(AV.agg [q4_ b5,.ms 32 5 0 n_])) (eG Zg))),(0,.beq 2 (bH (Y0 b5) (eG Zg))),(0,.beq 5 (bH (Y0 b5) (eG Zg))),(0,cy.eB 32 z18)]) λdy h=>rr h [(1,.call (cb (qI n dg) dy) [(0,0)] []),(2,cy.eB 32 cm)]
def GG (n:Nat) (n3:Int) (b0:aN) (b2 b5:ae) (cm:bD):A (ae×aN):=
 if U (3<n3) then
 (C0 n b0 3).bind λx5=>if x5.1 then
 (eh cm.length 3).bind λdB=>(cm[0+dB]?).bind λfN=>(setAt cm (0+dB) (ai.mk fN.aM fN.ag fN.aH [(bq.mk [0] 1)] fN.aL)).bind λxh=>Lh n x5.2 (ae.mk 0 []) (ae.mk b5.aA xh) xh
 else
 Lh n x5.2 (ae.mk 0 []) (ae.mk b5.aA cm) cm
 else
 Lh n b0 (ae.mk 0 []) (ae.mk b5.aA cm) cm
def asl (n:Nat):KK (A38 (aI 511)) avA (GG n):=λ_ _ _ b5 _ r h=>ie h (λdy h=>be h λ_ iw h=>ie h (λc1 h=>be h λ_ fG h=>be h λ_ gU h=>be h λ_ oP h=>ra (asm n h) [aW dy,(2,.call (cb (qI n iw) c1) [(0,0)] []),(5,R3.eB 69 [0]),(1,de fG),(1,fD.eB 71 [(bq.mk [0] 1)]),(0,cy.ur 3 [.slice 121 2 [(bq.mk [0] 1)].length (eD [(bq.mk [0] 1)])] gU oP),(0,.beq 5 (bH (Y0 b5) (eG oP)))]) λc1 h=>ra (asm n h) [aW dy,(2,.call (cb (qI n iw) c1) [(0,0)] [])]) λdy h=>ra (asm n h) [aW dy]
def Lf (n:Nat) (n3:Int) (b0:aN) (b2 b5:ae) (cm:bD):A (ae×aN):=
 if U (2<n3) then
 (C0 n b0 3).bind λx5=>if x5.1 then
 (eh cm.length 2).bind λdB=>(cm[0+dB]?).bind λfN=>(setAt cm (0+dB) (ai.mk fN.aM fN.ag fN.aH [(bq.mk [0] 0)] fN.aL)).bind λxh=>GG n n3 x5.2 (ae.mk 0 []) (ae.mk b5.aA xh) xh
 else
 GG n n3 x5.2 (ae.mk 0 []) (ae.mk b5.aA cm) cm
 else
 GG n n3 b0 (ae.mk 0 []) (ae.mk b5.aA cm) cm
def aHf (n:Nat):KK (A38 (aI 255)) avA (Lf n):=λ_ _ _ b5 _ r h=>ie h (λdy h=>be h λ_ iw h=>ie h (λc1 h=>be h λ_ fG h=>be h λ_ gU h=>be h λ_ oP h=>ra (asl n h) [aW dy,(2,.call (cb (qI n iw) c1) [(0,0)] []),(5,R3.eB 56 [0]),(1,de fG),(1,fD.eB 58 [(bq.mk [0] 0)]),(0,cy.ur 3 [.slice 121 2 [(bq.mk [0] 0)].length (eD [(bq.mk [0] 0)])] gU oP),(0,.beq 5 (bH (Y0 b5) (eG oP)))]) λc1 h=>ra (asl n h) [aW dy,(2,.call (cb (qI n iw) c1) [(0,0)] [])]) λdy h=>ra (asl n h) [aW dy]
def U4 (n:Nat) (n3 id4:Int) (b0:aN) (b2:ae):A (ae×aN):=
 (rf n b0 3).bind λx2=>(Fs n (xp #[105,100]) 4).bind λx4=>(Fs n (xp #[111,119,110,101,114]) 4).bind λx6=>(Fs n (xp #[105,100]) id4).bind λdu=>(Fs n (xp #[112,114,111,106,101,99,116]) 4).bind λdB=>(Fs n (xp #[116,105,116,108,101]) 5).bind λga=>(Fs n (xp #[100,111,110,101]) 3).bind λiZ=>(Fs n (xp #[112,114,111,106,101,99,116]) 4).bind λmX=>(Fs n (xp #[112,101,114,115,111,110]) 4).bind λhY=>(Fs n (xp #[116,97,115,107]) id4).bind λqb=>(so 4 n3).bind λtF=>(C0 n x2.2 2).bind λD2=>if D2.1 then
 (eh tF 1).bind λx51=>([(ai.mk (xp #[112,114,111,106,101,99,116,115]) [x4,x6] 1 [] []),(ai.mk (xp #[116,97,115,107,115]) [du,dB,ga,iZ] 1 [] []),(ai.mk (xp #[109,101,109,98,101,114,115]) [mX,hY] 2 [] []),(ai.mk (xp #[97,114,99,104,105,118,101,100]) [qb] 1 [] [])][0+x51]?).bind λFC=>(setAt [(ai.mk (xp #[112,114,111,106,101,99,116,115]) [x4,x6] 1 [] []),(ai.mk (xp #[116,97,115,107,115]) [du,dB,ga,iZ] 1 [] []),(ai.mk (xp #[109,101,109,98,101,114,115]) [mX,hY] 2 [] []),(ai.mk (xp #[97,114,99,104,105,118,101,100]) [qb] 1 [] [])] (0+x51) (ai.mk FC.aM FC.ag FC.aH [(bq.mk [1] 0)] FC.aL)).bind λz55=>Lf n n3 D2.2 (ae.mk 0 []) (ae.mk x2.1 (z55.take tF)) (z55.take tF)
 else
 Lf n n3 D2.2 (ae.mk 0 []) (ae.mk x2.1 ([(ai.mk (xp #[112,114,111,106,101,99,116,115]) [x4,x6] 1 [] []),(ai.mk (xp #[116,97,115,107,115]) [du,dB,ga,iZ] 1 [] []),(ai.mk (xp #[109,101,109,98,101,114,115]) [mX,hY] 2 [] []),(ai.mk (xp #[97,114,99,104,105,118,101,100]) [qb] 1 [] [])].take tF)) ([(ai.mk (xp #[112,114,111,106,101,99,116,115]) [x4,x6] 1 [] []),(ai.mk (xp #[116,97,115,107,115]) [du,dB,ga,iZ] 1 [] []),(ai.mk (xp #[109,101,109,98,101,114,115]) [mX,hY] 2 [] []),(ai.mk (xp #[97,114,99,104,105,118,101,100]) [qb] 1 [] [])].take tF)
def aHe (n:Nat):KK (A38 [1,1,1,1]) aKV (U4 n):=λ_ _ _ _ r h=>be h λx2 dg h=>be h λx4 iB h=>be h λx6 jV h=>be h λdu fB h=>be h λdB fG h=>be h λga lu h=>be h λiZ iW h=>be h λmX py h=>be h λhY oj h=>be h λqb tn h=>be h λtF AK h=>be h λ_ Zh h=>let zA:SE:=[(1,.call (oq n dg) [(0,0)] []),jM (ET n iB),jM (ET n jV),ky (ET n fB),jM (ET n fG),jM (ET n lu),jM (ET n iW),jj (ET n py),jM (ET n oj),ky (ET n tn),(2,fk.eB 15 [x4,x6]),(0,.qc 16 (.agg (zx 3 [.sl 0 121 2 0 [],.sl 0 107 13 0 []]))),(0,fk.eB 22 [du,dB,ga,iZ]),(0,.qc 23 (.agg (zx 3 [.sl 0 121 2 0 [],.sl 0 107 13 0 []]))),(0,fk.eB 26 [mX,hY]),(0,.qc 27 (.agg (zx 3 [.sl 0 121 2 0 [],.sl 0 107 13 0 []]))),(0,fk.eB 30 [qb]),(0,.qc 31 (.agg (zx 3 [.sl 0 121 2 0 [],.sl 0 107 13 0 []]))),(7,cy.so (xs:= [(ai.mk (xp #[112,114,111,106,101,99,116,115]) [x4,x6] 1 [] []),(ai.mk (xp #[116,97,115,107,115]) [du,dB,ga,iZ] 1 [] []),(ai.mk (xp #[109,101,109,98,101,114,115]) [mX,hY] 2 [] []),(ai.mk (xp #[97,114,99,104,105,118,101,100]) [qb] 1 [] [])]) AK (tP rfl))];ie h (λdy h=>be h λ_ hx51 h=>be h λ_ ahg h=>be h λz55 hz55 h=>cC (aHf n h) zA [(3,.call (cb (qI n Zh) dy) [(0,0)] []),(4,R3.eB 43 [1]),(1,de hx51),(1,fD.eB 45 [(bq.mk [1] 0)]),(0,cy.ur 3 [.slice 121 2 [(bq.mk [1] 0)].length (eD [(bq.mk [1] 0)])] ahg hz55),(0,.shr 32 (cy.take z55 tF)),(0,.beq 5 (bH (λn_=>(Bx.flat 25 [bM x2.1,.ms 32 5 0 n_])) ((yp (xs:=z55) (kP (kP (tM AK).2 (tP rfl)) (tP (eG hz55)))).symm)))]) λdy h=>cC (aHf n h) zA [(3,.call (cb (qI n Zh) dy) [(0,0)] []),(0,.shr 32 (cy.take [(ai.mk (xp #[112,114,111,106,101,99,116,115]) [x4,x6] 1 [] []),(ai.mk (xp #[116,97,115,107,115]) [du,dB,ga,iZ] 1 [] []),(ai.mk (xp #[109,101,109,98,101,114,115]) [mX,hY] 2 [] []),(ai.mk (xp #[97,114,99,104,105,118,101,100]) [qb] 1 [] [])] tF)),(0,.beq 5 (bH (λn_=>(Bx.flat 25 [bM x2.1,.ms 32 5 0 n_])) ((yp (xs:= [(ai.mk (xp #[112,114,111,106,101,99,116,115]) [x4,x6] 1 [] []),(ai.mk (xp #[116,97,115,107,115]) [du,dB,ga,iZ] 1 [] []),(ai.mk (xp #[109,101,109,98,101,114,115]) [mX,hY] 2 [] []),(ai.mk (xp #[97,114,99,104,105,118,101,100]) [qb] 1 [] [])]) (kP (tM AK).2 (tP rfl))).symm)))]
def auy (n:Nat) (c0:aN):A (ae×aN):=
 (rf n c0 3).bind λx3=>(C0 n x3.2 5).bind λx9=>if x9.1 then
 U4 n (aV (2+x3.1)) 5 x9.2 (ae.mk 0 [])
 else
 U4 n (aV (2+x3.1)) 4 x9.2 (ae.mk 0 [])
def aUP (n:Nat):KK (A38 []) yy (auy n):=λ_ r h=>be h λ_ eP h=>be h λ_ iq h=>let zA:SE:=[(2,.call (oq n eP) [(0,0)] [])];ie h (λdy h=>cC (aHe n h) zA [(4,.call (cb (qI n iq) dy) [(0,0)] [])]) λdy h=>cC (aHe n h) zA [(4,.call (cb (qI n iq) dy) [(0,0)] [])]
def F38:=auy
def ev38 (n:Nat):KK (Cx E0 38 aEr awI) yy (F38 n):=λ_ _ h=>ca (X:=x38) (aUP n h)
def x174:=fx E0 Tryz.f174 []
def Lk:=Ax x174 cY bG
def aIr (s0:Z) (i3:Int) (t49:Bool):LS:=⟨[(0,.str s0),(3,bM i3),(49,.bool t49)],[]⟩
def OK (s0:Z) (i3:Int):LS:=⟨[(0,.str s0),(3,bM i3)],[]⟩
def XB:LS:=⟨[],[]⟩
def DD (s0:Z):LS:=⟨[(0,.str s0)],[]⟩
def zU (aB:Wt5_) (n:Nat) (s0:Z) (i3:Int) (t49:Bool):A Bool:=
 if t49 then
 V B
 else
 aB s0 (aV (i3+1))
def E6 {aB} (aU:KK (Lk [0,1,0,1,1]) OK aB) (n:Nat):KK (Lk (aI 3659)) aIr (zU aB n):=λ_ _ _ r h=>ie h (λc0 bE=>by subst c0;exact (rr bE [])) λc0 bE=>by subst c0;exact (ra (aU bE) [])
def Vw (bh:A Bool) (back:Wt5_) (n:Nat) (s0:Z) (i3:Int):A Bool:=
 if U (i3<(s0.size:Int)) then
 (G3 s0 i3).bind λx7=>if U ((x7.toNat:Int)<97) then
 if U ((x7.toNat:Int)<48) then
 zU back n s0 i3 ((x7.toNat:Int) !=95)
 else
 if U (57<(x7.toNat:Int)) then
 zU back n s0 i3 ((x7.toNat:Int) !=95)
 else
 zU back n s0 i3 B
 else
 if U (122<(x7.toNat:Int)) then
 if U ((x7.toNat:Int)<48) then
 zU back n s0 i3 ((x7.toNat:Int) !=95)
 else
 if U (57<(x7.toNat:Int)) then
 zU back n s0 i3 ((x7.toNat:Int) !=95)
 else
 zU back n s0 i3 B
 else
 zU back n s0 i3 B
 else
 bh
def aMS {bh} (cL:KK (Lk [1,1,1]) XB bh) {back} (aK:KK (Lk [0,1,0,1,1]) OK back) (n:Nat):KK (Lk [0,1,0,1,1]) OK (Vw bh back n):=λ_ _ r h=>ie h (λc0 h=>be h λ_ iQ h=>let zA:SE:=[aX c0,(2,.chr (iQ))];ie h (λc1 h=>ie h (λc2 h=>cC (E6 aK n h) zA [aQ c1,bl c2]) λc2 h=>ie h (λc3 h=>cC (E6 aK n h) zA [aQ c1,bl c2,aQ c3]) λc3 h=>cC (E6 aK n h) zA [aQ c1,bl c2,aQ c3]) λc1 h=>let zB:SE:=dv zA [aQ c1];ie h (λc2 h=>ie h (λc3 h=>cC (E6 aK n h) zB [aQ c2,aX c3]) λc3 h=>ie h (λc4 h=>cC (E6 aK n h) zB [aQ c2,aX c3,aQ c4]) λc4 h=>cC (E6 aK n h) zB [aQ c2,aX c3,aQ c4]) λc2 h=>cC (E6 aK n h) zB [aQ c2]) λc0 h=>ra (cL h) [aX c0]
def Cg (bh:A Bool):Nat->Z->Int->A Bool
 |0=>dw.z
 |n+1=>Vw bh (Cg bh n) n
def axt {bh} (cL:KK (Lk [1,1,1]) XB bh):∀n:Nat,KK (Lk [0,1,0,1,1]) OK (Cg bh n)
 |0=>KC.h
 |n+1=>aMS cL (axt cL n) n
def Jp (n:Nat):A Bool:=
 V M
def aMR (n:Nat):KK (Lk [1,1,1]) XB (Jp n):=λr h=>rr h []
def akj (n:Nat) (s0:Z):A Bool:=
 if (s0.size:Int)==0 then
 V B
 else
 if U (32<(s0.size:Int)) then
 V B
 else
 (G3 s0 0).bind λj8=>if U ((j8.toNat:Int)<97) then
 V B
 else
 (G3 s0 0).bind λgS=>if U (122<(gS.toNat:Int)) then
 V B
 else
 Cg (Jp n) n s0 0
def aMQ (n:Nat):KK (Lk []) DD (akj n):=λ_ r h=>ie h (λc0 h=>rr h [aX c0]) λc0 h=>ie h (λc1 h=>rr h [aX c0,aX c1]) λc1 h=>be h λ_ jc h=>let zA:SE:=[aX c0,aX c1,(3,.chr (jc))];ie h (λc2 h=>bu h zA [aD c2]) λc2 h=>be h λ_ jl h=>ie h (λc3 h=>bu h zA [aD c2,(3,.chr (jl)),aD c3]) λc3 h=>cC (axt (aMR n) n h) zA [aD c2,(3,.chr (jl)),aD c3]
def aje:=akj
def aGg (n:Nat):KK (Cx E0 174 cY bG) DD (aje n):=λ_ _ h=>ca (X:=x174) (aMQ n h)
def x138:=fx E0 Tryz.f138 []
def tE:=Ax x138 cY bG
def Yi (i1 k6:Int) (b2:ae) (b5:ai):LS:=⟨[(1,bM i1),aY 2,aY 5,(6,bM k6)],[(2,ij (cG b2)),(5,ia (jN b5))]⟩
def Yh (c7 k8 t53 t54:Int) (t67:di) (t68:Int) (t69 t70:cF) (t71:Int) (t72:Bool) (b5:ai):LS:=⟨[aY 5,(7,iI c7),(8,iI k8),(53,iI t53),(54,iI t54),(66,.loc 5 1),(67,.slice 73 2 t67.length (eK t67)),(68,iI t68),(69,.kH (Ks t69)),(70,.kH [bM t70.aE]),(71,iI t71),(72,.bool t72),(73,.bool B)],[(5,ia (jN b5))]⟩
def Yg (t53 t54:Int) (t67:di) (t68:Int) (t69 t70:cF) (t71:Int) (t72:Bool) (b5:ai):LS:=⟨[aY 5,(53,iI t53),(54,iI t54),(66,.loc 5 1),(67,.slice 73 2 t67.length (eK t67)),(68,iI t68),(69,.kH (Ks t69)),(70,.kH [bM t70.aE]),(71,iI t71),(72,.bool t72),(73,.bool B)],[(5,ia (jN b5))]⟩
def OU (t53 t54:Int) (b5:ai):LS:=⟨[aY 5,(53,bM t53),(54,bM t54)],[(5,ia (jN b5))]⟩
def Yf:LS:=⟨[],[]⟩
def Ye (b5:ai):LS:=⟨[aY 5],[(5,ia (jN b5))]⟩
def OT (s0:ae) (i1:Int):LS:=⟨[(0,.agg (cG s0)),(1,bM i1)],[]⟩
def Wl (eA:ai->A Bool) (back:Int->Int->ae->ai->A Bool) (n:Nat) (i1 k6:Int) (b2:ae) (b5:ai):A Bool:=
 if U (k6<i1) then
 (idx b2.ah k6).bind λx7=>if U (x7.aM=b5.aM) then
 V B
 else
 back i1 (aV (k6+1)) b2 b5
 else
 eA b5
def aOI {eA} (gV:KK (tE [1,1,1,1]) Ye eA) {back} (aK:KK (tE (aI 87)) Yi back) (n:Nat):KK (tE (aI 87)) Yi (Wl eA back n):=λ_ _ _ _ r h=>ie h (λc0 h=>be h λ_ iQ h=>ie h (λc1 h=>rr h [aQ c0,(3,cy.idx iQ),bl c1]) λc1 h=>ra (aK h) [aQ c0,(3,cy.idx iQ),bl c1]) λc0 h=>ra (gV h) [aQ c0]
def I3 (eA:ai->A Bool):Nat->Int->Int->ae->ai->A Bool
 |0=>dw.z
 |n+1=>Wl eA (I3 eA n) n
def axY {eA} (gV:KK (tE [1,1,1,1]) Ye eA):∀n:Nat,KK (tE (aI 87)) Yi (I3 eA n)
 |0=>KC.h
 |n+1=>aOI gV (axY gV n) n
def Wk (bh:Wf7) (back:Int->Int->Int->Int->di->Int->cF->cF->Int->Bool->ai->A Bool) (n:Nat) (c7 k8 t53 t54:Int) (t67:di) (t68:Int) (t69 t70:cF) (t71:Int) (t72:Bool) (b5:ai):A Bool:=
 if U (k8<c7) then
 (idx b5.ag k8).bind λx7=>(idx b5.ag c7).bind λiK=>if U (x7.aM=iK.aM) then
 V B
 else
 back c7 (aV (k8+1)) t53 t54 t67 t68 t69 t70 t71 t72 b5
 else
 bh t53 t54 t67 t68 t69 t70 t71 t72 b5
def aOH {bh} (cL:KK (tE (aI 3887)) Yg bh) {back} (aK:KK (tE (aI 95023)) Yh back) (n:Nat):KK (tE (aI 95023)) Yh (Wk bh back n):=λ_ _ _ _ _ _ _ _ _ _ _ r h=>ie h (λc0 h=>be h λ_ iQ h=>be h λ_ iO h=>let zA:SE:=[aQ c0,(3,fk.idx iQ),(5,fk.idx iO)];ie h (λc1 h=>bu h zA [aQ c1]) λc1 h=>cC (aK h) zA [aQ c1]) λc0 h=>ra (cL h) [aQ c0]
def I2 (bh:Wf7):Nat->Int->Int->Int->Int->di->Int->cF->cF->Int->Bool->ai->A Bool
 |0=>dw.z
 |n+1=>Wk bh (I2 bh n) n
def axX {bh} (cL:KK (tE (aI 3887)) Yg bh):∀n:Nat,KK (tE (aI 95023)) Yh (I2 bh n)
 |0=>KC.h
 |n+1=>aOH cL (axX cL n) n
def Wj (br:Wt6_) (n:Nat) (t53 t54:Int) (t67:di) (t68:Int) (t69 t70:cF) (t71:Int) (t72:Bool) (b5:ai):A Bool:=
 br t53 (aV (t54+1)) b5
def aOG {br} (cO:KK (tE (aI 175)) OU br) (n:Nat):KK (tE (aI 3887)) Yg (Wj br n):=λ_ _ _ _ _ _ _ _ _ r h=>ra (cO h) []
def Wi (cV:A Bool) (back:Wt6_) (n:Nat) (t53 t54:Int) (b5:ai):A Bool:=
 if U (t54<t53) then
 (idx b5.ag t54).bind λx7=>(aje n x7.aM).bind λdu=>if !du then
 V B
 else
 (idx b5.ag t54).bind λgS=>(ajd n gS.aE).bind λmF=>if !mF then
 V B
 else
 I2 (Wj back n) n t54 0 t53 t54 b5.ag t54 gS gS gS.aE mF b5
 else
 cV
def aOF {cV} (eX:KK (tE [1,1,1,1,1]) Yf cV) {back} (aK:KK (tE (aI 175)) OU back) (n:Nat):KK (tE (aI 175)) OU (Wi cV back n):=λ_ _ _ r h=>ie h (λc0 h=>be h λ_ iQ h=>be h λ_ fB h=>let zA:SE:=[aD c0,(5,fk.idx iQ),jj (aGg n fB)];ie h (λc1 h=>bu h zA [aD c1]) λc1 h=>be h λ_ jl h=>be h λ_ nR h=>let zB:SE:=dv zA [aD c1,(4,fk.idx jl),jj (aGf n nR)];ie h (λc2 h=>bu h zB [aD c2]) λc2 h=>cC (axX (aOG aK n) n h) zB [aD c2]) λc0 h=>ra (eX h) [aD c0]
def Fm (cV:A Bool):Nat->Int->Int->ai->A Bool
 |0=>dw.z
 |n+1=>Wi cV (Fm cV n) n
def axW {cV} (eX:KK (tE [1,1,1,1,1]) Yf cV):∀n:Nat,KK (tE (aI 175)) OU (Fm cV n)
 |0=>KC.h
 |n+1=>aOF eX (axW eX n) n
def N5 (n:Nat):A Bool:=
 V M
def aOE (n:Nat):KK (tE [1,1,1,1,1]) Yf (N5 n):=λr h=>rr h []
def Wh (n:Nat) (b5:ai):A Bool:=
 Fm (N5 n) n (b5.ag.length:Int) 0 b5
def aOD (n:Nat):KK (tE [1,1,1,1]) Ye (Wh n):=λ_ r h=>ra (axW (aOE n) n h) []
def akP (n:Nat) (s0:ae) (i1:Int):A Bool:=
 (idx s0.ah i1).bind λx6=>(aje n x6.aM).bind λdB=>if !dB then
 V B
 else
 if (x6.ag.length:Int)==0 then
 V B
 else
 if U (x6.aH<1) then
 V B
 else
 if U ((x6.ag.length:Int)<x6.aH) then
 V B
 else
 I3 (Wh n) n i1 0 s0 x6
def aOC (n:Nat):KK (tE []) OT (akP n):=λ_ _ r h=>be h λ_ jV h=>be h λ_ fG h=>let zA:SE:=[(5,cy.idx jV),mh (aGg n fG)];ie h (λc0 h=>bu h zA [aD c0]) λc0 h=>let zB:SE:=dv zA [aD c0];ie h (λc1 h=>bu h zB [bl c1]) λc1 h=>ie h (λc2 h=>bu h zB [bl c1,bl c2]) λc2 h=>ie h (λc3 h=>bu h zB [bl c1,bl c2,il c3]) λc3 h=>cC (axY (aOD n) n h) zB [bl c1,bl c2,il c3]
def ats:=akP
def aSf (n:Nat):KK (Cx E0 138 cY bG) OT (ats n):=λ_ _ _ h=>ca (X:=x138) (aOC n h)
def x139:=fx E0 Tryz.f139 []
def zW:=Ax x139 cY bG
def Yd (t16:bQ) (t17 t18 t27:Int) (t29:bD) (t30:Int) (t35:aP) (t36:Int) (t38:bD) (t40:Int) (t41 t42:ai) (t43:Int) (t47:aP) (t48 t49:Int) (b2:ae) (b5:ai) (b7:bq):LS:=⟨[aY 2,aY 5,aY 7,(16,.slice 121 2 t16.length (eD t16)),(17,iI t17),(18,iI t18),(26,.loc 7 1),(27,iI t27),(28,.loc 2 1),(29,.slice 44 5 t29.length (dG t29)),(30,iI t30),(31,.bool B),(34,.loc 7 0),(35,.slice 3 1 t35.length (dM t35)),(36,iI t36),(37,.loc 2 1),(38,.slice 44 5 t38.length (dG t38)),(39,.loc 7 1),(40,iI t40),(41,.kH (jN t41)),(42,.kH [iI t42.aH,.slice 121 2 t42.ar.length (eD t42.ar),.slice 107 13 t42.aL.length (dV t42.aL)]),(43,iI t43),(44,.bool B),(47,.slice 3 1 t47.length (dM t47)),(48,iI t48),(49,iI t49)],[(2,ij (cG b2)),(5,ia (jN b5)),(7,.flat 121 (EW b7))]⟩
def Yc (t16:bQ) (t17 t18 t27:Int) (t29:bD) (t30:Int) (t35:aP) (t36:Int) (t38:bD) (t40:Int) (t41 t42:ai) (t43:Int) (b2:ae) (b5:ai) (b7:bq):LS:=⟨[aY 2,aY 5,(16,.slice 121 2 t16.length (eD t16)),(17,iI t17),(18,iI t18),(26,.loc 7 1),(27,iI t27),(28,.loc 2 1),(29,.slice 44 5 t29.length (dG t29)),(30,iI t30),(31,.bool B),(34,.loc 7 0),(35,.slice 3 1 t35.length (dM t35)),(36,iI t36),(37,.loc 2 1),(38,.slice 44 5 t38.length (dG t38)),(39,.loc 7 1),(40,iI t40),(41,.kH (jN t41)),(42,.kH [iI t42.aH,.slice 121 2 t42.ar.length (eD t42.ar),.slice 107 13 t42.aL.length (dV t42.aL)]),(43,iI t43),(44,.bool B)],[(2,ij (cG b2)),(5,ia (jN b5)),(7,.flat 121 (EW b7))]⟩
def OS (t16:bQ) (t17 t18:Int) (b2:ae) (b5:ai):LS:=⟨[aY 2,aY 5,(16,.slice 121 2 t16.length (eD t16)),(17,iI t17),(18,iI t18)],[(2,ij (cG b2)),(5,ia (jN b5))]⟩
def Yb:LS:=⟨[],[]⟩
def Wg (aB:Wf8) (back:bQ->Int->Int->Int->bD->Int->aP->Int->bD->Int->ai->ai->Int->aP->Int->Int->ae->ai->bq->A Bool) (n:Nat) (t16:bQ) (t17 t18 t27:Int) (t29:bD) (t30:Int) (t35:aP) (t36:Int) (t38:bD) (t40:Int) (t41 t42:ai) (t43:Int) (t47:aP) (t48 t49:Int) (b2:ae) (b5:ai) (b7:bq):A Bool:=
 if U (t49<t48) then
 (idx t47 t49).bind λx3=>if U (x3<0) then
 V B
 else
 if !U (x3<(b5.ag.length:Int)) then
 V B
 else
 (idx b5.ag x3).bind λmX=>(idx b2.ah b7.av).bind λx29=>(idx x29.ag t49).bind λLp=>if mX.aE !=Lp.aE then
 V B
 else
 back t16 t17 t18 t27 t29 t30 t35 t36 t38 t40 t41 t42 t43 t47 t48 (aV (t49+1)) b2 b5 b7
 else
 aB t16 t17 t18 t27 t29 t30 t35 t36 t38 t40 t41 t42 t43 b2 b5 b7
def aOB {aB} (aU:KK (zW (aI 971)) Yc aB) {back} (aK:KK (zW (aI 23755)) Yd back) (n:Nat):KK (zW (aI 23755)) Yd (Wg aB back n):=λ_ _ _ _ _ _ _ _ _ _ _ _ _ _ _ _ _ _ _ r h=>ie h (λc0 h=>be h λ_ eP h=>let zA:SE:=[aD c0,(1,R3.idx eP)];ie h (λc1 h=>bu h zA [bl c1]) λc1 h=>ie h (λc2 h=>bu h zA [bl c1,bS c2]) λc2 h=>be h λ_ py h=>be h λ_ Kc h=>be h λ_ MM h=>let zB:SE:=dv zA [bl c1,bS c2,(5,fk.idx py),(6,cy.idx Kc),(3,fk.idx MM)];ie h (λc3 h=>bu h zB [aQ c3]) λc3 h=>cC (aK h) zB [aQ c3]) λc0 h=>ra (aU h) [aD c0]
def I1 (aB:Wf8):Nat->bQ->Int->Int->Int->bD->Int->aP->Int->bD->Int->ai->ai->Int->aP->Int->Int->ae->ai->bq->A Bool
 |0=>dw.z
 |n+1=>Wg aB (I1 aB n) n
def axV {aB} (aU:KK (zW (aI 971)) Yc aB):∀n:Nat,KK (zW (aI 23755)) Yd (I1 aB n)
 |0=>KC.h
 |n+1=>aOB aU (axV aU n) n
def Wf (bh:Wf9) (n:Nat) (t16:bQ) (t17 t18 t27:Int) (t29:bD) (t30:Int) (t35:aP) (t36:Int) (t38:bD) (t40:Int) (t41 t42:ai) (t43:Int) (b2:ae) (b5:ai) (b7:bq):A Bool:=
 bh t16 t17 (aV (t18+1)) b2 b5
def aOA {bh} (cL:KK (zW [0,1,0,1,1]) OS bh) (n:Nat):KK (zW (aI 971)) Yc (Wf bh n):=λ_ _ _ _ _ _ _ _ _ _ _ _ _ _ _ _ r h=>ra (cL h) []
def We (br:A Bool) (back:Wf9) (n:Nat) (t16:bQ) (t17 t18:Int) (b2:ae) (b5:ai):A Bool:=
 if U (t18<t17) then
 (idx t16 t18).bind λx2=>if U (x2.av<0) then
 V B
 else
 if !U (x2.av<(b2.ah.length:Int)) then
 V B
 else
 (idx b2.ah x2.av).bind λvk=>if (x2.ag.length:Int) !=vk.aH then
 V B
 else
 I1 (Wf back n) n t16 t17 t18 x2.av b2.ah (b2.ah.length:Int) x2.ag (x2.ag.length:Int) b2.ah x2.av vk vk vk.aH x2.ag (x2.ag.length:Int) 0 b2 b5 x2
 else
 br
def aOz {br} (cO:KK (zW [1,1,1]) Yb br) {back} (aK:KK (zW [0,1,0,1,1]) OS back) (n:Nat):KK (zW [0,1,0,1,1]) OS (We br back n):=λ_ _ _ _ _ r h=>ie h (λc0 h=>be h λ_ dg h=>let zA:SE:=[aD c0,(0,fD.idx dg)];ie h (λc1 h=>bu h zA [bS c1]) λc1 h=>ie h (λc2 h=>bu h zA [bS c1,dm c2]) λc2 h=>be h λ_ tY h=>let zB:SE:=dv zA [bS c1,dm c2,(9,cy.idx tY)];ie h (λc3 h=>bu h zB [aQ c3]) λc3 h=>cC (axV (aOA aK n) n h) zB [aQ c3]) λc0 h=>ra (cO h) [aD c0]
def Fl (br:A Bool):Nat->bQ->Int->Int->ae->ai->A Bool
 |0=>dw.z
 |n+1=>We br (Fl br n) n
def axU {br} (cO:KK (zW [1,1,1]) Yb br):∀n:Nat,KK (zW [0,1,0,1,1]) OS (Fl br n)
 |0=>KC.h
 |n+1=>aOz cO (axU cO n) n
def N4 (n:Nat):A Bool:=
 V M
def aOy (n:Nat):KK (zW [1,1,1]) Yb (N4 n):=λr h=>rr h []
def akO (n:Nat) (s0:ae) (i1:Int):A Bool:=
 (idx s0.ah i1).bind λx6=>Fl (N4 n) n x6.ar (x6.ar.length:Int) 0 s0 x6
def aOx (n:Nat):KK (zW []) OT (akO n):=λ_ _ r h=>be h λ_ jV h=>ra (axU (aOy n) n h) [(5,cy.idx jV)]
def atr:=akO
def aSe (n:Nat):KK (Cx E0 139 cY bG) OT (atr n):=λ_ _ _ h=>ca (X:=x139) (aOx n h)
def x94:=fx E0 Tryz.f94 []
def qh:=Ax x94 dX bG
def HK (t16:bD) (t17 t18:Int) (b1:ae):LS:=⟨[aY 1,(16,.slice 44 5 t16.length (dG t16)),(17,iI t17),(18,iI t18)],[(1,ij (cG b1))]⟩
def aev (t49 t50:Int) (b1:ae):LS:=⟨[aY 1,(49,bM t49),(50,bM t50)],[(1,ij (cG b1))]⟩
def aeu (t60 t61:Int) (b1:ae):LS:=⟨[aY 1,(60,bM t60),(61,bM t61)],[(1,ij (cG b1))]⟩
def aet (i7 t71 t72:Int) (t80:bw) (t81 t82:Int) (b1:ae):LS:=⟨[aY 1,(7,iI i7),(71,iI t71),(72,iI t72),(80,.slice 107 13 t80.length (dV t80)),(81,iI t81),(82,iI t82)],[(1,ij (cG b1))]⟩
def D6 (t71 t72:Int) (b1:ae):LS:=⟨[aY 1,(71,bM t71),(72,bM t72)],[(1,ij (cG b1))]⟩
def aes:LS:=⟨[],[]⟩
def uu (b1:ae):LS:=⟨[aY 1],[(1,ij (cG b1))]⟩
def uU (s0:ae):LS:=⟨[(0,.agg (cG s0))],[]⟩
def acz (k_9:Ny) (back:ZH) (n:Nat) (t16:bD) (t17 t18:Int) (b1:ae):A Int:=
 if U (t18<t17) then
 (idx t16 t18).bind λx2=>if U (8<(x2.ag.length:Int)) then
 V 2
 else
 if U (4<(x2.ar.length:Int)) then
 V 2
 else
 if U (4<(x2.aL.length:Int)) then
 V 2
 else
 back t16 t17 (aV (t18+1)) b1
 else
 k_9 b1
def aSX {k_9} (arf:KK (qh [1,1,1]) uu k_9) {back} (aK:KK (qh [0,1,0,1,1]) HK back) (n:Nat):KK (qh [0,1,0,1,1]) HK (acz k_9 back n):=λ_ _ _ _ r h=>ie h (λc0 h=>be h λ_ dg h=>let zA:SE:=[aD c0,(0,cy.idx dg)];ie h (λc1 h=>bu h zA [dm c1]) λc1 h=>ie h (λc2 h=>bu h zA [dm c1,bl c2]) λc2 h=>ie h (λc3 h=>bu h zA [dm c1,bl c2,bS c3]) λc3 h=>cC (aK h) zA [dm c1,bl c2,bS c3]) λc0 h=>ra (arf h) [aD c0]
def PR (k_9:Ny):Nat->bD->Int->Int->ae->A Int
 |0=>dw.z
 |n+1=>acz k_9 (PR k_9 n) n
def aEO {k_9} (arf:KK (qh [1,1,1]) uu k_9):∀n:Nat,KK (qh [0,1,0,1,1]) HK (PR k_9 n)
 |0=>KC.h
 |n+1=>aSX arf (aEO arf n) n
def acy (yD:Ny) (back:ZG) (n:Nat) (t49 t50:Int) (b1:ae):A Int:=
 if U (t50<t49) then
 (ats n b1 t50).bind λx6=>if !x6 then
 V 70
 else
 back t49 (aV (t50+1)) b1
 else
 yD b1
def aSW {yD} (MR:KK (qh [1,1,1,1,1]) uu yD) {back} (aK:KK (qh (aI 175)) aev back) (n:Nat):KK (qh (aI 175)) aev (acy yD back n):=λ_ _ _ r h=>ie h (λc0 h=>be h λ_ jV h=>let zA:SE:=[aD c0,ku (aSf n jV)];ie h (λc1 h=>bu h zA [aD c1]) λc1 h=>cC (aK h) zA [aD c1]) λc0 h=>ra (MR h) [aD c0]
def PQ (yD:Ny):Nat->Int->Int->ae->A Int
 |0=>dw.z
 |n+1=>acy yD (PQ yD n) n
def aEN {yD} (MR:KK (qh [1,1,1,1,1]) uu yD):∀n:Nat,KK (qh (aI 175)) aev (PQ yD n)
 |0=>KC.h
 |n+1=>aSW MR (aEN MR n) n
def acx (l6:Ny) (back:ZG) (n:Nat) (t60 t61:Int) (b1:ae):A Int:=
 if U (t61<t60) then
 (atr n b1 t61).bind λx6=>if !x6 then
 V 70
 else
 back t60 (aV (t61+1)) b1
 else
 l6 b1
def aSV {l6} (ua:KK (qh (aI 127)) uu l6) {back} (aK:KK (qh (aI 351)) aeu back) (n:Nat):KK (qh (aI 351)) aeu (acx l6 back n):=λ_ _ _ r h=>ie h (λc0 h=>be h λ_ jV h=>let zA:SE:=[aD c0,ku (aSe n jV)];ie h (λc1 h=>bu h zA [aD c1]) λc1 h=>cC (aK h) zA [aD c1]) λc0 h=>ra (ua h) [aD c0]
def PO (l6:Ny):Nat->Int->Int->ae->A Int
 |0=>dw.z
 |n+1=>acx l6 (PO l6 n) n
def aEM {l6} (ua:KK (qh (aI 127)) uu l6):∀n:Nat,KK (qh (aI 351)) aeu (PO l6 n)
 |0=>KC.h
 |n+1=>aSV ua (aEM ua n) n
def acw (cV:ZG) (back:Int->Int->Int->bw->Int->Int->ae->A Int) (n:Nat) (i7 t71 t72:Int) (t80:bw) (t81 t82:Int) (b1:ae):A Int:=
 if U (t82<t81) then
 (idx t80 t82).bind λx2=>(F50 n b1 i7).bind λx9=>(ajx n x9 [] x2).bind λj8=>if j8 !=0 then
 V j8
 else
 back i7 t71 t72 t80 t81 (aV (t82+1)) b1
 else
 cV t71 t72 b1
def aSU {cV} (eX:KK (qh (aI 15551)) D6 cV) {back} (aK:KK (qh (aI 183487)) aet back) (n:Nat):KK (qh (aI 183487)) aet (acw cV back n):=λ_ _ _ _ _ _ _ r h=>ie h (λc0 h=>be h λ_ dg h=>be h λx9 iq h=>be h λ_ jc h=>let zA:SE:=[aD c0,(0,fa.idx dg),(3,.ord [0,1,3,2,4,5]),(3,uC (cd (e:=3) (z:=M) (Q:=dM x9) (arw n iq) (R3.len x9))),jM (aGw n jc)];ie h (λc1 h=>bu h zA [aQ c1]) λc1 h=>cC (aK h) zA [aQ c1]) λc0 h=>ra (eX h) [aD c0]
def PN (cV:ZG):Nat->Int->Int->Int->bw->Int->Int->ae->A Int
 |0=>dw.z
 |n+1=>acw cV (PN cV n) n
def aEL {cV} (eX:KK (qh (aI 15551)) D6 cV):∀n:Nat,KK (qh (aI 183487)) aet (PN cV n)
 |0=>KC.h
 |n+1=>aSU eX (aEL eX n) n
def acv (eA:ZG) (n:Nat) (t71 t72:Int) (b1:ae):A Int:=
 eA t71 (aV (t72+1)) b1
def aST {eA} (gV:KK (qh (aI 703)) D6 eA) (n:Nat):KK (qh (aI 15551)) D6 (acv eA n):=λ_ _ _ r h=>ra (gV h) []
def acu (ju:A Int) (back:ZG) (n:Nat) (t71 t72:Int) (b1:ae):A Int:=
 if U (t72<t71) then
 (idx b1.ah t72).bind λx7=>PN (acv back n) n t72 t71 t72 x7.aL (x7.aL.length:Int) 0 b1
 else
 ju
def aSS {ju} (oS:KK (qh (aI 255)) aes ju) {back} (aK:KK (qh (aI 703)) D6 back) (n:Nat):KK (qh (aI 703)) D6 (acu ju back n):=λ_ _ _ r h=>ie h (λc0 h=>be h λ_ iQ h=>ra (aEL (aST aK n) n h) [aD c0,(5,cy.idx iQ)]) λc0 h=>ra (oS h) [aD c0]
def KO (ju:A Int):Nat->Int->Int->ae->A Int
 |0=>dw.z
 |n+1=>acu ju (KO ju n) n
def aEK {ju} (oS:KK (qh (aI 255)) aes ju):∀n:Nat,KK (qh (aI 703)) D6 (KO ju n)
 |0=>KC.h
 |n+1=>aSS oS (aEK oS n) n
def UM (n:Nat):A Int:=
 V 0
def aSR (n:Nat):KK (qh (aI 255)) aes (UM n):=λr h=>rr h []
def acs (n:Nat) (b1:ae):A Int:=
 KO (UM n) n (b1.ah.length:Int) 0 b1
def aSQ (n:Nat):KK (qh (aI 127)) uu (acs n):=λ_ r h=>ra (aEK (aSR n) n h) []
def acr (n:Nat) (b1:ae):A Int:=
 PO (acs n) n (b1.ah.length:Int) 0 b1
def aSP (n:Nat):KK (qh [1,1,1,1,1]) uu (acr n):=λ_ r h=>ra (aEM (aSQ n) n h) []
def acq (n:Nat) (b1:ae):A Int:=
 if U (b1.aA<0) then
 V 70
 else
 if U (1000<b1.aA) then
 V 70
 else
 PQ (acr n) n (b1.ah.length:Int) 0 b1
def aSO (n:Nat):KK (qh [1,1,1]) uu (acq n):=λ_ r h=>ie h (λc0 h=>rr h [aQ c0]) λc0 h=>ie h (λc1 h=>rr h [aQ c0,aX c1]) λc1 h=>ra (aEN (aSP n) n h) [aQ c0,aX c1]
def ajI (n:Nat) (s0:ae):A Int:=
 if U (8<(s0.ah.length:Int)) then
 V 2
 else
 PR (acq n) n s0.ah (s0.ah.length:Int) 0 s0
def aLN (n:Nat):KK (qh []) uU (ajI n):=λ_ r h=>ie h (λc0 h=>rr h [bS c0]) λc0 h=>ra (aEO (aSO n) n h) [bS c0]
def F94:=ajI
def aCv (n:Nat):KK (Cx E0 94 dX bG) uU (F94 n):=λ_ _ h=>ca (X:=x94) (aLN n h)
def LV:=fx E0 Tryz.f110 []
def A110:=Ax LV dX bG
def aIC (i0:Int) (t42:Bool):LS:=⟨[(0,bM i0),(42,.bool t42)],[]⟩
def amI (i0 ed iv:Int):LS:=⟨[(0,bM i0),(1,bM ed),(2,bM iv)],[]⟩
def wi (n:Nat) (i0:Int) (t42:Bool):A Int:=
 if t42 then
 V (aV (i0+1))
 else
 V i0
def zK (n:Nat):KK (A110 (aI 8185)) aIC (wi n):=λ_ _ r h=>ie h (λc0 bE=>by subst c0;exact (rr bE [])) λc0 bE=>by subst c0;exact (rr bE [])
def alc (n:Nat) (i0 ed iv:Int):A Int:=
 if U (iv<0) then
 if U (ed<i0) then
 V (aV (i0-1))
 else
 V i0
 else
 if i0==ed then
 V iv
 else
 if U (ed<iv) then
 if U (ed<i0) then
 if !U (iv<i0) then
 V (aV (i0-1))
 else
 if U (iv<ed) then
 if !U (i0<iv) then
 wi n i0 (U (i0<ed))
 else
 wi n i0 B
 else
 wi n i0 B
 else
 if U (iv<ed) then
 if !U (i0<iv) then
 wi n i0 (U (i0<ed))
 else
 wi n i0 B
 else
 wi n i0 B
 else
 if U (iv<ed) then
 if !U (i0<iv) then
 wi n i0 (U (i0<ed))
 else
 wi n i0 B
 else
 wi n i0 B
def aPz (n:Nat):KK (A110 []) amI (alc n):=λ_ _ _ r h=>ie h (λc0 h=>ie h (λc1 h=>rr h [aQ c0,aX c1]) λc1 h=>rr h [aQ c0,aX c1,aX c0]) λc0 h=>let zA:SE:=[aQ c0,bl c0];ie h (λc1 h=>bu h zA [aX c1]) λc1 h=>let zB:SE:=dv zA [aX c1];ie h (λc2 h=>let zC:SE:=dv zB [aX c2];ie h (λc3 h=>let zD:SE:=dv zC [aX c3];ie h (λc4 h=>bu h zD [bl c4]) λc4 h=>ie h (λc5 h=>ie h (λc6 h=>cC (zK n h) zD [bl c4,bl c5,aX c6]) λc6 h=>cC (zK n h) zD [bl c4,bl c5,aX c6]) λc5 h=>cC (zK n h) zD [bl c4,bl c5]) λc3 h=>ie h (λc4 h=>ie h (λc5 h=>cC (zK n h) zC [aX c3,dm c4,aX c5]) λc5 h=>cC (zK n h) zC [aX c3,dm c4,aX c5]) λc4 h=>cC (zK n h) zC [aX c3,dm c4]) λc2 h=>ie h (λc3 h=>ie h (λc4 h=>cC (zK n h) zB [aX c2,il c3,aX c4]) λc4 h=>cC (zK n h) zB [aX c2,il c3,aX c4]) λc3 h=>cC (zK n h) zB [aX c2,il c3]
def K5:=alc
def Ua (n:Nat):KK (Cx E0 110 dX bG) amI (K5 n):=λ_ _ _ _ h=>ca (X:=LV) (aPz n h)
def x140:=fx E0 Tryz.f140 []
def A140:=Ax x140 cY bG
def aIy (b3:aG):LS:=⟨[aY 3],[(3,vd (nU b3))]⟩
def OQ (m0:aG):LS:=⟨[(0,.agg (nU m0))],[]⟩
def se (n:Nat) (b3:aG):A Bool:=
 if b3.av==0 then
 if b3.ba==0 then
 if b3.kM==0 then
 if U (b3.aM=vp) then
 if b3.aE==0 then
 if ((b3.bk.aE==0)&&((b3.bk.dj==0)&&((U (b3.bk.cM=vp))&&M))) then
 if (b3.cA.length:Int)==0 then
 if U (b3.bt.aM=vp) then
 if (b3.bt.ag.length:Int)==0 then
 if b3.bt.aH==0 then
 if (b3.bt.ar.length:Int)==0 then
 V ((b3.bt.aL.length:Int)==0)
 else
 V B
 else
 V B
 else
 V B
 else
 V B
 else
 V B
 else
 V B
 else
 V B
 else
 V B
 else
 V B
 else
 V B
 else
 V B
def Ce (n:Nat):KK (A140 [1,1,1]) aIy (se n):=λ_ r h=>ie h (λc0 h=>let zA:SE:=[dm c0];ie h (λc1 h=>let zB:SE:=dv zA [aX c1];ie h (λc2 h=>let zC:SE:=dv zB [bl c2];ie h (λc3 h=>let zD:SE:=dv zC [bl c3];ie h (λc4 h=>let zE:SE:=dv zD [bl c4];ie h (λc5 h=>let zF:SE:=dv zE [bS c5];ie h (λc6 h=>let zG:SE:=dv zF [bS c6];ie h (λc7 h=>let zH:SE:=dv zG [bl c7];ie h (λc8 h=>ie h (λc9 h=>ie h (λc10 h=>bu h zH [bS c8,bl c9,bS c10]) λc10 h=>bu h zH [bS c8,bl c9,bS c10]) λc9 h=>bu h zH [bS c8,bl c9]) λc8 h=>bu h zH [bS c8]) λc7 h=>bu h zG [bl c7]) λc6 h=>bu h zF [bS c6]) λc5 h=>bu h zE [bS c5]) λc4 h=>bu h zD [bl c4]) λc3 h=>bu h zC [bl c3]) λc2 h=>bu h zB [bl c2]) λc1 h=>bu h zA [aX c1]) λc0 h=>rr h [dm c0]
def Wd (n:Nat) (m0:aG):A Bool:=
 if m0.bg==1 then
 se n (aG.mk m0.bg 0 m0.ba m0.kM vp 0 oJ m0.cA m0.bt)
 else
 if m0.bg==2 then
 se n (aG.mk m0.bg 0 0 m0.kM m0.aM m0.aE oJ m0.cA m0.bt)
 else
 if m0.bg==3 then
 se n (aG.mk m0.bg 0 0 0 m0.aM m0.aE m0.bk m0.cA m0.bt)
 else
 if m0.bg==4 then
 se n (aG.mk m0.bg 0 0 m0.kM vp m0.aE m0.bk m0.cA m0.bt)
 else
 if m0.bg==5 then
 se n (aG.mk m0.bg 0 m0.ba m0.kM vp m0.aE m0.bk m0.cA m0.bt)
 else
 if m0.bg==6 then
 se n (aG.mk m0.bg m0.av m0.ba m0.kM m0.aM m0.aE m0.bk m0.cA (ai.mk vp [] 0 [] []))
 else
 if m0.bg==7 then
 se n (aG.mk m0.bg 0 m0.ba m0.kM m0.aM m0.aE m0.bk m0.cA m0.bt)
 else
 if m0.bg==8 then
 se n (aG.mk m0.bg 0 0 m0.kM m0.aM m0.aE m0.bk [] m0.bt)
 else
 V B
def aOw (n:Nat):KK (A140 []) OQ (Wd n):=λ_ r h=>ie h (λc0 h=>ra (Ce n h) [il c0]) λc0 h=>ie h (λc1 h=>ra (Ce n h) [il c0,aW c1]) λc1 h=>let zA:SE:=[il c0,aW c1];ie h (λc2 h=>cC (Ce n h) zA [aW c2]) λc2 h=>let zB:SE:=dv zA [aW c2];ie h (λc3 h=>cC (Ce n h) zB [aW c3]) λc3 h=>let zC:SE:=dv zB [aW c3];ie h (λc4 h=>cC (Ce n h) zC [aW c4]) λc4 h=>let zD:SE:=dv zC [aW c4];ie h (λc5 h=>cC (Ce n h) zD [aW c5]) λc5 h=>ie h (λc6 h=>cC (Ce n h) zD [aW c5,aW c6]) λc6 h=>ie h (λc7 h=>cC (Ce n h) zD [aW c5,aW c6,aW c7]) λc7 h=>bu h zD [aW c5,aW c6,aW c7]
def ZX:=Wd
def aGv (n:Nat):KK (Cx E0 140 cY bG) OQ (ZX n):=λ_ _ h=>ca (X:=x140) (aOw n h)
def Td (r:ai):AV:=.agg (eT r (.ms uA 2 0 r.ag.length) (.ms 201003 2 0 r.ar.length) (.ms 201004 13 0 r.aL.length))
def O7 (r:ai):List (Nat×Bx):= (q22_ uA r 201003 201004)
def x141:=fx E0 Tryz.f141 []
def Ss:=Ax x141 Td O7
def Ya (t12:bQ) (t13 t14:Int) (b1 b2:ai) (b6:di) (b3:bQ):LS:=⟨[aY 1,aY 2,(3,.ms 500003 2 0 b3.length),(12,.slice 121 2 t12.length (eD t12)),(13,iI t13),(14,iI t14)],[(1,ia (Z7 b1 (.ms 6 2 0 b6.length))),(2,ia (eT b2 .cr .cr .cr)),(6,xO b6),(500003,CP b3)]⟩
def X9 (b1 b2:ai) (b6:di) (b3:bQ):LS:=⟨[aY 1,aY 2,(3,.ms 500003 2 0 b3.length)],[(1,ia (Z7 b1 (.ms 6 2 0 b6.length))),(2,ia (eT b2 .cr .cr .cr)),(6,xO b6),(500003,CP b3)]⟩
def OP (t0:ai):LS:=⟨[(0,.agg (jN t0))],[]⟩
def Wc (aB:Wf13) (back:bQ->Int->Int->ai->ai->di->bQ->A ai) (n:Nat) (t12:bQ) (t13 t14:Int) (b1 b2:ai) (b6:di) (b3:bQ):A ai:=
 if U (t14<t13) then
 (idx t12 t14).bind λx2=>(app [] x2.ag).bind λdu=>(app b3 [(bq.mk du x2.av)]).bind λiZ=>(setAt iZ b3.length (bq.mk du x2.av)).bind λz20=>back t12 t13 (aV (t14+1)) (ai.mk b1.aM b6 b1.aH b1.ar b1.aL) (ai.mk b2.aM [] b2.aH [] []) b6 z20
 else
 aB (ai.mk b1.aM b6 b1.aH b1.ar b1.aL) (ai.mk b2.aM [] b2.aH [] []) b6 b3
def aOv {aB} (aU:KK (Ss [1,1,1,1]) X9 aB) {back} (aK:KK (Ss (aI 87)) Ya back) (n:Nat):KK (Ss (aI 87)) Ya (Wc aB back n):=λ_ _ _ _ _ _ b3 r h=>ie h (λc0 h=>be h λx2 dg h=>be h λdu fB h=>be h λ_ iW h=>be h λ_ J8 h=>ra (aK h) [aD c0,(0,fD.idx dg),(7,R3.app fB),(4,fD.L5 iW),(1,.beq 500003 (bH (λq_=>Bx.tree 121 2 YZ q_ [(b3.length*2+0,.ms 19 1 0 du.length)]) (fD.apS (r:= (qu x2.av)) iW))),(0,fD.iN R3 (r:= (qu x2.av)) 500003 19 0 B 3 1 du J8),(2,.seq 3 (bH (AV.ms 500003 2 0) (((fD.apL iW).trans (eG J8)))))]) λc0 h=>ra (aU h) [aD c0]
def I0 (aB:Wf13):Nat->bQ->Int->Int->ai->ai->di->bQ->A ai
 |0=>dw.z
 |n+1=>Wc aB (I0 aB n) n
def axT {aB} (aU:KK (Ss [1,1,1,1]) X9 aB):∀n:Nat,KK (Ss (aI 87)) Ya (I0 aB n)
 |0=>KC.h
 |n+1=>aOv aU (axT aU n) n
def Wb (n:Nat) (b1 b2:ai) (b6:di) (b3:bQ):A ai:=
 (app [] b1.aL).bind λx7=>V (ai.mk b1.aM b6 b1.aH b3 x7)
def aOu (n:Nat):KK (Ss [1,1,1,1]) X9 (Wb n):=λ_ _ _ _ r h=>be h λ_ iQ h=>rr h [(6,fa.app iQ),(4,.ja 6 uA),(0,.ja 500003 201003),(0,.ja 31 201004)]
def akN (n:Nat) (t0:ai):A ai:=
 (app [] t0.ag).bind λx6=>I0 (Wb n) n t0.ar (t0.ar.length:Int) 0 (ai.mk t0.aM x6 t0.aH t0.ar t0.aL) (ai.mk vp [] 0 [] []) x6 []
def aOt (n:Nat):KK (Ss []) OP (akN n):=λ_ r h=>be h λ_ jV h=>ra (axT (aOu n) n h) [(5,fk.app jV),(7,.born [3] [] 500003 M 121 2)]
def ajw:=akN
def aGu (n:Nat):KK (Cx E0 141 Td O7) OP (ajw n):=λ_ _ h=>ca (X:=x141) (aOt n h)
end Go.Proofs.YtbnkhmoelnfjoaaGreat
end
