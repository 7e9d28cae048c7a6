/- Part. -/
import Derived.Test.YtbnkhmoelnfjoaaGreatP1
import Derived.Test.YtbnkhmoelnfjoaaGreatP3
import Derived.Test.YtbnkhmoelnfjoaaGreatProg
import Derived.Test.YtbnkhmoelnfjoaaGreatP2
import Derived.KernelRfl
import Derived.Shelf.Sort.Plain
import Derived.Shelf.Slices.CompactI
import Derived.Shelf.Slices.In.SortNone
import Derived.Ground.NamesProg
import Derived.Ground.Names2Prog
import Derived.WalkKit
import Derived.Deep.LoopGhost
import Derived.Deep.RegionLaw
import Derived.Lib.SliceRun
import Derived.Lib.Overlaps
import Derived.Lib.AppendZeros
import Derived.Lib.AppendZerosOnto
import Derived.Laws.Externs
import Derived.Laws.NewBlocks
import Derived.Deep.AppendSrc
set_option linter.all false
set_option maxRecDepth 1000000
open Option renaming some->V,none->A,bind->M
open List renaming length->O,replicate->Va,range->DO
open Bool renaming false->U,true->I
open Decidable renaming decide->A'
open ByteArray renaming mk->NB,empty->I'
open Go renaming Value->O',TypeId->Ey,callsIn_wide->Qw,Operand->S'
open Nat renaming beq->Cz,ble->D',mul->N',add->E',succ->S6
open Go.Builtin renaming zeroCells->MO,copy_->ML,append_->MV,firstCells->Nz
open Go.Addr renaming add_lit->Nq
open Go.World renaming frozen?->R0,frozen?_setCells->ad8,cell?_setCells_out->ae1
open Go.Sem renaming run_bind->P',run_pure->X'
open Go.ChangeMaps renaming setBlock->Si
open Go.Result renaming andThen_ok->V'
open Go.CallsIn renaming mono->Nv
open Go.Lib renaming compareBytes->Hn
noncomputable section
section
namespace Go.bM
open Go.RowKit
variable {E:Env} {nt:Nat} {g g1 g2:Gh} {m m1 m2 m':MS} {a a1 a2:Act} {w w1 w2:World} {e:Ex} {P P1 P2:Ex->MS->Prop} {c x y:Code}
variable {i6:fD} {o:Oper} {it:S'} {iid i:Nat} {ol:bQ} {es:iU} {v:SV}
structure MS.Le (m1 m2:MS):Prop where
 T:∀x v,m1.T x=V v->m2.T x=V v
 H:∀x o,m1.H x=V o->m2.H x=V o
 nx:m1.nx=m2.nx
def Now.aBU (h:Now E nt g m a w) (k:m1.Le m):Now E nt g m1 a w:=⟨h.env,⟨h.fr.sz,λt x hx=>h.fr.tm t x (k.T t x hx)⟩,h.hr.sub k.H,λx hx=>h.fresh x (by rw[<-k.nx];exact hx)⟩
def yK.aBU (h:yK g m w a g1 m2 w1 a1) (k:m1.Le m2):yK g m w a g1 m1 w1 a1:=⟨{h.fr with own:=λb hb hm=>h.fr.own b hb (let ⟨i,o,c,h1,h2⟩:=hm;⟨i,o,c,k.H i o h1,h2⟩)},h.df,h.ro,by rw[k.nx];exact h.nx⟩
def mT (E:Env) (nt:Nat) (c:Code) (m:MS) (P:Ex->MS->Prop):Prop:=codeOk c=I->∀(ro:cC) (k:Nat) (g:Gh) (a:Act) (w:World) (Q:Exit->Act->World->Prop),Now E nt g m a w->
 (∀g' a' w' x e m',P e m'->ExR g' e x->Now E nt g' m' a' w'->yK g m w a g' m' w' a'->Q x a' w')->wpX (xz ro) k E.P c Q a w
namespace mT
def of (h:gE E nt c m e m1) (k:m2.Le m1) (hp:P e m2):mT E nt c m P:=λok ro n g a w Q hn hq=>h ok ro n g a w Q hn λg' a' w' x hx n' t'=>hq g' a' w' x e m2 hp hx (n'.aBU k) (t'.aBU k)
def toT (h:mT E nt c m λx y=>x=e/\y=m1):gE E nt c m e m1:=λok ro n g a w Q hn hq=>h ok ro n g a w Q hn λg' a' w' x e' m' hp hx n' t'=>by
 obtain ⟨rfl,rfl⟩:=hp;exact hq g' a' w' x hx n' t'
def seq (h1:mT E nt x m P1) (h2:∀e m1,P1 e m1->(e= .normal/\mT E nt y m1 P)\/(uG e=U/\P e m1)):mT E nt (.seq x y) m P:=λok ro k g a w Q n h=>
 wpIn_seq (tJ (h1 (okL ok) ro k g a w _ n λg1 a1 w1 x e m1 hp hx n1 t1=>by
  rcases h2 e m1 hp with ⟨rfl,h2⟩|⟨he,h2⟩
  .cases hx;exact tJ (h2 (okR ok) ro k g1 a1 w1 Q n1 λg2 a2 w2 y e m2 hp hy n2 t2=>h g2 a2 w2 y e m2 hp hy n2 (t1.trans t2))
  .have:=h g1 a1 w1 x e m1 h2 hx n1 t1;cases hx<;>first|exact this|cases he))
def loop (h1:mT E nt c m P1) (h2:∀e m1,P1 e m1->(e= .normal/\mT E nt (.loop c) m1 P)\/(uG e=U/\P e m1)):mT E nt (.loop c) m P:=λok ro k g a w Q n h=>
 akZ (tJ (h1 ok ro k g a w _ n λg1 a1 w1 x e m1 hp hx n1 t1=>by
  rcases h2 e m1 hp with ⟨rfl,h2⟩|⟨he,h2⟩
  .cases hx;exact h2 ok ro k g1 a1 w1 Q n1 λg2 a2 w2 y e m2 hp hy n2 t2=>h g2 a2 w2 y e m2 hp hy n2 (t1.trans t2)
  .have:=h g1 a1 w1 x e m1 h2 hx n1 t1;cases hx<;>first|exact this|cases he))
def block {id:Nat} (h1:mT E nt c m λe m1=>P (leave id e) m1):mT E nt (.block id c) m P:=λok ro k g a w Q n h=>
 wpIn_block (tJ (h1 ok ro k g a w _ n λg1 a1 w1 x e m1 hp hx n1 t1=>by
  have key:∀y,ExR g1 (leave id e) y->Q y a1 w1:=λy hy=>h g1 a1 w1 y _ m1 hp hy n1 t1
  cases hx with
  |normal=>exact key _ .normal
  |ret=>exact key _ .ret
  |AM hv=>exact key _ (.AM hv)
  |exit i=>
   rw[aay] at key;show (ite (i=id) (Q .normal a1 w1) (Q (.exit i) a1 w1))
   split
   .rename_i hi;rw[ax hi] at key;exact key _ .normal
   .rename_i hi;rw[au hi] at key;exact key _ (.exit i)))
end mT
def mT.next {id:Nat} {ji since last c0:Nat} (hi:i6[0]? =V o) (gP:o.op= .next it U) (hw:kI i6.toList o m.T=V I) (hd:ot nt o.dst=I) (hx:dy m.T it=V (.ptr iid 0)) (jA:m.H iid=V (.mapIter (V ji) since ol last)) (aDw:m.H ji=V (.map es c0)) (hit:iterM since ol last c0 es=I) (hend:rH ol es= []->∃m1,mj E nt i6 1 ⟨eE m.T o.dst (.dh [.bool U]),m.H,m.nx⟩ m1/\P .normal m1) (Lr:∀e∈rH ol es,∃m1,mj E nt i6 1 ⟨eE m.T o.dst (.dh [.bool I,e.1,e.2.1]),jG m.H (iid,V (.mapIter (V ji) since (ol++ [e.2.2]) c0)),m.nx⟩ m1/\P .normal m1):mT E nt (.region id i6 U) m P:=λok ro k g a w Q n h=>by
 have cT:0<i6.size:=by
  by_cases hc:0<i6.size
  .exact hc
  .rw[ID W] at hi;cases hi
 refine wpIn_region ?_;show wpOpsIn (xz ro) k E.P i6 Q (DO i6.size) a w;rw[T3,show i6.size=(i6.size-1)+1 by omega,EU,wpOpsIn_cons]
 have hu:=uf n.fr hx;generalize hue:a.eval it=u at hu;cases hu with
 | @ptr _ _ b c hρ=>
 let ⟨hold,AP⟩:=asv hit;obtain ⟨hbs,rfl,bm,sa,h1,h2,h3⟩:=n.hr.at jA hρ;obtain ⟨bm',y,rfl,h4⟩:=h3;let ⟨_,ms,m1,m2⟩:=n.hr.at aDw h4;have q6:∀z∈ms.toList,z.born<since:=λz hz=>by
  let ⟨e,he,h5⟩:=m2.mem z hz;rw[h5.2.2];exact hold e he
 have AT:=anv h2 m2;refine aFU hi (abx n.fr hw) ?_;rw[Oper.semAt_eq _ _ _ (λc' h=>by rw[gP] at h;cases h)]
 have rest:∀{m1:MS} {g1:Gh} {a1:Act} {w1:World} {m':MS},mj E nt i6 1 m1 m'->P .normal m'->Now E nt g1 m1 a1 w1->yK g m w a g1 m1 w1 a1->wpOpsIn (xz ro) k E.P i6 Q (List.range' (0+1) (i6.size-1)) a1 w1:=λhT hP hn ht=>
  hT ro k _ _ _ Q hn λg2 a2 w2 n2 t2=>h g2 a2 w2 _ _ _ hP .normal n2 (ht.trans t2)
 rcases run_next_at (P:=E.P) w o.type b bm' since last sa ms c0 h1 m1 q6 AP with ⟨h0,hn⟩|⟨e,he,w1,hw1,hn⟩
 .let ⟨m',hT,hP⟩:=hend (AT.aKk.1 (wZ (by simpa using h0)))
  have hex:(execOp a.eval o).run E.P w= .ok (.value (.tuple #[.bool U])) w:=by
   simp only[execOp,gP,hue,po,P',hn,V',X']
  rw[hex];exact rest hT hP ⟨n.env,n.fr.put hd (.dh (.cons (.bool U) .nil)),n.hr,n.fresh⟩ ⟨.refl _ _ _,put_defers _ _ _,λ_ _=>rfl,cM _⟩
 .let ⟨x0,G6,aDy⟩:=AT.mem e he;let ⟨m',hT,hP⟩:=Lr x0 G6;have hex:(execOp a.eval o).run E.P w= .ok (.value (.tuple #[.bool I,e.key,e.val])) (Si w1 b (.mapIter (V bm') since (sa.push e.born) c0)):=by
   simp only[execOp,gP,hue,po,P',hn,V',X']
  rw[hex];have Qn:w1.heap=w.heap/\w1.os=w.os/\w1.tape=w.tape/\w1.output=w.output:=by
   rcases hw1 with rfl|rfl
   .exact ⟨rfl,rfl,rfl,rfl⟩
   .exact ⟨rfl,rfl,rfl,rfl⟩
  let ⟨t1,t2⟩:=HR.write n.hr (o':=.mapIter (V ji) since (ol++ [x0.2.2]) c0) (w':=Si w1 b (.mapIter (V bm') since (sa.push e.born) c0)) jA hρ (by simp[Si,Qn.1]) (λk hk=>by simp[Si,Qn.1,Array.getElem?_setIfInBounds_ne (tu hk)])
   ⟨rfl,V bm',sa.push e.born,by simp[Si,Qn.1,hbs],by rw[Array.toList_push,h2,aDy.2.2],bm',y,rfl,h4⟩ Qn.2.1 Qn.2.2.1 Qn.2.2.2
  exact rest hT hP ⟨n.env,n.fr.put hd (.dh (.cons (.bool I) (.cons aDy.1 (.cons aDy.2.1 .nil)))),t1,n.fresh⟩ ⟨t2,put_defers _ _ _,λ_ _=>rfl,cM _⟩
def rM.entry (hi:i6[i]? =V o) (gP:o.op= .entry it) (hw:kI i6.toList o m.T=V I) (hd:ot nt o.dst=I) (hx:dy m.T it=V (.ptr iid 0)) (hv:Ot m.H iid=V v):
  mj E nt i6 (i+1) ⟨eE m.T o.dst v,m.H,m.nx⟩ m'->mj E nt i6 i m m':=λhT ro k g a w Q n h=>by
 have cT:i<i6.size:=by
  by_cases hc:i<i6.size
  .exact hc
  .rw[ID W] at hi;cases hi
 rw[show i6.size-i=(i6.size-(i+1))+1 by omega,EU,wpOpsIn_cons]
 have hu:=uf n.fr hx;generalize hue:a.eval it=u at hu;cases hu with
 | @ptr _ _ b c hρ=>
 unfold Ot at hv;split at hv;rotate_left
 .cases hv
 rename_i m0 since ol last jA;split at hv;rotate_left
 .cases hv
 rename_i es c0 aDw;let ⟨hc,Jp⟩:=bf hv;have hc:=(f9 _ _).1 hc;subst hc;let ⟨bo,h1,h2⟩:=ak Jp;obtain ⟨_,rfl,bm,sa,q1,q2,q3⟩:=n.hr.at jA hρ;obtain ⟨bm',y',rfl,q4⟩:=q3;let ⟨_,ms,m1,m2⟩:=n.hr.at aDw q4;let ⟨e,e1,e2⟩:=alm m2 h2;have aL:sa.back? =V bo:=by rw[<-Array.getLast?_toList,q2];exact aau h1
 refine aFU hi (abx n.fr hw) ?_;rw[Oper.semAt_eq _ _ _ (λc' h=>by rw[gP] at h;cases h)]
 have hf:ms.find? (·.born==bo)=V e:=by rw[<-Array.find?_toList];exact e1
 have hn:(Instr.entry (.pointer (V ⟨b,0,A⟩))).run E.P w= .ok (.tuple #[e.key,e.val]) w:=by
  simp only[Instr.entry,getObj,P',Sem.run,q1,m1,Result.andThen,aL,iw,ay,aw,hf];rfl
 have hex:(execOp a.eval o).run E.P w= .ok (.value (.tuple #[e.key,e.val])) w:=by
  simp only[execOp,gP,hue,po,P',hn,V',X']
 rw[hex];exact hT ro k g _ w Q ⟨n.env,n.fr.put hd e2,n.hr,n.fresh⟩ λg2 a2 w2 n2 t2=>h g2 a2 w2 n2 ((⟨.refl _ _ _,put_defers _ _ _,λ_ _=>rfl,cM _⟩:yK g m w a g ⟨eE m.T o.dst v,m.H,m.nx⟩ w (a.put o.dst (.tuple #[e.key,e.val]))).trans t2)
end Go.bM
end
namespace Go.Proofs.YtbnkhmoelnfjoaaGreat
open Go.bM
def tyT:Tr TI:=aFs Tryz.prog 312
def aDN:Tr Func:=aHq Tryz.prog
def arA:adW Tryz.prog tyT aDN:=aLE 312 203 (fe:=Tryz.f203) bv bv Tryz.func203 bv bv bv
end Go.Proofs.YtbnkhmoelnfjoaaGreat
namespace Go.Proofs.YtbnkhmoelnfjoaaGreat
open Go.Shelf Go.bM
def anw:Go.Shelf.Ren:=⟨fun|189=>165|125=>191|257=>190|128=>213|129=>214|294=>204|295=>205|296=>206|297=>207|298=>208|299=>209|216=>210|300=>211|301=>212|328=>222|329=>223|330=>224|331=>225|332=>226|215=>187|343=>236|n=>n,fun|28=>102|3=>3|46=>237|0=>0|51=>271|53=>273|4=>4|183=>264|182=>263|131=>218|5=>5|9=>9|218=>279|222=>191|228=>291|229=>292|n=>n,fun|n=>n⟩
def apy:Go.Proofs.Lays.n189 Tryz.prog anw:={
 mixed:=by kernel_rfl
 f125:=Tryz.func191.trans (congrArg V bv)
 f128:=Tryz.func213.trans (congrArg V bv)
 f129:=Tryz.func214.trans (congrArg V bv)
 f189:=Tryz.func165.trans (congrArg V bv)
 f215:=Tryz.func187.trans (congrArg V bv)
 f216:=Tryz.func210.trans (congrArg V bv)
 f257:=Tryz.func190.trans (congrArg V bv)
 f294:=Tryz.func204.trans (congrArg V bv)
 f295:=Tryz.func205.trans (congrArg V bv)
 f296:=Tryz.func206.trans (congrArg V bv)
 f297:=Tryz.func207.trans (congrArg V bv)
 f298:=Tryz.func208.trans (congrArg V bv)
 f299:=Tryz.func209.trans (congrArg V bv)
 f300:=Tryz.func211.trans (congrArg V bv)
 f301:=Tryz.func212.trans (congrArg V bv)
 f328:=Tryz.func222.trans (congrArg V bv)
 f329:=Tryz.func223.trans (congrArg V bv)
 f330:=Tryz.func224.trans (congrArg V bv)
 f331:=Tryz.func225.trans (congrArg V bv)
 f332:=Tryz.func226.trans (congrArg V bv)
 f343:=Tryz.func236.trans (congrArg V bv)
 t0:=Tryz.underlying0
 a0:=Tryz.isAgg0
 z0:=Tryz.sizeOf0
 v0:=Tryz.zeroValue0
 t3:=Tryz.underlying3
 a3:=Tryz.isAgg3
 z3:=Tryz.sizeOf3
 v3:=Tryz.zeroValue3
 t4:=Tryz.underlying4
 a4:=Tryz.isAgg4
 z4:=Tryz.sizeOf4
 v4:=Tryz.zeroValue4
 t5:=Tryz.underlying5
 a5:=Tryz.isAgg5
 z5:=Tryz.sizeOf5
 v5:=Tryz.zeroValue5
 t9:=Tryz.underlying9
 a9:=Tryz.isAgg9
 z9:=Tryz.sizeOf9
 v9:=Tryz.zeroValue9
 t28:=Tryz.underlying102
 a28:=Tryz.isAgg102
 z28:=Tryz.sizeOf102
 v28:=Tryz.zeroValue102
 t46:=Tryz.underlying237
 a46:=Tryz.isAgg237
 z46:=Tryz.sizeOf237
 v46:=Tryz.zeroValue237
 t51:=Tryz.underlying271
 a51:=Tryz.isAgg271
 z51:=Tryz.sizeOf271
 v51:=Tryz.zeroValue271
 t53:=Tryz.underlying273
 a53:=Tryz.isAgg273
 z53:=Tryz.sizeOf273
 v53:=Tryz.zeroValue273
 t131:=Tryz.underlying218
 a131:=Tryz.isAgg218
 z131:=Tryz.sizeOf218
 v131:=Tryz.zeroValue218
 t182:=Tryz.underlying263
 a182:=Tryz.isAgg263
 z182:=Tryz.sizeOf263
 v182:=Tryz.zeroValue263
 t183:=Tryz.underlying264
 a183:=Tryz.isAgg264
 z183:=Tryz.sizeOf264
 v183:=Tryz.zeroValue264
 t218:=Tryz.underlying279
 a218:=Tryz.isAgg279
 z218:=Tryz.sizeOf279
 v218:=Tryz.zeroValue279
 t222:=Tryz.underlying191
 a222:=Tryz.isAgg191
 z222:=Tryz.sizeOf191
 v222:=Tryz.zeroValue191
 t228:=Tryz.underlying291
 a228:=Tryz.isAgg291
 z228:=Tryz.sizeOf291
 v228:=Tryz.zeroValue291
 t229:=Tryz.underlying292
 a229:=Tryz.isAgg292
 z229:=Tryz.sizeOf292
 v229:=Tryz.zeroValue292}
def asr:Go.Shelf.Ren:=⟨fun|20=>219|n=>n,fun|22=>102|3=>3|4=>4|0=>0|n=>n,fun|n=>n⟩
def ayQ:Go.Proofs.Lays2.n20 Tryz.prog asr:={
 mixed:=by kernel_rfl
 f20:=Tryz.func219.trans (congrArg V bv)
 t0:=Tryz.underlying0
 a0:=Tryz.isAgg0
 z0:=Tryz.sizeOf0
 v0:=Tryz.zeroValue0
 t3:=Tryz.underlying3
 a3:=Tryz.isAgg3
 z3:=Tryz.sizeOf3
 v3:=Tryz.zeroValue3
 t4:=Tryz.underlying4
 a4:=Tryz.isAgg4
 z4:=Tryz.sizeOf4
 v4:=Tryz.zeroValue4
 t22:=Tryz.underlying102
 a22:=Tryz.isAgg102
 z22:=Tryz.sizeOf102
 v22:=Tryz.zeroValue102
 i3:=bv}
end Go.Proofs.YtbnkhmoelnfjoaaGreat
namespace Go.Proofs.YtbnkhmoelnfjoaaGreat
open Go.bM Go.Sort
variable {w:World} {off:Nat} {d:Array Int} {kw:Array O'} {e:Ey} {xs:List Int}
def ajW (x:Int):∀ys:List Int,(Dm x ys).Perm (x::ys)
 | []=>by simp[Dm]
 |y::ys=>by
  unfold Dm;split
  .exact .refl _
  .exact ((ajW x ys).cons y).trans (.swap _ _ _)
def pd:∀xs:List Int,(dJ xs).Perm xs
 | []=>.nil
 |x::xs=>(ajW x _).trans ((pd xs).cons x)
def abk (x:Int):∀ys:List Int,ys.Pairwise (· <= ·)->(Dm x ys).Pairwise (· <= ·)
 | [],_=>by simp[Dm]
 |y::ys,h=>by
  unfold Dm;split
  .rename_i NY;refine nk.2 ⟨λz hz=> ?_,h⟩
   rcases cU.1 hz with rfl|hz
   .exact NY
   .exact Int.le_trans NY ((nk.1 h).1 z hz)
  .rename_i NY;refine nk.2 ⟨λz hz=> ?_,abk x ys (nk.1 h).2⟩
   rcases cU.1 ((ajW x ys).mem_iff.1 hz) with rfl|hz
   .omega
   .exact (nk.1 h).1 z hz
def wi:∀xs:List Int,(dJ xs).Pairwise (· <= ·)
 | []=>.nil
 |x::xs=>abk x _ (wi xs)
def aky:∀{xs ys:List Int},xs.Pairwise (· <= ·)->ys.Pairwise (· <= ·)->xs.Perm ys->xs=ys
 | [],ys,_,_,h=>by simpa using h.symm
 |x::xs,[],_,_,h=>by simp at h
 |x::xs,y::ys,hx,hy,h=>by
  have h1:=nk.1 hx;have h2:=nk.1 hy;have e:x=y:=by
   have a:x∈y::ys:=h.mem_iff.1 am
   have b:y∈x::xs:=h.mem_iff.2 am
   rcases cU.1 a with rfl|a
   .rfl
   .rcases cU.1 b with rfl|b
    .rfl
    .have:=h2.1 x a;have:=h1.1 y b;omega
  subst e;rw[aky h1.2 h2.2 (List.Perm.cons_inv h)]
def aa1 (xs:List Int):(xs.mergeSort λx y=>A' (x<=y))=dJ xs:=by
 refine aky ?_ (wi xs) ((List.mergeSort_perm xs _).trans (pd xs).symm);have:=List.pairwise_mergeSort (le:=λx y:Int=>A' (x<=y)) (λa b c=>ap) (λa b=>ap) xs
 exact this.imp am
def tlI:Int->List Int->List Int
 |_,[]=> []
 |x,y::l=>if y=x then tlI y l else y::tlI y l
def aFt:∀(l:List Int) (x:Int),((DO (O l)).filter (λj=>Lib.keeps (x::l).toArray (j+1))).map (λj=>(x::l).toArray[j+1]!)=tlI x l
 | [],x=>rfl
 |y::l,x=>by
  have ih:=aFt l y;rw[l7,awG,mD,List.filter_map];have e1:((λj=>Lib.keeps (x::y::l).toArray (j+1)) ∘ S6)=λj=>Lib.keeps (y::l).toArray (j+1):=by
   funext j;simp[Lib.keeps]
  have e2:((λj=>(x::y::l).toArray[j+1]!) ∘ S6)=λj=>(y::l).toArray[j+1]! :=by
   funext j;simp
  have e3:Lib.keeps (x::y::l).toArray (0+1)= !A' (y=x):=by simp[Lib.keeps]
  rw[e1,e3];show _=(if y=x then tlI y l else y::tlI y l)
  by_cases h:y=x
  .rw[ax h,qW h,au (by decide),we,e2]
   exact ih
  .rw[au h,tv h,ax (by decide),j2,we,e2,ih]
   rfl
def ac5 (x:Int) (l:List Int):Lib.compact (x::l)=x::tlI x l:=by
 unfold Lib.compact Lib.compactUpTo;rw[l7,awG,mD,ax (by simp[Lib.keeps]),List.filter_map,j2,we]
 have:=aFt l x;rw[<-this];rfl
def alj:∀xs:List Int,Lib.compact xs=mO xs
 | []=>rfl
 | [x]=>by rw[ac5];rfl
 |x::y::l=>by
  have ih:=alj (y::l);rw[ac5] at ih ⊢;show x::(if y=x then tlI y l else y::tlI y l)=(if x=y then mO (y::l) else x::mO (y::l))
  rw[<-ih];by_cases h:y=x
  .subst h;rw[ax rfl,ax rfl]
  .rw[au h,au (λe=>h e.symm)]
def ayf {b n:Nat} (h:w.heap[b]? =V (Obj.cells kw e (0,0))):Wr w (putRow (Value.int .i64) (Sort.ahead w n) b off d) b e (putCells (Value.int .i64) off d kw):=by
 have cT:b<w.heap.size:=(pq.1 h).1;refine ⟨?_,?_,λk hk=> ?_,rfl,rfl,rfl⟩
 .show (w.heap.modify b (onCells (putCells (Value.int .i64) off d)))[b]? =_;rw[M9,ax rfl,h];rfl
 .show (w.heap.modify b _).size=_;rw[Array.size_modify]
 .show (w.heap.modify b _)[k]? =_;rw[M9,au (tu hk)]
def aoM {d:List Int} (hl:off+O d<=kw.size):(putCells (Value.int .i64) off d.toArray kw).size=kw.size/\(∀t,(t<off\/off+O d<=t)->(putCells (Value.int .i64) off d.toArray kw)[t]? =kw[t]?)/\∀t x,d[t]? =V x->(putCells (Value.int .i64) off d.toArray kw)[off+t]? =V (.int .i64 x):=by
 refine ⟨by simp[putCells],λt ht=> ?_,λt x hx=> ?_⟩
 .simp only[putCells,Array.getElem?_mapIdx];have hn:¬(off<=t/\t<off+d.toArray.size):=by simp;omega
  simp only[au hn];simp
 .have cT:=(bk.1 hx).1;simp only[putCells,Array.getElem?_mapIdx];rw[Cj W,M8,ax ⟨W,ap⟩]
  have:d.toArray[off+t-off]! =x:=by
   rw[show off+t-off=t by omega,getElem!_pos _ _ (by simpa using cT)]
   simpa[cT] using hx
  rw[this]
def anA (w:World) (os:Array Obj):VI w (Sort.grow w os):=by
 refine ⟨rfl,rfl,rfl,by simp[Sort.grow],λb hb=> ?_⟩
 simp[Sort.grow,Array.getElem?_append,hb]
def holds_of {b:Nat} (h:w.heap[b]? =V (.cells kw e (0,0))) (hx:∀t x,xs[t]? =V x->kw[off+t]? =V (.int .i64 x)):Holds (Value.int .i64) w b off xs.toArray:=λj hj=>by
 have hj:j<O xs:=by simpa using hj
 have:=hx j xs[j] (bJ hj);refine ⟨?_,by simp[R0,h]⟩
 rw[show w.cell? ⟨b,off+j,A⟩=kw[off+j]? by simp[World.cell?,h],this,getElem!_pos _ _ (by simpa using hj)]
 simp
def ajy (h0:0<O xs) (hx:∀t x,xs[t]? =V x->kw[off+t]? =V (.int .i64 x)):off+O xs<=kw.size:=by
 have:=hx (O xs-1) _ (bJ W)
 have:=(pq.1 this).1;omega
def axH:VL Tryz.prog 165 I:=by
 refine ⟨⟨_,Tryz.func165,bv,by rw[show Tryz.f165.name= "slices.Sort[[]int,int]" by kernel_rfl];decide⟩,λm w p c=> ?_,λm w b off c xs kw e hb h0 h6 hc hx=> ?_⟩
 .refine Nv (Qw.2 (Any.slices_Sort_int_none apy p c w)) ?_;rintro e w' ⟨rfl,rfl⟩;exact ⟨rfl,rfl,rfl,rfl,rfl⟩
 .have cT:b<w.heap.size:=(pq.1 hb).1;refine Nv (Qw.2 (Any.slices_Sort_int apy b off c xs w (holds_of hb hx) cT W)) ?_
  rintro e' w' ⟨rfl,n,os,rfl⟩;rw[aa1];have hl:O (dJ xs)=O xs:=(pd xs).length_eq;obtain ⟨a1,a2,a3⟩:=aoM (d:=dJ xs) (by rw[hl];exact ajy h0 hx)
  rw[hl] at a2;exact ⟨rfl,_,_,ayf hb,anA _ os,a1,a2,a3⟩
def ajA:VL Tryz.prog 219 U:=by
 refine ⟨⟨_,Tryz.func219,bv,by rw[show Tryz.f219.name= "slices.Compact[[]int,int]" by kernel_rfl];decide⟩,λm w p c=> ?_,λm w b off c xs kw e hb h0 h6 hc hx=> ?_⟩
 .refine Nv (Qw.2 (Any.slices_Compact_int_empty ayQ p c w)) ?_;rintro e w' ⟨rfl,rfl⟩;exact ⟨rfl,rfl,rfl,rfl,rfl⟩
 .refine Nv (Qw.2 (Any.slices_Compact_int ayQ b off c xs w (holds_of hb hx) W hc)) ?_
  rintro e' w' ⟨rfl,n,rfl⟩;rw[alj];have lm:=Oy xs;have hl:O (mO xs++Va (O xs-O (mO xs)) 0)=O xs:=by simp;omega
  obtain ⟨a1,a2,a3⟩:=aoM (d:=mO xs++Va (O xs-O (mO xs)) 0) (by rw[hl];exact ajy h0 hx)
  rw[hl] at a2;exact ⟨rfl,_,_,ayf hb,⟨rfl,rfl,rfl,cM _,λ_ _=>rfl⟩,a1,a2,a3⟩
end Go.Proofs.YtbnkhmoelnfjoaaGreat
namespace Go.Proofs.YtbnkhmoelnfjoaaGreat
open Go.Lib Go.RowKit Go.bM
variable {P:Program} {i6:Array Oper} {rest:List Oper} {o:Oper} {a:Act} {Q:Exit->Act->World->Prop} {v':O'} {w' w:World} {K:Act->World->Prop} {E:Prop} {Y:Type} {k:Nat}
def abD (w:World) (t e:Ey) (z:O') (sz:Nat) (ht:P.underlying t=V (.slice e)) (hv:∀w,(zeroValue e).run P w= .ok z w) (hz:z.cells.size=sz) (h1:∀v∈z.cells.toList,v.oneCell'=I) (b o n c:Nat) (hn:0<n) (hc:∀j,j<n*sz->(w.cell? ⟨b,o+j,A⟩).isSome=I) (hf:∀j,j<n*sz->w.frozen? ⟨b,o+j,A⟩=U):
  ∃zs:List O',O zs=n*sz/\(∀v∈zs,v.oneCell'=I)/\∀ty,(Builtin.clear_ #[t] ty #[.slice (V ⟨b,o,A⟩) n c]).run P w= .ok (.tuple #[]) (w.setCells b o zs):=by
 have hl:O (MO z.cells n).toList=n*sz:=by simp[MO,hz]
 have vZ:∀v∈(MO z.cells n).toList,v.oneCell'=I:=λv G8=>by
  simp only[MO,Array.toList_map,dL] at G8;obtain ⟨i,hi,rfl⟩:=G8;have hi:i<n*z.cells.size:=by simpa using hi
  have hz0:0<z.cells.size:=by
   rcases IF z.cells.size with e|e
   .rw[e] at hi;simp at hi
   .exact e
  have cT:i % z.cells.size<z.cells.size:=Nat.mod_lt _ hz0;rw[getElem!_pos z.cells _ cT];exact h1 _ (Array.getElem_mem_toList cT)
 refine ⟨(MO z.cells n).toList,hl,vZ,λty=> ?_⟩
 have dV:=run_storeCells_cells (P:=P) b o (MO z.cells n).toList 0 w (by rw[hl];simpa using hc) (by rw[hl];simpa using hf) vZ
 simp only[po] at dV;obtain ⟨m,rfl⟩:∃m,n=m+1:=⟨n-1,W⟩
 simp[Builtin.clear_,run_underlying ht,hv,dV]
def B5 (b:Nat) (vs:List O') (o:Nat) (w:World) (h:∀j,j<O vs->(w.cell? ⟨b,o+j,A⟩).isSome=I) (k:Nat) (hk:(w.cell? ⟨b,k,A⟩).isSome=I):((w.setCells b o vs).cell? ⟨b,k,A⟩).isSome=I:=by
 by_cases jJ:o<=k/\k<o+O vs
 .have:=World.cell?_setCells_in b vs o w h (k-o) W
  rw[show o+(k-o)=k by omega] at this
  rw[this];rfl
 .rw[ae1 b vs o w ⟨b,k,A⟩ (λ_ _=>by show k<o\/o+O vs<=k;omega)]
  exact hk
def nV {b:Nat} {e:Ey}:∀(vs:List O') (o:Nat) (w:World) (kw:Array O'),w.heap[b]? =V (.cells kw e (0,0))->o+O vs<=kw.size->∃kb,Wr w (w.setCells b o vs) b e kb/\kb.size=kw.size/\∀k,kb[k]? =if o<=k/\k<o+O vs then vs[k-o]? else kw[k]?
 | [],o,w,kw,hb,hl=>⟨kw,⟨hb,rfl,λ_ _=>rfl,rfl,rfl,rfl⟩,rfl,λk=>by rw[au (λh=>absurd h.2 (by have:=h.1;show ¬k<o+0;omega))]⟩
 |v::vs,o,w,kw,hb,hl=>by
  have hl:o+(O vs+1)<=kw.size:=hl;have cT:b<w.heap.size:=(pq.1 hb).1;have h1:(w.setCell ⟨b,o,A⟩ v).heap[b]? =V (.cells (kw.setIfInBounds o v) e (0,0)):=by
   simp[World.setCell,M9,hb]
  let ⟨kb,a1,a2,a3⟩:=nV vs (o+1) (w.setCell ⟨b,o,A⟩ v) _ h1 ap
  refine ⟨kb,⟨a1.heap,a1.size.trans (by simp[World.setCell]),λk hk=>(a1.MN k hk).trans ?_,a1.os,a1.tape,a1.output⟩,by rw[a2];simp,λk=> ?_⟩
  .simp[World.setCell,M9,tu hk]
  .rw[a3,afB,l7];by_cases hk:o=k
   .subst hk;rw[au W,ax rfl,ax W,ax W,qT];rfl
   .rw[au hk];by_cases xV:o+1<=k/\k<o+1+O vs
    .rw[ax xV,ax W,show k-o=(k-(o+1))+1 by omega,uW]
    .rw[au xV,au W]
variable (B C D J vQ N R S:Nat) (ul:List O') (aa:World) (ai:Nat) (ab al:List O') (ad:World)
def ayC (z:O') (h:(z.cells.toList.all λv=>v.oneCell')=I):∀v∈z.cells.toList,v.oneCell'=I:=λv hv=>(jR.1 h) v hv
def i73:TypeInfo:=(Tryz.prog.info? 73).get bv
def N9:Tryz.prog.info? 73=V i73:=bv
def Bz:i73.size=2:=bv
set_option maxHeartbeats 4000000 in
set_option maxRecDepth 1000000 in
def aMR (oI:O ul=D*2) (hc:∀t v,ul[t]? =V v->aa.cell? ⟨B,C+t,A⟩=V v) (hf:∀t,t<D*2->aa.frozen? ⟨B,C+t,A⟩=U) (h1:∀v∈ul,v.oneCell'=I) (jL:D<=J) (Ha:vQ<N) (hj:N<=D):
  Calls Tryz.prog 182 #[.slice (V ⟨B,C,A⟩) D J,.int .i64 vQ,.int .i64 N] aa λe w'=>e= .returned (.slice (V ⟨B,C,A⟩) (D-(N-vQ)) J)/\∃zs:List O',O zs=(N-vQ)*2/\(∀v∈zs,v.oneCell'=I)/\w'=(aa.drew.setCells B (C+vQ*2) (ul.drop (N*2))).setCells B (C+(vQ+(D-N))*2) zs:=by
 have heq:¬(vQ=N):=by omega
 have heq':((vQ:Int)==(N:Int))=U:=by simp;omega
 obtain ⟨lu,vX⟩:∃lu,lu=ul.drop (N*2):=⟨_,rfl⟩;have li:O lu=(D-N)*2:=by rw[vX,iz,oI,Ci]
 obtain ⟨rt,hA,N0⟩:∃rt:Addr,(if J=N then V (⟨B,C,A⟩:Addr) else V ⟨B,C+N*2,A⟩)=V rt/\Hid (∀t u,lu[t]? =V u->aa.drew.cell? (rt.add t)=V u):=by
  by_cases h:J=N
  .refine ⟨⟨B,C,A⟩,by simp[h],λt u hu=> ?_⟩
   have h0:O lu=0:=by rw[li];omega
   rw[qg.1 h0] at hu;simp at hu
  .refine ⟨⟨B,C+N*2,A⟩,by simp[h],λt u hu=> ?_⟩
   rw[vX,fF] at hu;rw[Nq,show C+N*2+t=C+(N*2+t) by omega]
   exact hc _ _ hu
 have s1:Hid (O lu=(D-N)*2):=li;have s2:Hid (∀u∈lu,u.oneCell'=I):=λu hu=>h1 u (nh (by rw[<-vX];exact hu))
 have KV:∀t,t<D*2->(aa.cell? ⟨B,C+t,A⟩).isSome=I:=λt ht=>by
  rw[hc t ul[t] (by rw[bJ])];rfl
 have s3:Hid (∀t,t<O lu->(aa.drew.cell? ⟨B,C+vQ*2+t,A⟩).isSome=I/\aa.drew.frozen? ⟨B,C+vQ*2+t,A⟩=U):=λt ht=>by
  rw[li] at ht;rw[il];exact ⟨KV (vQ*2+t) W,hf (vQ*2+t) W⟩
 obtain ⟨W1,vY⟩:∃W1,W1=aa.drew.setCells B (C+vQ*2) lu:=⟨_,rfl⟩;have Ur:∀t,t<D*2->(W1.cell? ⟨B,C+t,A⟩).isSome=I:=λt ht=>by
  rw[vY];exact B5 B _ _ _ (λk hk=>(s3 k hk).1) _ (KV t ht)
 have fz1:∀t,t<D*2->W1.frozen? ⟨B,C+t,A⟩=U:=λt ht=>by
  rw[vY,ad8];exact hf t ht
 let ⟨zs,AO,mo,dX⟩:=abD (P:=Tryz.prog) W1 40 73 _ 2 Tryz.underlying40 Tryz.zeroValue73 bv (ayC _ bv) B (C+(vQ+(D-N))*2) (D-(vQ+(D-N))) (J-(vQ+(D-N))) W
  (λt ht=>by rw[il];exact Ur _ W) (λt ht=>by rw[il];exact fz1 _ W)
 have hic:vQ<=J:=by omega
 have hjc:N<=J:=by omega
 have hW:Hid (W1=aa.drew.setCells B (C+vQ*2) lu):=vY;have hNW:Hid (lu=ul.drop (N*2)):=vX;clear vY vX li KV Ur fz1 hc hf h1;go_enter Tryz.func182,Tryz.ntmps182;go_wp2_with fail;go_region_law (refine step_append_room rfl (.tmp 22) (.tmp 25) 40 rfl 73 i73 2 Tryz.underlying40 N9 Bz B C vQ J (by simp[Act.eval,Act.put]) rt (D-N) (J-N) lu (by simp[Act.eval,Act.put,hA]) s1.out N0.out s2.out W s3.out ?_;rw[<-hW.out])
 go_wp2;go_ret;refine ⟨?_,zs,by rw[AO];congr 1;omega,mo,?_⟩
 .rw[show D-(N-vQ)=vQ+(D-N) by omega];rfl
 .rw[hW.out,hNW.out]
def aEq:avz Tryz.prog 182 2:=by
 refine ⟨⟨_,Tryz.func182,bv,by rw[show Tryz.f182.name= "slices.Delete[[]partsync/api.Column,partsync/api.Column]" by kernel_rfl];decide⟩,λm w b off n c i j kw e hb hl h1 Ha hj wG=>Qw.2 ?_⟩
 have Qy:∀t,w.cell? ⟨b,t,A⟩=kw[t]? :=λt=>wN hb
 have li:O ((kw.toList.drop off).take (n*2))=n*2:=by simp;omega
 have nO:∀t,t<n*2->((kw.toList.drop off).take (n*2))[t]? =kw[off+t]? :=λt ht=>by
  rw[eO,ax ht,fF,ng]
 refine (aMR b off n c i j ((kw.toList.drop off).take (n*2)) w li (λt v hv=> ?_) (λt ht=> ?_) (λv hv=> ?_) wG Ha hj).mono ?_
 .have ht:t<n*2:=by have:=(bk.1 hv).1;rwa[li] at this
  rw[Qy,<-nO t ht];exact hv
 .simp[R0,hb]
 .let ⟨t,ht,e⟩:=IE hv;rw[li] at ht;refine h1 t ht v ?_;rw[<-nO t ht,<-e];exact bJ _
 .rintro r w' ⟨rfl,zs,AO,mo,rfl⟩;refine ⟨rfl,?_⟩;have qI:O (((kw.toList.drop off).take (n*2)).drop (j*2))=(n-j)*2:=by rw[iz,li,Ci]
  let ⟨c1,a1,a2,a3⟩:=nV (((kw.toList.drop off).take (n*2)).drop (j*2)) (off+i*2) w.drew kw hb (by rw[qI];omega)
  let ⟨c2,b1,b2,b3⟩:=nV zs (off+(i+(n-j))*2) _ c1 a1.heap (by rw[a2,AO];omega)
  refine ⟨c2,⟨b1.heap,b1.size.trans a1.size,λk hk=>(b1.MN k hk).trans (a1.MN k hk),b1.os.trans a1.os,b1.tape.trans a1.tape,b1.output.trans a1.output⟩,b2.trans a2,λk hk=> ?_,λt ht=> ?_,λt ht=> ?_⟩
  .rw[b3,au (by rw[AO];omega),a3,au (by rw[qI];omega)]
  .rw[b3,au W,a3,ax (by rw[qI];omega),show off+i*2+t-(off+i*2)=t by omega,fF,nO _ W,il]
  .refine ⟨zs[t]'(by rw[AO];omega),?_,mo _ (nf _)⟩
   rw[b3,ax (by rw[AO];omega),show off+i*2+(n*2-j*2)+t-(off+(i+(n-j))*2)=t by omega]
   exact bJ _
def i44:TypeInfo:=(Tryz.prog.info? 44).get bv
def hi44:Tryz.prog.info? 44=V i44:=bv
def hs44:i44.size=5:=bv
set_option maxHeartbeats 4000000 in
set_option maxRecDepth 1000000 in
def aMQ (oI:O ul=D*5) (hc:∀t v,ul[t]? =V v->aa.cell? ⟨B,C+t,A⟩=V v) (hf:∀t,t<D*5->aa.frozen? ⟨B,C+t,A⟩=U) (h1:∀v∈ul,v.oneCell'=I) (jL:D<=J) (Ha:vQ<N) (hj:N<=D):
  Calls Tryz.prog 185 #[.slice (V ⟨B,C,A⟩) D J,.int .i64 vQ,.int .i64 N] aa λe w'=>e= .returned (.slice (V ⟨B,C,A⟩) (D-(N-vQ)) J)/\∃zs:List O',O zs=(N-vQ)*5/\(∀v∈zs,v.oneCell'=I)/\w'=(aa.drew.setCells B (C+vQ*5) (ul.drop (N*5))).setCells B (C+(vQ+(D-N))*5) zs:=by
 have heq:¬(vQ=N):=by omega
 have heq':((vQ:Int)==(N:Int))=U:=by simp;omega
 obtain ⟨lu,vX⟩:∃lu,lu=ul.drop (N*5):=⟨_,rfl⟩;have li:O lu=(D-N)*5:=by rw[vX,iz,oI,Ci]
 obtain ⟨rt,hA,N0⟩:∃rt:Addr,(if J=N then V (⟨B,C,A⟩:Addr) else V ⟨B,C+N*5,A⟩)=V rt/\Hid (∀t u,lu[t]? =V u->aa.drew.cell? (rt.add t)=V u):=by
  by_cases h:J=N
  .refine ⟨⟨B,C,A⟩,by simp[h],λt u hu=> ?_⟩
   have h0:O lu=0:=by rw[li];omega
   rw[qg.1 h0] at hu;simp at hu
  .refine ⟨⟨B,C+N*5,A⟩,by simp[h],λt u hu=> ?_⟩
   rw[vX,fF] at hu;rw[Nq,show C+N*5+t=C+(N*5+t) by omega]
   exact hc _ _ hu
 have s1:Hid (O lu=(D-N)*5):=li;have s2:Hid (∀u∈lu,u.oneCell'=I):=λu hu=>h1 u (nh (by rw[<-vX];exact hu))
 have KV:∀t,t<D*5->(aa.cell? ⟨B,C+t,A⟩).isSome=I:=λt ht=>by
  rw[hc t ul[t] (by rw[bJ])];rfl
 have s3:Hid (∀t,t<O lu->(aa.drew.cell? ⟨B,C+vQ*5+t,A⟩).isSome=I/\aa.drew.frozen? ⟨B,C+vQ*5+t,A⟩=U):=λt ht=>by
  rw[li] at ht;rw[il];exact ⟨KV (vQ*5+t) W,hf (vQ*5+t) W⟩
 obtain ⟨W1,vY⟩:∃W1,W1=aa.drew.setCells B (C+vQ*5) lu:=⟨_,rfl⟩;have Ur:∀t,t<D*5->(W1.cell? ⟨B,C+t,A⟩).isSome=I:=λt ht=>by
  rw[vY];exact B5 B _ _ _ (λk hk=>(s3 k hk).1) _ (KV t ht)
 have fz1:∀t,t<D*5->W1.frozen? ⟨B,C+t,A⟩=U:=λt ht=>by
  rw[vY,ad8];exact hf t ht
 let ⟨zs,AO,mo,dX⟩:=abD (P:=Tryz.prog) W1 23 44 _ 5 Tryz.underlying23 Tryz.zeroValue44 bv (ayC _ bv) B (C+(vQ+(D-N))*5) (D-(vQ+(D-N))) (J-(vQ+(D-N))) W
  (λt ht=>by rw[il];exact Ur _ W) (λt ht=>by rw[il];exact fz1 _ W)
 have hic:vQ<=J:=by omega
 have hjc:N<=J:=by omega
 have hW:Hid (W1=aa.drew.setCells B (C+vQ*5) lu):=vY;have hNW:Hid (lu=ul.drop (N*5)):=vX;clear vY vX li KV Ur fz1 hc hf h1;go_enter Tryz.func185,Tryz.ntmps185;go_wp2_with fail;go_region_law (refine step_append_room rfl (.tmp 22) (.tmp 25) 23 rfl 44 i44 5 Tryz.underlying23 hi44 hs44 B C vQ J (by simp[Act.eval,Act.put]) rt (D-N) (J-N) lu (by simp[Act.eval,Act.put,hA]) s1.out N0.out s2.out W s3.out ?_;rw[<-hW.out])
 go_wp2;go_ret;refine ⟨?_,zs,by rw[AO];congr 1;omega,mo,?_⟩
 .rw[show D-(N-vQ)=vQ+(D-N) by omega];rfl
 .rw[hW.out,hNW.out]
def aEp:avz Tryz.prog 185 5:=by
 refine ⟨⟨_,Tryz.func185,bv,by rw[show Tryz.f185.name= "slices.Delete[[]partsync/api.Table,partsync/api.Table]" by kernel_rfl];decide⟩,λm w b off n c i j kw e hb hl h1 Ha hj wG=>Qw.2 ?_⟩
 have Qy:∀t,w.cell? ⟨b,t,A⟩=kw[t]? :=λt=>wN hb
 have li:O ((kw.toList.drop off).take (n*5))=n*5:=by simp;omega
 have nO:∀t,t<n*5->((kw.toList.drop off).take (n*5))[t]? =kw[off+t]? :=λt ht=>by
  rw[eO,ax ht,fF,ng]
 refine (aMQ b off n c i j ((kw.toList.drop off).take (n*5)) w li (λt v hv=> ?_) (λt ht=> ?_) (λv hv=> ?_) wG Ha hj).mono ?_
 .have ht:t<n*5:=by have:=(bk.1 hv).1;rwa[li] at this
  rw[Qy,<-nO t ht];exact hv
 .simp[R0,hb]
 .let ⟨t,ht,e⟩:=IE hv;rw[li] at ht;refine h1 t ht v ?_;rw[<-nO t ht,<-e];exact bJ _
 .rintro r w' ⟨rfl,zs,AO,mo,rfl⟩;refine ⟨rfl,?_⟩;have qI:O (((kw.toList.drop off).take (n*5)).drop (j*5))=(n-j)*5:=by rw[iz,li,Ci]
  let ⟨c1,a1,a2,a3⟩:=nV (((kw.toList.drop off).take (n*5)).drop (j*5)) (off+i*5) w.drew kw hb (by rw[qI];omega)
  let ⟨c2,b1,b2,b3⟩:=nV zs (off+(i+(n-j))*5) _ c1 a1.heap (by rw[a2,AO];omega)
  refine ⟨c2,⟨b1.heap,b1.size.trans a1.size,λk hk=>(b1.MN k hk).trans (a1.MN k hk),b1.os.trans a1.os,b1.tape.trans a1.tape,b1.output.trans a1.output⟩,b2.trans a2,λk hk=> ?_,λt ht=> ?_,λt ht=> ?_⟩
  .rw[b3,au (by rw[AO];omega),a3,au (by rw[qI];omega)]
  .rw[b3,au W,a3,ax (by rw[qI];omega),show off+i*5+t-(off+i*5)=t by omega,fF,nO _ W,il]
  .refine ⟨zs[t]'(by rw[AO];omega),?_,mo _ (nf _)⟩
   rw[b3,ax (by rw[AO];omega),show off+i*5+(n*5-j*5)+t-(off+(i+(n-j))*5)=t by omega]
   exact bJ _
def Qx (dT sT ty elem:Ey) (i:TypeInfo) (sz:Nat) (b o dLen dCap:Nat) (a:Addr) (aCn sCap k:Nat) (cs:List O') (hu:P.underlying dT=V (.slice elem)) (hi:P.info? elem=V i) (hs:i.size=sz) (hk:Nat.min aCn dLen=k) (hn:O cs=k*sz) (N0:∀j v,cs[j]? =V v->aa.cell? (a.add j)=V v) (hc:∀j,j<O cs->(aa.cell? ⟨b,o+j,A⟩).isSome=I) (hf:∀j,j<O cs->aa.frozen? ⟨b,o+j,A⟩=U) (h1:∀v∈cs,v.oneCell'=I):
  (ML #[dT,sT] ty #[.slice (V ⟨b,o,A⟩) dLen dCap,.slice (V a) aCn sCap]).run P aa= .ok (goInt k) (aa.setCells b o cs):=by
 subst hs;have hfc:=run_firstCells_some (P:=P) aa i.size k a aCn sCap cs hn N0;have dV:=run_storeCells_cells (P:=P) b o cs 0 aa (by simpa using hc) (by simpa using hf) h1
 simp only[po] at dV;simp[ML,run_underlying hu,Builtin.lenOf,sizeOf,typeInfo,hi,hk,hfc,dV]
def wpC (hgd:o.guard=A) (d s:S') (t t':Ey) (ho:o.op= .call {callee:=.builtin .copy,args:= #[d,s],argTypes:= #[t,t']}) (v u:O') (hd:a.eval d=v) (hs:a.eval s=u) (hr:(ML #[t,t'] o.type #[v,u]).run P aa= .ok v' w') (h:wpList P i6 Q rest (a.put o.dst v') w'):wpList P i6 Q (o::rest) a aa:=
 wpList_plain hgd λ_ hK=>by
  unfold Oper.wp execOp;simp only[ho,resolve,invoke,builtin,P',X',V',List.map_toArray,j2,wa,hd,hs,hr];exact hK _ _ h
def aFv (hg:o.guard=A) (d x:S') (dT sT:Ey) (gP:o.op=Op.call {callee:=Callee.builtin Builtin.copy,args:= #[d,x],argTypes:= #[dT,sT]}) (v u:O') (hd:a.eval d=v) (hx:a.eval x=u) (hr:(ML #[dT,sT] o.type #[v,u]).run P w= .ok v' w') (hK:K (a.put o.dst v') w'):
  if Region.wanted o (yielded i6 a.tmps)=I then Oper.wp P o a w K Q else E:=by
 have hw:Region.wanted o (yielded i6 a.tmps)=I:=by simp[Region.wanted,hg]
 rw[ax hw];unfold Oper.wp;simp[execOp,gP,resolve,invoke,builtin,hd,hx,hr,Result.andThen];exact hK
structure Df (w:World) (b off n c vb kP q vc:Nat) (cs vs:List O'):Prop where
 cl:cs.length=n*2
 vl:vs.length=q*2
 hc:∀j v,cs[j]? =V v->w.cell? ⟨b,off+j,A⟩=V v
 hv:∀j v,vs[j]? =V v->w.cell? ⟨vb,kP+j,A⟩=V v
 sp:∀j,j<c*2->(w.cell? ⟨b,off+j,A⟩).isSome=I
 fz:∀j,j<c*2->w.frozen? ⟨b,off+j,A⟩=U
 h1:∀v∈cs,v.oneCell'=I
 h2:∀v∈vs,v.oneCell'=I
set_option maxHeartbeats 4000000 in
set_option maxRecDepth 1000000 in
def aiG (qr:Df ad B C D J vQ N R S ul ab) (hq:0<R) (oM:D+R<=J):
  Calls Tryz.prog 184 #[.slice (V ⟨B,C,A⟩) D J,.int .i64 D,.slice (V ⟨vQ,N,A⟩) R S] ad λe w'=>e= .returned (.slice (V ⟨B,C,A⟩) (D+R) J)/\w'=ad.setCells B (C+D*2) ab:=by
 have AO:¬((R:Int)=0):=by omega
 have rU:∀ty,(MV #[40,40] ty #[.slice (V ⟨B,C,A⟩) D J,.slice (V ⟨vQ,N,A⟩) R S]).run Tryz.prog ad= .ok (.slice (V ⟨B,C,A⟩) (D+R) J) (ad.setCells B (C+D*2) ab):=λty=>by
  have h:=run_append_room_cells (P:=Tryz.prog) ad 40 ty 73 i73 Tryz.underlying40 N9 B C D J ⟨vQ,N,A⟩ R S ab (by rw[qr.vl,Bz]) (λj u hj=>by rw[Nq];exact qr.hv j u hj) qr.h2 oM
   (λj hj=>by rw[Bz,il];rw[qr.vl] at hj;exact qr.sp _ W) (λj hj=>by rw[Bz,il];rw[qr.vl] at hj;exact qr.fz _ W)
  rw[Bz] at h;exact h
 clear qr;go_enter Tryz.func184,Tryz.ntmps184;go_wp2_with (at_builtin;refine Lib.wpList_append_run _ rfl _ _ _ _ rfl _ _ rfl rfl _ _ (rU _) ?_);go_ret;exact ⟨rfl,rfl⟩
def z73:i73.zero=V i73.zero.get! :=bv
def b73:i73.bytes=24:=bv
def aBS:(i73.zero.get!).cells.size=2:=bv
set_option maxHeartbeats 4000000 in
set_option maxRecDepth 1000000 in
def aiH (qr:Df ad B C D J vQ N R S ul ab) (hq:0<R) (oM:J<D+R) (AS:D<=1000000) (hq6:R<=1000000) (wG:D<=J):
  Calls Tryz.prog 184 #[.slice (V ⟨B,C,A⟩) D J,.int .i64 D,.slice (V ⟨vQ,N,A⟩) R S] ad λe w'=>∃pu,e= .returned (.slice (V ⟨ad.heap.size,0,A⟩) (D+R) pu)/\D+R<=pu/\∃kb:Array O',pu*2<=kb.size/\(∀t,t<(D+R)*2->kb[t]? =(ul++ab)[t]?)/\Nw ad w' 73 kb:=by
 have AO:¬((R:Int)=0):=by omega
 have N0:Src Tryz.prog i73.size 40 (.slice (V ⟨vQ,N,A⟩) R S) R ab ad:=by
  rw[Bz];exact Src.ofSlice ad Tryz.underlying40 ⟨vQ,N,A⟩ R S ab qr.vl (λj u hj=>by rw[Nq];exact qr.hv j u hj) qr.h2
 have hold:(Nz i73.size D (.slice (V ⟨B,C,A⟩) D J)).run Tryz.prog ad.drew= .ok ul.toArray ad.drew:=by
  rw[Bz];exact run_firstCells_some ad.drew 2 D ⟨B,C,A⟩ D J ul qr.cl (λj v hj=>by rw[Nq];exact qr.hc j v hj)
 obtain ⟨pu,hG⟩:∃pu,pu=grownCap ad (D+R) J 73:=⟨_,rfl⟩;obtain ⟨kw,Ib⟩:∃kw:Array O',kw=(ul++ab).toArray++MO (i73.zero.get!).cells (pu-(D+R)):=⟨_,rfl⟩;have hGe:D+R<=pu:=by rw[hG];exact grownCap_ge ad _ _ _
 have oG:kw.size=pu*2:=by
  rw[Ib];simp[MO,aBS,qr.cl,qr.vl];omega
 have nO:∀t,t<(D+R)*2->kw[t]? =(ul++ab)[t]? :=λt ht=>by
  rw[Ib,M5 (by simp[qr.cl,qr.vl];omega),M4]
 have rU:∀ty,(MV #[40,40] ty #[.slice (V ⟨B,C,A⟩) D J,.slice (V ⟨vQ,N,A⟩) R S]).run Tryz.prog ad= .ok (.slice (V ⟨ad.heap.size,0,A⟩) (D+R) pu) (ad.drew.alloc (.cells kw 73)):=λty=>by
  have h:=run_append_grow_src ad 40 40 ty 73 i73 _ Tryz.underlying40 N9 z73 (V ⟨B,C,A⟩) D J ul hold _ R ab N0 oM W (growslice_fits oM (by rw[b73];omega))
  rw[<-hG,<-Ib] at h;exact h
 clear qr hold N0 hG Ib;go_enter Tryz.func184,Tryz.ntmps184;go_wp2_with (at_builtin;refine Lib.wpList_append_run _ rfl _ _ _ _ rfl _ _ rfl rfl _ _ (rU _) ?_);all_goals (go_ret;exact ⟨pu,rfl,hGe,kw,W,nO,⟨rfl,rfl,rfl,rfl⟩⟩)
set_option maxHeartbeats 4000000 in
set_option maxRecDepth 1000000 in
def aAj (qr:Df ad B C D J N R S ai ab al) (hi:vQ<D) (hq:0<S) (oM:D+S<=J) (hvb:N≠B) (AS:D<=1000000) (hq6:S<=1000000)
  (tA tB:Ey) (kA kB:Nat) (hsa:ad.shape? N=V (tA,kA)) (hsb:ad.shape? B=V (tB,kB)) (hkB:kB≠0) (hfa:ad.frozen? ⟨N,R,A⟩=U) (hfe:ad.frozen? ⟨N,kA,A⟩=U):
  Calls Tryz.prog 184 #[.slice (V ⟨B,C,A⟩) D J,.int .i64 vQ,.slice (V ⟨N,R,A⟩) S ai] ad λe w'=>e= .returned (.slice (V ⟨B,C,A⟩) (D+S) J)/\w'=(ad.drew.setCells B (C+(vQ+S)*2) (ab.drop (vQ*2))).setCells B (C+vQ*2) al:=by
 have AO:¬((S:Int)=0):=by omega
 have mo:¬((vQ:Int)=(D:Int)):=by omega
 have hz3:¬((J:Int)<(D:Int)+(S:Int)):=by omega
 have hov:∀lb cb,(callFunc 199 #[.slice (V ⟨N,R,A⟩) S ai,.slice (V ⟨B,C+(vQ+S)*2,A⟩) lb cb]).run Tryz.prog ad= .ok (.value (.bool U)) ad:=λlb cb=>by
  rw[run_callFunc_extern Tryz.func199 bv bv bv (e:=Extern.SlicesOverlaps.overlaps #[40,40] #[4]) bv,
   Lib.run_overlaps_apart ad 40 4 73 Tryz.underlying40 2 Tryz.sizeOf73 ⟨N,R,A⟩ ⟨B,C+(vQ+S)*2,A⟩ S ai lb cb hvb tA tB kA kB hsa hsb hkB hfa hfe]
  rfl
 have qI:O (ab.drop (vQ*2))=(D-vQ)*2:=by rw[iz,qr.cl,Ci]
 have hw1:IntKind.i64.wrap ((vQ:Int)+(S:Int))=(vQ:Int)+(S:Int):=by rw[IntKind.wrap_i64];omega
 have hw2:IntKind.i64.wrap ((D:Int)+(S:Int))=(D:Int)+(S:Int):=by rw[IntKind.wrap_i64];omega
 have hb1:(0:Int)<=(vQ:Int)+(S:Int):=by omega
 have jJ:vQ<=D:=by omega
 have htn:((vQ:Int)+(S:Int)).toNat=vQ+S:=by omega
 have hb2:¬(J=vQ+S):=by omega
 have hb3:(vQ:Int)<=(D:Int)+(S:Int):=by omega
 have hb4:¬(J=vQ):=by omega
 have hcp1:∀ty dc sc,(ML #[40,40] ty #[.slice (V ⟨B,C+(vQ+S)*2,A⟩) (D+S-(vQ+S)) dc,.slice (V ⟨B,C+vQ*2,A⟩) (D+S-vQ) sc]).run Tryz.prog ad.drew= .ok (goInt (D-vQ:Nat)) (ad.drew.setCells B (C+(vQ+S)*2) (ab.drop (vQ*2))):=λty dc sc=>
  Qx ad.drew 40 40 ty 73 i73 2 B (C+(vQ+S)*2) (D+S-(vQ+S)) dc ⟨B,C+vQ*2,A⟩ (D+S-vQ) sc (D-vQ) (ab.drop (vQ*2)) Tryz.underlying40 N9 Bz (by simp only[T5];split<;>omega) qI
   (λj v hj=>by rw[Nq,il];exact qr.hc (vQ*2+j) v (by rwa[fF] at hj))
   (λj hj=>by rw[qI] at hj;rw[il];exact qr.sp _ W) (λj hj=>by rw[qI] at hj;rw[il];exact qr.fz _ W) (λv hv=>qr.h1 v (nh hv))
 obtain ⟨W1,vY⟩:∃W1,W1=ad.drew.setCells B (C+(vQ+S)*2) (ab.drop (vQ*2)):=⟨_,rfl⟩;have hsp1:∀k,k<J*2->(W1.cell? ⟨B,C+k,A⟩).isSome=I:=λk hk=>by
  rw[vY];exact B5 B _ _ _ (λj hj=>by rw[qI] at hj;rw[il];exact qr.sp _ W) _ (qr.sp k hk)
 have hcp2:∀ty dc,(ML #[40,40] ty #[.slice (V ⟨B,C+vQ*2,A⟩) (D+S-vQ) dc,.slice (V ⟨N,R,A⟩) S ai]).run Tryz.prog W1= .ok (goInt (S:Nat)) (W1.setCells B (C+vQ*2) al):=λty dc=>
  Qx W1 40 40 ty 73 i73 2 B (C+vQ*2) (D+S-vQ) dc ⟨N,R,A⟩ S ai S al Tryz.underlying40 N9 Bz (by simp only[T5];split<;>omega) qr.vl
   (λj v hj=>by
    rw[Nq,vY,ae1 B _ _ _ _ (λh _=>absurd h hvb)]
    exact qr.hv j v hj)
   (λj hj=>by rw[qr.vl] at hj;rw[il];exact hsp1 _ W) (λj hj=>by rw[qr.vl] at hj;rw[vY,ad8,il];exact qr.fz _ W) qr.h2
 rw[<-vY] at hcp1;have hW:Hid (W1=ad.drew.setCells B (C+(vQ+S)*2) (ab.drop (vQ*2))):=vY;clear qr hsp1 qI vY;go_enter Tryz.func184,Tryz.ntmps184;go_wp2_with (simp only[hov]);go_region_law (refine aFv rfl _ _ 40 40 rfl _ _ (by simp[Act.eval,Act.put]) (by simp[Act.eval,Act.put]) (hcp1 _ _ _) ?_)
 go_wp2_with (at_builtin;refine wpC _ rfl _ _ 40 40 rfl _ _ rfl rfl (hcp2 _ _) ?_);go_ret;exact ⟨rfl,by rw[hW.out]⟩
set_option maxHeartbeats 4000000 in
set_option maxRecDepth 1000000 in
def aCV (qr:Df ad B C D J N R S ai ab al) (hi:vQ<D) (hq:0<S) (oM:J<D+S) (AS:D<=1000000) (hq6:S<=1000000) (wG:D<=J) (hbw:B<ad.heap.size) (hvw:N<ad.heap.size):
  Calls Tryz.prog 184 #[.slice (V ⟨B,C,A⟩) D J,.int .i64 vQ,.slice (V ⟨N,R,A⟩) S ai] ad λe w'=>∃pu,e= .returned (.slice (V ⟨ad.heap.size,0,A⟩) (D+S) pu)/\D+S<=pu/\∃An:Array O',An.size=pu*2/\(∀t,t<vQ*2->An[t]? =ab[t]?)/\w'=((ad.drew.alloc (.cells An 73)).setCells ad.heap.size (vQ*2) al).drew.setCells ad.heap.size ((vQ+S)*2) (ab.drop (vQ*2)):=by
 have AO:¬((S:Int)=0):=by omega
 have mo:¬((vQ:Int)=(D:Int)):=by omega
 have hz3:(J:Int)<(D:Int)+(S:Int):=by omega
 have Jt:(D:Int)+(S:Int)-(vQ:Int)=((D+S-vQ:Nat):Int):=by omega
 have hik:vQ+(D+S-vQ)=D+S:=by omega
 have hold:(Nz i73.size vQ (.slice (V ⟨B,C,A⟩) vQ J)).run Tryz.prog ad.drew= .ok (ab.take (vQ*2)).toArray ad.drew:=by
  rw[Bz];exact run_firstCells_some ad.drew 2 vQ ⟨B,C,A⟩ vQ J (ab.take (vQ*2)) (by rw[dv,qr.cl];omega) (λj v hj=>by
   rw[Nq];rw[eO] at hj;split at hj
   .exact qr.hc j v hj
   .cases hj)
 obtain ⟨pu,hG⟩:∃pu,pu=grownCap ad (D+S) J 73:=⟨_,rfl⟩;obtain ⟨An,Yg⟩:∃An:Array O',An=(ab.take (vQ*2)).toArray++MO (i73.zero.get!).cells (D+S-vQ)++MO (i73.zero.get!).cells (pu-(D+S)):=⟨_,rfl⟩;have hrz:∀ty,(MV #[40,3] ty #[.slice (V ⟨B,C,A⟩) vQ J,.int .i64 ((D:Int)+(S:Int)-(vQ:Int))]).run Tryz.prog ad= .ok (.slice (V ⟨ad.heap.size,0,A⟩) (D+S) pu) (ad.drew.alloc (.cells An 73)):=λty=>by
  have h:=Lib.run_append_grow_zeros ad 40 3 ty 73 i73 _ .i64 .i64 Tryz.underlying40 Tryz.underlying3 N9 z73 (V ⟨B,C,A⟩) vQ J (ab.take (vQ*2)) hold (D+S-vQ) W (by rw[Bz];omega) W W (by rw[b73];omega) (by rw[b73,hik];exact growslice_fits oM W)
  rw[hik,<-hG,<-Yg] at h;rw[Jt];exact h
 have hGn:D+S<=pu:=by rw[hG];exact grownCap_ge ad _ _ _
 have hRl:An.size=pu*2:=by
  rw[Yg];simp[MO,aBS,qr.cl];omega
 have hRg:∀t,t<vQ*2->An[t]? =ab[t]? :=λt ht=>by
  rw[Yg,M5 (by simp[MO,aBS,qr.cl];omega),M5 (by simp[qr.cl];omega),M4,eO,ax ht]
 obtain ⟨W1,vY⟩:∃W1,W1=ad.drew.alloc (.cells An 73):=⟨_,rfl⟩;have hN:∀j,j<pu*2->(W1.cell? ⟨ad.heap.size,j,A⟩).isSome=I:=λj hj=>by
  rw[vY,World.cell?_alloc_at (w:=ad.drew) An _ ad.heap.size j rfl,Cj W];rfl
 have hNf:∀j,W1.frozen? ⟨ad.heap.size,j,A⟩=U:=λj=>by rw[vY];exact World.frozen?_alloc_at (w:=ad.drew) An _ ad.heap.size j rfl
 have hOb:∀j v,ad.cell? ⟨B,j,A⟩=V v->W1.cell? ⟨B,j,A⟩=V v:=λj v h=>by rw[vY,World.cell?_alloc_past (w:=ad.drew) _ B j hbw];exact h
 have hOv:∀j v,ad.cell? ⟨N,j,A⟩=V v->W1.cell? ⟨N,j,A⟩=V v:=λj v h=>by rw[vY,World.cell?_alloc_past (w:=ad.drew) _ N j hvw];exact h
 have hG63:pu<=9223372036854775807:=by
  have:=grownCap_le_maxLen ad (D+S) J 73 (by unfold maxLen;omega)
  rw[<-hG] at this;unfold maxLen at this;omega
 have hcpA:∀(ac:World),(∀x,ac.cell? x=W1.cell? x)->(∀x,ac.frozen? x=W1.frozen? x)->∀ty dc,(ML #[40,40] ty #[.slice (V ⟨ad.heap.size,vQ*2,A⟩) (D+S-vQ) dc,.slice (V ⟨N,R,A⟩) S ai]).run Tryz.prog ac= .ok (goInt (S:Nat)) (ac.setCells ad.heap.size (vQ*2) al):=λac hWc hWf ty dc=>
  Qx ac 40 40 ty 73 i73 2 ad.heap.size (vQ*2) (D+S-vQ) dc ⟨N,R,A⟩ S ai S al Tryz.underlying40 N9 Bz (by simp only[T5];split<;>omega) qr.vl
   (λj v hj=>by rw[Nq,hWc];exact hOv _ v (qr.hv j v hj))
   (λj hj=>by rw[hWc];rw[qr.vl] at hj;exact hN _ W) (λj hj=>by rw[hWf];exact hNf _) qr.h2
 have hbN:B≠ad.heap.size:=by omega
 have qI:O (ab.drop (vQ*2))=(D-vQ)*2:=by rw[iz,qr.cl,Ci]
 have hcpB:∀(ac:World),(∀x,ac.cell? x=(W1.setCells ad.heap.size (vQ*2) al).cell? x)->(∀x,ac.frozen? x=(W1.setCells ad.heap.size (vQ*2) al).frozen? x)->∀ty dc sc,(ML #[40,40] ty #[.slice (V ⟨ad.heap.size,(vQ+S)*2,A⟩) (D+S-(vQ+S)) dc,.slice (V ⟨B,C+vQ*2,A⟩) (D-vQ) sc]).run Tryz.prog ac= .ok (goInt (D-vQ:Nat)) (ac.setCells ad.heap.size ((vQ+S)*2) (ab.drop (vQ*2))):=λac hWc hWf ty dc sc=>
  Qx ac 40 40 ty 73 i73 2 ad.heap.size ((vQ+S)*2) (D+S-(vQ+S)) dc ⟨B,C+vQ*2,A⟩ (D-vQ) sc (D-vQ) (ab.drop (vQ*2)) Tryz.underlying40 N9 Bz (by simp only[T5];split<;>omega) qI
   (λj v hj=>by
    rw[Nq,hWc,ae1 _ _ _ _ _ (λh _=>absurd h hbN),il]
    exact hOb _ v (qr.hc (vQ*2+j) v (by rwa[fF] at hj)))
   (λj hj=>by rw[qI] at hj;rw[hWc];exact B5 _ _ _ _ (λt ht=>by rw[qr.vl] at ht;exact hN _ W) _ (hN _ W))
   (λj hj=>by rw[hWf,ad8];exact hNf _) (λv hv=>qr.h1 v (nh hv))
 have hGi:¬(pu=vQ):=by omega
 have hGim:¬(pu=vQ+S):=by omega
 have hci:¬(J=vQ):=by omega
 have hw1:IntKind.i64.wrap ((vQ:Int)+(S:Int))=(vQ:Int)+(S:Int):=by rw[IntKind.wrap_i64];omega
 have hb1:(0:Int)<=(vQ:Int)+(S:Int):=by omega
 have jJ:vQ<=D:=by omega
 have htn:((vQ:Int)+(S:Int)).toNat=vQ+S:=by omega
 have hb3:(vQ:Int)<=(D:Int):=by omega
 rw[<-vY] at hrz;have hW:Hid (W1=ad.drew.alloc (.cells An 73)):=vY;have hA:=λty dc=>hcpA W1 (λ_=>rfl) (λ_=>rfl) ty dc
 obtain ⟨W2,hW2⟩:∃W2,W2=W1.setCells ad.heap.size (vQ*2) al:=⟨_,rfl⟩;rw[<-hW2] at hA;have hB:=λty dc sc=>hcpB W2.drew (λ_=>by rw[hW2];rfl) (λ_=>by rw[hW2];rfl) ty dc sc
 have hW2':Hid (W2=W1.setCells ad.heap.size (vQ*2) al):=hW2;clear Jt hik hold Yg hG qr hN hNf hOb hOv hcpA hcpB qI vY hW2 hbw hvw;go_enter Tryz.func184,Tryz.ntmps184;go_wp2_with (first
  |(at_builtin;refine Lib.wpList_append_run _ rfl _ _ _ _ rfl _ _ rfl rfl _ _ (hrz _) ?_)
  |(at_builtin;refine wpC _ rfl _ _ 40 40 rfl _ _ rfl rfl (hA _ _) ?_))
 go_region_law (refine aFv rfl _ _ 40 40 rfl (.slice (V ⟨ad.heap.size,(vQ+S)*2,A⟩) (D+S-(vQ+S)) (pu-(vQ+S))) (.slice (V ⟨B,C+vQ*2,A⟩) (D-vQ) (J-vQ)) (by simp[Act.eval,Act.put]) (by simp[Act.eval,Act.put]) (hB 3 (pu-(vQ+S)) (J-vQ)) ?_)
 go_wp2;go_ret;exact ⟨pu,rfl,hGn,An,hRl,hRg,by rw[hW2'.out,hW.out]⟩
def aKv {xs ys:List Y} (hk:k<=O xs) (t:Nat):(Dn xs k ys)[t]? =if t<k then xs[t]? else if t<k+O ys then ys[t-k]? else xs[t-O ys]? :=by
 show (xs.take k++(ys++xs.drop k))[t]? =_;rw[tq,dv,fG hk];by_cases q1:t<k
 .rw[ax q1,ax q1,eO,ax q1]
 .rw[au q1,au q1,tq];by_cases q2:t<k+O ys
  .rw[ax W,ax q2]
  .rw[au W,au q2,fF]
   congr 1;omega
def aCW:aIY Tryz.prog 184 73 2:=by
 refine ⟨⟨_,Tryz.func184,bv,by rw[show Tryz.f184.name= "slices.Insert[[]partsync/api.Column,partsync/api.Column]" by kernel_rfl];decide⟩,λm w b off n c i vb kP q vc kw LQ ev hb hvb dd oI zd h1 h2 wG AS hq hq6 jJ=>Qw.2 ?_⟩
 have Qy:∀t,w.cell? ⟨b,t,A⟩=kw[t]? :=λt=>wN hb
 have aTU:∀t,w.cell? ⟨vb,t,A⟩=LQ[t]? :=λt=>wN hvb
 obtain ⟨cs,aDB⟩:∃cs,cs=(kw.toList.drop off).take (n*2):=⟨_,rfl⟩;obtain ⟨vs,aDq⟩:∃vs,vs=(LQ.toList.drop kP).take (q*2):=⟨_,rfl⟩;have lc:O cs=n*2:=by rw[aDB];simp;omega
 have lv:O vs=q*2:=by rw[aDq];simp;omega
 have gc:∀t,t<n*2->cs[t]? =kw[off+t]? :=λt ht=>by rw[aDB,eO,ax ht,fF,ng]
 have gv:∀t,t<q*2->vs[t]? =LQ[kP+t]? :=λt ht=>by rw[aDq,eO,ax ht,fF,ng]
 have qr:Df w b off n c vb kP q vc cs vs:=by
  refine ⟨lc,lv,λt v hv=> ?_,λt v hv=> ?_,λt ht=> ?_,λt ht=> ?_,λv hv=> ?_,λv hv=> ?_⟩
  .have ht:t<n*2:=by have:=(bk.1 hv).1;rwa[lc] at this
   rw[Qy,<-gc t ht];exact hv
  .have ht:t<q*2:=by have:=(bk.1 hv).1;rwa[lv] at this
   rw[aTU,<-gv t ht];exact hv
  .rw[Qy,Cj W];rfl
  .simp[R0,hb]
  .let ⟨t,ht,e⟩:=IE hv;rw[lc] at ht;refine h1 t ht v ?_;rw[<-gc t ht,<-e];exact bJ _
  .let ⟨t,ht,e⟩:=IE hv;rw[lv] at ht;refine h2 t ht v ?_;rw[<-gv t ht,<-e];exact bJ _
 rw[<-aDB,<-aDq];have pu:∀t,(Dn cs (i*2) vs)[t]? =if t<i*2 then cs[t]? else if t<i*2+q*2 then vs[t-i*2]? else cs[t-q*2]? :=λt=>by
  rw[aKv (by rw[lc];omega),lv]
 rcases Nat.eq_or_lt_of_le jJ with rfl|cT
 .by_cases oM:i+q<=c
  .refine (aiG b off i c vb kP q vc cs vs w qr hq oM).mono ?_;rintro r w' ⟨rfl,rfl⟩;let ⟨c1,a1,a2,a3⟩:=nV vs (off+i*2) w kw hb (by rw[lv];omega)
   refine ⟨b,off,c,c1,rfl,oM,by rw[a2];exact oI,λt ht=> ?_,.inl ⟨rfl,rfl,a1⟩⟩
   rw[pu,a3,lv];by_cases q1:t<i*2
   .rw[au W,ax q1,gc t q1]
   .rw[ax W,au q1,ax W,show off+t-(off+i*2)=t-i*2 by omega]
  .refine (aiH b off i c vb kP q vc cs vs w qr hq W AS hq6 wG).mono ?_
   rintro r w' ⟨G',rfl,hG,c1,oG,nO,hw⟩;refine ⟨w.heap.size,0,G',c1,rfl,hG,W,λt ht=> ?_,.inr ⟨rfl,rfl,hw⟩⟩
   rw[pu,cN,nO t ht,tq,lc];by_cases q1:t<i*2
   .rw[ax q1,ax q1]
   .rw[au q1,au q1,ax W]
 .have hld:O (cs.drop (i*2))=(n-i)*2:=by rw[iz,lc,Ci]
  by_cases oM:n+q<=c
  .refine (aAj b off n c i vb kP q vc cs vs w qr cT hq oM dd AS hq6 ev 73 LQ.size kw.size (by simp[World.shape?,hvb]) (by simp[World.shape?,hb]) W (by simp[R0,hvb]) (by simp[R0,hvb])).mono ?_
   rintro r w' ⟨rfl,rfl⟩;let ⟨c1,a1,a2,a3⟩:=nV (cs.drop (i*2)) (off+(i+q)*2) w.drew kw hb (by rw[hld];omega)
   let ⟨c2,b1,b2,b3⟩:=nV vs (off+i*2) _ c1 a1.heap (by rw[lv,a2];omega)
   refine ⟨b,off,c,c2,rfl,oM,by rw[b2,a2];exact oI,λt ht=> ?_,.inl ⟨rfl,rfl,⟨b1.heap,b1.size.trans a1.size,λk hk=>(b1.MN k hk).trans (a1.MN k hk),b1.os.trans a1.os,b1.tape.trans a1.tape,b1.output.trans a1.output⟩⟩⟩
   rw[pu,b3,lv];by_cases q1:t<i*2
   .rw[au W,ax q1,a3,au W,gc t W]
   .rw[au q1];by_cases q2:t<i*2+q*2
    .rw[ax W,ax q2,show off+t-(off+i*2)=t-i*2 by omega]
    .rw[au W,au q2,a3,ax (by rw[hld];omega),fF]
     congr 1;omega
  .have hbw:=(pq.1 hb).1;have hvw:=(pq.1 hvb).1;refine (aCV b off n c i vb kP q vc cs vs w qr cT hq W AS hq6 wG hbw hvw).mono ?_
   rintro r w' ⟨G',rfl,hG,An,oG,nO,rfl⟩;have hW:(w.drew.alloc (.cells An 73)).heap[w.heap.size]? =V (.cells An 73 (0,0)):=heap_alloc_new w.drew _;let ⟨c1,a1,a2,a3⟩:=nV vs (i*2) _ An hW (by rw[lv];omega)
   let ⟨c2,b1,b2,b3⟩:=nV (cs.drop (i*2)) ((i+q)*2) (World.drew _) c1 a1.heap (by rw[hld,a2];omega)
   refine ⟨w.heap.size,0,G',c2,rfl,hG,W,λt ht=> ?_,.inr ⟨rfl,rfl,?_,b1.os.trans a1.os,b1.tape.trans a1.tape,b1.output.trans a1.output⟩⟩
   .rw[pu,cN,b3,hld];by_cases q1:t<i*2
    .rw[au W,ax q1,a3,au W,nO t q1]
    .rw[au q1];by_cases q2:t<i*2+q*2
     .rw[au W,ax q2,a3,ax (by rw[lv];omega)]
     .rw[ax W,au q2,fF]
      congr 1;omega
   .have hs:((w.drew.alloc (.cells An 73))).heap.size=w.heap.size+1:=by simp
    apply Array.ext_getElem?;intro k;rw[Array.getElem?_push];by_cases hk:k=w.heap.size
    .subst hk;rw[ax rfl];exact b1.heap
    .rw[au hk,b1.MN k hk];refine (a1.MN k hk).trans ?_;by_cases xV:k<w.heap.size
     .exact heap_alloc_old w.drew _ xV
     .rw[ID (by rw[hs];omega),ID W]
end Go.Proofs.YtbnkhmoelnfjoaaGreat
namespace Go.Proofs.YtbnkhmoelnfjoaaGreat
open Go.RowKit Go.bM
variable {E:Env}
def aSc (hP:E.P=Tryz.prog) (hT:E.ty=tyT) (h:E.Z4= [(182,146),(184,147),(185,88),(165,1048576),(219,1048577)]):∀k c,K8 k E.Z4=V c->L4 E k c:=λk c hc=>by
 rw[h] at hc;have hc:aT (Cz 182 k) (V 146) (K8 k _)=V c:=hc;rw[cx] at hc;split at hc
 .rename_i e;obtain rfl:=(f9 _ _).1 e;cases hc;exact ⟨λh=>absurd h (by decide),λ_ ie pi=>⟨λ_=>by rw[hT] at pi;rw[hP,show ie.size=2 from by rw[show ie=_ from (kh (pi.symm.trans (show tyT.get 73=V _ from rfl)))];kernel_rfl];exact aEq,λh=>absurd rfl h⟩⟩
 have hc:aT (Cz 184 k) (V 147) (K8 k _)=V c:=hc;rw[cx] at hc;split at hc
 .rename_i e;obtain rfl:=(f9 _ _).1 e;cases hc;exact ⟨λh=>absurd h (by decide),λ_ ie pi=>⟨λh=>absurd h (by decide),λ_=>by rw[hT] at pi;rw[hP,show ie.size=2 from by rw[show ie=_ from (kh (pi.symm.trans (show tyT.get 73=V _ from rfl)))];kernel_rfl];exact aCW⟩⟩
 have hc:aT (Cz 185 k) (V 88) (K8 k _)=V c:=hc;rw[cx] at hc;split at hc
 .rename_i e;obtain rfl:=(f9 _ _).1 e;cases hc;exact ⟨λh=>absurd h (by decide),λ_ ie pi=>⟨λ_=>by rw[hT] at pi;rw[hP,show ie.size=5 from by rw[show ie=_ from (kh (pi.symm.trans (show tyT.get 44=V _ from rfl)))];kernel_rfl];exact aEp,λh=>absurd rfl h⟩⟩
 have hc:aT (Cz 165 k) (V 1048576) (K8 k _)=V c:=hc;rw[cx] at hc;split at hc
 .rename_i e;obtain rfl:=(f9 _ _).1 e;cases hc;exact ⟨λ_=>by rw[hP];exact axH,λh=>absurd h (by decide)⟩
 have hc:aT (Cz 219 k) (V 1048577) A=V c:=hc;rw[cx] at hc;split at hc
 .rename_i e;obtain rfl:=(f9 _ _).1 e;cases hc;exact ⟨λ_=>by rw[hP];exact ajA,λh=>absurd h (by decide)⟩
 cases hc
end Go.Proofs.YtbnkhmoelnfjoaaGreat
namespace Go.Proofs.YtbnkhmoelnfjoaaGreat
open Go.bM
variable {Y pp:Type} {r:SV×ia} {pu:Prop} {s:SV} {new nZ nx K:Nat} {svs vs as':bj} {z:Int} {rest:Code} {e:Ex} {y:AV} {hY:de}
def E0:Env:=⟨Tryz.prog,tyT,aDN,[],[],[],[],[],[],[]⟩
instance:Mo E0:=⟨λk fn h=>have ⟨h1,h2,_⟩:=uS.get arA.fn k fn h;⟨h1,h2⟩⟩
def aEk (x:Int):List AV:= [.int .i64 x]
def dP (xs:List Int):List (List AV):=xs.map aEk
def axO (xs:List Int):dP xs=xs.map aEk:=rfl
def R3:RowsK aEk dP:=⟨axO⟩
structure aP where
 aB:Int
 dt:Int
 cH:ByteArray
def iF (x:aP):List AV:= [.int .i64 x.aB,.int .i64 x.dt,.str x.cH]
def cY (xs:List aP):List (List AV):=xs.map iF
def arP (xs:List aP):cY xs=xs.map iF:=rfl
def iG:RowsK iF cY:=⟨arP⟩
def att (x:(List aP)):List AV:= [.slice 38 3 (O x) (cY x)]
def je (xs:List (List aP)):List (List AV):=xs.map att
def arK (xs:List (List aP)):je xs=xs.map att:=rfl
def ke:RowsK att je:=⟨arK⟩
structure dO where
 jg:Int
 tp:Int
 aq:Int
 av:(List aP)
def aIf (x:dO):List AV:= [.int .i64 x.jg,.int .i64 x.tp,.int .i64 x.aq,.slice 38 3 (O x.av) (cY x.av)]
structure Gc where
 BD:dO
def aMP (x:Gc):List AV:= [.int .i64 x.BD.jg,.int .i64 x.BD.tp,.int .i64 x.BD.aq,.slice 38 3 (O x.BD.av) (cY x.BD.av)]
inductive pI where
 |nil
 |c32 (x:Int)
 |Im (x:Gc)
def FX:pI->AV
 | .nil=>.re
 | .c32 x=>.kN 32 (.int .i64 x)
 | .Im x=>.kN 216 (.agg (aMP x))
def yh {Y:Type} (x:pI) (a:Y) (f32:Int->Y) (f216:Gc->Y):Y:=
 match x with
 | .nil=>a
 | .c32 x=>f32 x
 | .Im x=>f216 x
def ice {x:pI} {a:G Y} {f32:Int->G Y} {f216:Gc->G Y} {r:Y} (h:yh x a f32 f216=V r) (k:x= .nil->a=V r->pu) (k32:∀y,x= .c32 y->f32 y=V r->pu) (k216:∀y,x= .Im y->f216 y=V r->pu):pu:=by
 cases x with
 |nil=>exact k rfl h
 |c32 y=>exact k32 y rfl h
 |Im y=>exact k216 y rfl h
def NI (x:Int):List AV:= [.int .u8 x]
def BW (xs:List Int):List (List AV):=xs.map NI
def abQ (xs:List Int):BW xs=xs.map NI:=rfl
def R5:RowsK NI BW:=⟨abQ⟩
structure bW where
 aK:ByteArray
 aB:Int
def LJ (x:bW):List AV:= [.str x.aK,.int .i64 x.aB]
def eY (xs:List bW):List (List AV):=xs.map LJ
def arJ (xs:List bW):eY xs=xs.map LJ:=rfl
def fI:RowsK LJ eY:=⟨arJ⟩
structure br where
 L:(List Int)
 aq:Int
def FZ (x:br):List AV:= [.slice 3 1 (O x.L) (dP x.L),.int .i64 x.aq]
def eK (xs:List br):List (List AV):=xs.map FZ
def ani (xs:List br):eK xs=xs.map FZ:=rfl
def fT:RowsK FZ eK:=⟨ani⟩
structure bP where
 aB:Int
 dw:Int
 bp:aP
def sF (x:bP):List AV:= [.int .i64 x.aB,.int .i64 x.dw,.int .i64 x.bp.aB,.int .i64 x.bp.dt,.str x.bp.cH]
def P6 (xs:List bP):List (List AV):=xs.map sF
def anm (xs:List bP):P6 xs=xs.map sF:=rfl
def YH:RowsK sF P6:=⟨anm⟩
structure aj where
 aQ:Int
 fZ:Int
 cS:bP
 cA:bP
 fArgs:(List aj)
mutual
def aaO:aj->List AV
 |⟨aQ,fZ,cS,cA,fArgs⟩=> [.int .i64 aQ,.int .i64 fZ,.int .i64 cS.aB,.int .i64 cS.dw,.int .i64 cS.bp.aB,.int .i64 cS.bp.dt,.str cS.bp.cH,.int .i64 cA.aB,.int .i64 cA.dw,.int .i64 cA.bp.aB,.int .i64 cA.bp.dt,.str cA.bp.cH,.slice 107 13 (O fArgs) (eh fArgs)]
def eh:List aj->List (List AV)
 | []=> []
 |x::xs=>aaO x::eh xs
end
def gC (x:aj):List AV:= [.int .i64 x.aQ,.int .i64 x.fZ,.int .i64 x.cS.aB,.int .i64 x.cS.dw,.int .i64 x.cS.bp.aB,.int .i64 x.cS.bp.dt,.str x.cS.bp.cH,.int .i64 x.cA.aB,.int .i64 x.cA.dw,.int .i64 x.cA.bp.aB,.int .i64 x.cA.bp.dt,.str x.cA.bp.cH,.slice 107 13 (O x.fArgs) (eh x.fArgs)]
def ats (x:aj):aaO x=gC x:=by cases x;simp[aaO,gC]
def anl (xs:List aj):eh xs=xs.map gC:=by
 induction xs with
 |nil=>simp[eh]
 |cons x xs ih=>simp[eh,ih,ats]
def fE:RowsK gC eh:=⟨anl⟩
structure ah where
 aK:ByteArray
 L:(List bW)
 av:Int
 ar:(List br)
 aM:(List aj)
def jO (x:ah):List AV:= [.str x.aK,.slice 73 2 (O x.L) (eY x.L),.int .i64 x.av,.slice 121 2 (O x.ar) (eK x.ar),.slice 107 13 (O x.aM) (eh x.aM)]
def dI (xs:List ah):List (List AV):=xs.map jO
def arN (xs:List ah):dI xs=xs.map jO:=rfl
def cy:RowsK jO dI:=⟨arN⟩
structure af where
 aC:Int
 ag:(List ah)
def cX (x:af):List AV:= [.int .i64 x.aC,.slice 44 5 (O x.ag) (dI x.ag)]
def Uu (xs:List af):List (List AV):=xs.map cX
def arQ (xs:List af):Uu xs=xs.map cX:=rfl
def DQ:RowsK cX Uu:=⟨arQ⟩
structure gU where
 f0:aP
 f1:aP
def CV (x:gU):List AV:= [.int .i64 x.f0.aB,.int .i64 x.f0.dt,.str x.f0.cH,.int .i64 x.f1.aB,.int .i64 x.f1.dt,.str x.f1.cH]
def kJ (xs:List gU):List (List AV):=xs.map CV
def ank (xs:List gU):kJ xs=xs.map CV:=rfl
def Ge:RowsK CV kJ:=⟨ank⟩
def atv (x:(List gU)):List AV:= [.slice 110 6 (O x) (kJ x)]
def I8 (xs:List (List gU)):List (List AV):=xs.map atv
def arO (xs:List (List gU)):I8 xs=xs.map atv:=rfl
def R39:RowsK atv I8:=⟨arO⟩
structure aF where
 aQ:Int
 aq:Int
 bc:Int
 kY:Int
 aK:ByteArray
 aB:Int
 bp:aP
 cg:(List gU)
 bu:ah
def oN (x:aF):List AV:= [.int .i64 x.aQ,.int .i64 x.aq,.int .i64 x.bc,.int .i64 x.kY,.str x.aK,.int .i64 x.aB,.int .i64 x.bp.aB,.int .i64 x.bp.dt,.str x.bp.cH,.slice 110 6 (O x.cg) (kJ x.cg),.str x.bu.aK,.slice 73 2 (O x.bu.L) (eY x.bu.L),.int .i64 x.bu.av,.slice 121 2 (O x.bu.ar) (eK x.bu.ar),.slice 107 13 (O x.bu.aM) (eh x.bu.aM)]
def si (xs:List aF):List (List AV):=xs.map oN
def arM (xs:List aF):si xs=xs.map oN:=rfl
def OP:RowsK oN si:=⟨arM⟩
structure aG where
 rp:(List Int)
 DL:Int
def eN (x:aG):List AV:= [.tN 5 1 (O x.rp) (BW x.rp),.int .i64 x.DL]
def atu (x:(List (List aP))):List AV:= [.slice 70 1 (O x) (je x)]
def wk (xs:List (List (List aP))):List (List AV):=xs.map atu
def arL (xs:List (List (List aP))):wk xs=xs.map atu:=rfl
def p9:RowsK atu wk:=⟨arL⟩
structure aE where
 ag:(List (List (List aP)))
def kV (x:aE):List AV:= [.slice 68 1 (O x.ag) (wk x.ag)]
structure aW where
 aQ:Int
 aq:Int
 av:(List aP)
 L:(List Int)
 cB:(List aP)
def nu (x:aW):List AV:= [.int .i64 x.aQ,.int .i64 x.aq,.slice 38 3 (O x.av) (cY x.av),.slice 3 1 (O x.L) (dP x.L),.slice 38 3 (O x.cB) (cY x.cB)]
def qS (xs:List aW):List (List AV):=xs.map nu
def anj (xs:List aW):qS xs=xs.map nu:=rfl
def rB:RowsK nu qS:=⟨anj⟩
structure cG where
 aq:Int
 jt:(List aP)
 iv:(List aP)
def lh (x:cG):List AV:= [.int .i64 x.aq,.slice 38 3 (O x.jt) (cY x.jt),.slice 38 3 (O x.iv) (cY x.iv)]
def y8 (xs:List cG):List (List AV):=xs.map lh
def ang (xs:List cG):y8 xs=xs.map lh:=rfl
def YI:RowsK lh y8:=⟨ang⟩
structure ga where
 BB:(List af)
 CT:(List aF)
def tZ (x:ga):List AV:= [.tN 25 2 (O x.BB) (Uu x.BB),.tN 46 15 (O x.CT) (si x.CT)]
structure dF where
 gd:Int
 dQ:Int
 cI:Bool
 eQ:aP
 bT:(List (List gU))
def JB (x:dF):List AV:= [.int .i64 x.gd,.int .i64 x.dQ,.bool x.cI,.int .i64 x.eQ.aB,.int .i64 x.eQ.dt,.str x.eQ.cH,.slice 39 1 (O x.bT) (I8 x.bT)]
def vH (xs:List dF):List (List AV):=xs.map JB
def anh (xs:List dF):vH xs=xs.map JB:=rfl
def NS:RowsK JB vH:=⟨anh⟩
def aju (x:Nat):List AV:= [(aTS x)]
def P5 (xs:List Nat):List (List AV):=xs.map aju
def anf (xs:List Nat):P5 xs=xs.map aju:=rfl
def OQ:RowsK aju P5:=⟨anf⟩
structure aJ where
 cf:af
 fm:aF
def FY (x:aJ):List AV:= [.int .i64 x.cf.aC,.slice 44 5 (O x.cf.ag) (dI x.cf.ag),.int .i64 x.fm.aQ,.int .i64 x.fm.aq,.int .i64 x.fm.bc,.int .i64 x.fm.kY,.str x.fm.aK,.int .i64 x.fm.aB,.int .i64 x.fm.bp.aB,.int .i64 x.fm.bp.dt,.str x.fm.bp.cH,.slice 110 6 (O x.fm.cg) (kJ x.fm.cg),.str x.fm.bu.aK,.slice 73 2 (O x.fm.bu.L) (eY x.fm.bu.L),.int .i64 x.fm.bu.av,.slice 121 2 (O x.fm.bu.ar) (eK x.fm.bu.ar),.slice 107 13 (O x.fm.bu.aM) (eh x.fm.bu.aM)]
structure nE where
 mZ:(List Int)
 oZ:(List Int)
def Ou (x:nE):List AV:= [.slice 3 1 (O x.mZ) (dP x.mZ),.slice 3 1 (O x.oZ) (dP x.oZ)]
def ajt (x:(List dF)):List AV:= [.slice 140 7 (O x) (vH x)]
structure Iq where
 f0:(List aP)
 f1:(List aP)
def aAx (x:Iq):List AV:= [.slice 38 3 (O x.f0) (cY x.f0),.slice 38 3 (O x.f1) (cY x.f1)]
structure mh where
 f0:bP
 f1:bP
def Vo (x:mh):List AV:= [.int .i64 x.f0.aB,.int .i64 x.f0.dw,.int .i64 x.f0.bp.aB,.int .i64 x.f0.bp.dt,.str x.f0.bp.cH,.int .i64 x.f1.aB,.int .i64 x.f1.dw,.int .i64 x.f1.bp.aB,.int .i64 x.f1.bp.dt,.str x.f1.bp.cH]
abbrev aN:=List Int
abbrev gM:=List gU
abbrev lJ:=List dF
abbrev dk:=List aW
abbrev aU:=List aP
abbrev bC:=List ah
abbrev gg:=List af
abbrev jX:=List cG
abbrev dr:=List bW
abbrev v8:=List bP
abbrev cj:=List aF
abbrev bR:=List br
abbrev bA:=List aj
abbrev qF:=List (List gU)
abbrev bz:=List (List aP)
abbrev dA:=List (List (List aP))
abbrev Wf0:=aN->G aN
abbrev Wf1:=xN->aG->G (xN×aG)
abbrev Wf2:=xN->Int->aG->G (xN×aG)
abbrev Wf3:=aN->Int->aG->bP->v8->G (bP×aG)
abbrev Wf4:=Int->aG->bP->v8->G (bP×aG)
abbrev Wf5:=aG->aj->aj->bA->G (aj×aG)
abbrev Wf6:=Int->G Int
abbrev Wf7:=Int->Int->dr->Int->bW->bW->Int->Bool->ah->G Bool
abbrev Wf8:=bR->Int->Int->Int->bC->Int->aN->Int->bC->Int->ah->ah->Int->af->ah->br->G Bool
abbrev Wf9:=bR->Int->Int->af->ah->G Bool
abbrev ON:=af->G Int
abbrev abc:=bC->Int->Int->af->G Int
abbrev abb:=Int->Int->af->G Int
abbrev Wf13:=ah->ah->dr->bR->G ah
abbrev aER:=aN->Int->Int->G aN
abbrev YK:=aN->aj->G aN
abbrev auG:=Int->bR->Int->Int->ah->G Bool
abbrev auF:=Int->bA->Int->Int->G Bool
abbrev auE:=aj->aj->bA->G aj
abbrev ZO:=Int->Int->Int->Int->dr->bA->ah->ah->bR->G (ah×dr×bR×bA)
abbrev Wf20:=Int->Int->dr->bA->ah->ah->bR->G (ah×dr×bR×bA)
abbrev Wf21:=dr->bA->ah->ah->bR->G (ah×dr×bR×bA)
abbrev Wf22:=gM->Int->Int->Int->gM->Int->Int->Int->Int->gM->Int->Int->gU->G Bool
abbrev Wf23:=gM->Int->Int->Int->gM->Int->Int->Int->Int->gU->G Bool
abbrev Wf24:=gM->Int->gM->Int->Int->G Bool
abbrev Wf25:=af->aF->af->af->bC->G (af×Bool)
abbrev Wf26:=Nat->aF->af->af->dr->bC->G (af×Bool)
abbrev Wf27:=af->af->bC->G (af×Bool)
abbrev Wf28:=Int->Int->af->aF->af->af->ah->dr->bA->bC->bC->ah->Nat->Nat->bR->G (af×Bool)
abbrev aEQ:=Int->Int->af->aF->af->af->bC->bC->Nat->G (af×Bool)
abbrev Wf30:=af->af->bC->bC->Nat->G (af×Bool)
abbrev aba:=Int->aG->af->cj->G (cj×aG)
abbrev Wf32:=aG->cj->G (cj×aG)
abbrev Wf33:=bC->Int->Int->bR->Int->Int->Int->bC->Int->af->ah->br->G Bool
abbrev Wf34:=bC->Int->Int->bR->Int->Int->af->ah->G Bool
abbrev auD:=bC->Int->Int->af->G Bool
abbrev Wf36:=bA->Int->Int->nE->G Bool
abbrev aEP:=Int->aU->Int->Int->ah->G Bool
abbrev YL:=aU->aU->G Int
abbrev auB:=Int->dA->Int->Int->af->G Int
abbrev Wf40:=aJ->aj->aj->bA->G aj
abbrev Wf41:=ah->ah->ah->dr->bR->G ah
abbrev Wf42:=ah->ah->dr->bA->bR->G ah
abbrev Wf43:=af->af->bC->G af
abbrev Wf44:=mh->Int->aN->aj->G (aN×aN)
abbrev Wf45:=aN->aj->G (aN×aN)
abbrev Wf46:=mh->Int->aN->aj->G aN
abbrev auA:=Nat->Int->Int->aJ->bC->ah->bR->G aJ
abbrev OM:=Int->Int->aJ->bC->G (Bool×aJ)
abbrev auz:=aJ->bC->G (Bool×aJ)
variable (B:Nat) (C:Int) (J:aN) (R:Int) (D:aG) (vQ:ah) (S:af) (aa:aN) (N:Int) (ul:List AV) (ai:xN) (ab:Int) (ad:aj) (an:Nat) (ao:aG) (al:bP) (az:AV) (bb:bR) (bg bV:Int) (bh:dr) (bi:Int) (bX:bC) (b4:Int) (aO:aN) (aR:Int) (b9:ah) (cc:G Bool) (bB:v8) (ce:aF) (ch:AV) (cu:ON) (ci:abb) (bF:Nat) (cw:bW) (co:Bool) (cp:((List bW)×(List bW))) (cz:aW) (bS cF:AV) (cK:bA) (cL cO:Int) (bU:af) (cR:List AV) (dE:bC) (dM:Int) (cr dN:ah) (cW:aJ) (db:AV) (dR:List (List AV)) (dg di dl:Nat) (dW:Int) (dm:(List Int)) (dY:bW) (d0:Tf) (d1:Hf) (dn:Nat) (d2:Wf9) (d3:Nat) (d4:Int) (d5:(List bW)) (d6:aj) (d7:LS) (d8:dr) (dp:bR) (dD d9:Int) (ea:af) (ec:bQ) (ed:Nat) (ef:Wf1) (eg:Bool) (ct:ah) (ei:iU) (ej:dk) (ek:dA) (el:bz) (em:aP) (en:Wf2) (eo:List Int) (ep:(bP×aG)) (eq:(aj×aG)) (er:(af×aG)) (et:(aP×aG)) (eu:(Int×aG)) (ew:(xN×aG)) (ex:(Bool×aG)) (ez:((List ah)×(List ah))) (eA:((List Int)×(List Int)))
abbrev auy:=Int->Int->Int->bz->G bz
abbrev Wf51:=Int->gM->Int->Int->aP->aP->G aP
abbrev aaZ:=aP->aP->G aP
abbrev aEO:=cj->Int->Int->dF->dF->qF->G dF
abbrev Wf54:=dF->dF->qF->G dF
abbrev Wf55:=aU->lJ->Int->Int->aU->G aU
abbrev auw:=aU->G aU
abbrev auv:=Int->Int->aE->aE->ga->aE->dA->G (aE×Int)
abbrev auu:=aE->aE->dA->G (aE×Int)
abbrev Wf59:=aW->aW->aW->aN->aU->aU->G (aW×Bool)
abbrev aEN:=Int->Int->aN->Int->Int->aG->aU->G (aU×aG)
abbrev Wf61:=Int->aU->aU->Bool->bz->Int->Int->dA->af->aE->aE->bz->G (aE×dA)
abbrev Wf62:=Int->aU->Bool->dA->aE->aE->bz->G (aE×dA)
abbrev aut:=Int->Int->Int->aG->af->aE->aE->dA->G (aE×aG)
abbrev Wf64:=aG->aE->aE->dA->G (aE×aG)
abbrev Wf65:=Int->aU->Int->Int->Int->Int->aG->aE->dk->aW->aU->G (dk×aG)
abbrev Wf66:=Int->Int->Int->aG->aE->dk->aW->aU->G (dk×aG)
abbrev aEM:=Int->Int->aG->aE->dk->G (dk×aG)
abbrev aus:=aG->dk->G (dk×aG)
abbrev Wf69:=Int->bC->Int->aG->af->aE->dk->aW->aN->aU->G (dk×aG)
abbrev Wf70:=Int->Int->Bool->bC->Int->aG->af->aE->dk->aW->aN->aU->G (dk×aG)
abbrev aur:=Int->aG->af->aE->dk->G (dk×aG)
abbrev auq:=dk->Int->Int->af->aE->dO->jX->G (jX×dO×Int)
abbrev Wf73:=dO->jX->G (jX×dO×Int)
abbrev Wf74:=Int->Iq->Int->af->cG->G Bool
abbrev Wf75:=bz->aU->Int->Int->af->cG->G (Int×Bool×af×cG)
abbrev aup:=Int->jX->dA->Int->Int->af->aE->aE->dA->G (aE×Int)
abbrev Wf77:=Int->jX->af->aE->aE->dA->G (aE×Int)
def bn (x:aJ) (a1:AV):List AV:= [.int .i64 x.cf.aC,a1,.int .i64 x.fm.aQ,.int .i64 x.fm.aq,.int .i64 x.fm.bc,.int .i64 x.fm.kY,.str x.fm.aK,.int .i64 x.fm.aB,.int .i64 x.fm.bp.aB,.int .i64 x.fm.bp.dt,.str x.fm.bp.cH,.slice 110 6 (O x.fm.cg) (kJ x.fm.cg),.str x.fm.bu.aK,.slice 73 2 (O x.fm.bu.L) (eY x.fm.bu.L),.int .i64 x.fm.bu.av,.slice 121 2 (O x.fm.bu.ar) (eK x.fm.bu.ar),.slice 107 13 (O x.fm.bu.aM) (eh x.fm.bu.aM)]
def bZ:List AV:= [.str vQ.aK,.undef,.int .i64 vQ.av,.slice 121 2 (O vQ.ar) (eK vQ.ar),.slice 107 13 (O vQ.aM) (eh vQ.aM)]
def fu:List AV:= [.str vQ.aK,.undef,.int .i64 vQ.av,.undef,.slice 107 13 (O vQ.aM) (eh vQ.aM)]
def fO:List AV:= [.int .i64 ad.aQ,.int .i64 ad.fZ,.int .i64 ad.cS.aB,.int .i64 ad.cS.dw,.int .i64 ad.cS.bp.aB,.int .i64 ad.cS.bp.dt,.str ad.cS.bp.cH,.int .i64 ad.cA.aB,.int .i64 ad.cA.dw,.int .i64 ad.cA.bp.aB,.int .i64 ad.cA.bp.dt,.str ad.cA.bp.cH,az]
def cP:List AV:= [.str vQ.aK,.undef,.int .i64 vQ.av,.undef,.undef]
def oE:List AV:= [.str vQ.aK,.slice 73 2 (O vQ.L) (eY vQ.L),.int .i64 vQ.av,.slice 121 2 (O vQ.ar) (eK vQ.ar),.undef]
def pt (x:dF) (a6:AV):List AV:= [.int .i64 x.gd,.int .i64 x.dQ,.bool x.cI,.int .i64 x.eQ.aB,.int .i64 x.eQ.dt,.str x.eQ.cH,a6]
def Cm:List AV:= [.str vQ.aK,.slice 73 2 (O vQ.L) (eY vQ.L),.int .i64 vQ.av,.undef,.slice 107 13 (O vQ.aM) (eh vQ.aM)]
def ug:List AV:= [.str vQ.aK,.slice 73 2 (O vQ.L) (eY vQ.L),.int .i64 vQ.av,.undef,.undef]
def fw:List AV:= [.str vQ.aK,az,.int .i64 vQ.av,ch,bS]
def zr:List AV:= [.int .i64 cz.aQ,.int .i64 cz.aq,.slice 38 3 (O cz.av) (cY cz.av),.slice 3 1 (O cz.L) (dP cz.L),bS]
def ae9 (a6 a7 a8 OL a0:AV):List AV:= [.int .i64 ce.aQ,.int .i64 ce.aq,ch,bS,cF,db,a6,a7,a8,.slice 110 6 (O ce.cg) (kJ ce.cg),OL,.slice 73 2 (O ce.bu.L) (eY ce.bu.L),a0,.slice 121 2 (O ce.bu.ar) (eK ce.bu.ar),.slice 107 13 (O ce.bu.aM) (eh ce.bu.aM)]
def ld:List AV:= [.int .i64 cz.aQ,.int .i64 cz.aq,bS,cF,db]
def DR:List AV:= [.int .i64 cz.aQ,.int .i64 cz.aq,.slice 38 3 (O cz.av) (cY cz.av),bS,cF]
def abI:List AV:= [.str vQ.aK,az,.int .i64 vQ.av,.slice 121 2 (O vQ.ar) (eK vQ.ar),.slice 107 13 (O vQ.aM) (eh vQ.aM)]
def yS:List AV:= [.str vQ.aK,.undef,.int .i64 vQ.av,.undef,az]
def yU:List AV:= [.str vQ.aK,az,.int .i64 vQ.av,.undef,.undef]
def KQ (x:dO) (a3:AV):List AV:= [.int .i64 x.jg,.int .i64 x.tp,.int .i64 x.aq,a3]
def yT:List AV:= [.str vQ.aK,.undef,.int .i64 vQ.av,az,ch]
def yV:List AV:= [.str vQ.aK,az,.int .i64 vQ.av,ch,.undef]
noncomputable section
def o9:List Sh:= [.d,.o U [.d,.d],.d,.o U [.o U [.d],.d],.o U [.d,.d,.d,.d,.d,.d,.d,.d,.d,.d,.d,.d,.d]]
def ck:AV:= .int .i64 C
def q2_:Bx:= .flat 107 [.int .i64 0,.int .i64 0,.int .i64 0,.int .i64 0,.int .i64 0,.int .i64 0,.str I',.int .i64 0,.int .i64 0,.int .i64 0,.int .i64 0,.str I',.bY]
def tP:Bx:= .flat 25 [.int .i64 S.aC,.ms an 5 0 bF]
def q4_:AV:= .int .i64 S.aC
def DE:Bx:= .tree 121 2 [.o U [.d],.d] (eK bb) []
def xx (a:aU):Bx:= .rows I 38 3 (cY a)
def q7_:List (Nat×Bx):= [(0,.flat 184 ul),(an,.tree 44 5 o9 (dI cW.cf.ag) [])]
def AL:Bx:= .tree 44 5 o9 (dI bX) []
def DD:Bx:= .rows U 3 1 (dP J)
def fW:Bx:= .flat 25 ul
def kn:Bx:= .flat 97 ul
def yu:Bx:= .rows U 73 2 (eY bh)
def H3 (h i j:Nat):Bx:= .tree 44 5 o9 dR [(dg,.ms di 13 0 dl),(dn,.ms d3 2 0 ed),(h,.ms i 2 0 j)]
def iJ:Bx:= .flat 44 ul
def Bq:Bx:= .rows I 70 1 (je el)
def Fl:Bx:= .rows U 107 13 (eh cK)
def mG:Bx:= .flat 184 ul
def Fk:Bx:= .rows U 113 5 (qS ej)
def q19_:List (Nat×Bx):= [(B,.rows U 73 2 (eY vQ.L)),(an,.tree 121 2 [.o U [.d],.d] (eK vQ.ar) []),(bF,.rows U 107 13 (eh vQ.aM))]
def Fj (a:cj):Bx:= .rows U 46 15 (si a)
def K6:Bx:= .rows U 70 1 (je el)
def HZ:Bx:= .rows I 107 13 (eh cK)
def Dh:Bx:= .rows I 3 1 (dP J)
def ll:Bx:= .flat 107 ul
def HY:Bx:= .rows U 68 1 (wk ek)
def yr:Bx:= .flat 51 [.bY]
def qZ:List AV:= [.undef,ck C]
def K5:Bx:= .rows I 113 5 (qS ej)
def ZI:List (Nat×AV):= [(B,.ms an 2 0 (O b9.L)),(bF,.ms dg 2 0 (O b9.ar)),(di,.ms dl 13 0 (O b9.aM))]
def UH:Bx:= .tree 68 1 [.o U [.d]] (wk ek) []
def Bp:Bx:= .flat 25 [q4_ S,.bY]
def UK (a:gg):Bx:= .rows U 25 2 (Uu a)
def q33_:List AV:= [.kX ul,.int .i64 cW.fm.bc]
def ZJ (c:v8):List (Nat×Bx):= [(0,kn ul),(8,.flat 105 cR),(29,.rows I 105 5 (P6 c))]
def S8:Bx:= .flat 25 [.int .i64 0,.bY]
def Ss:Bx:= .flat 51 [.ms 32 1 0 B]
def HX:List (Nat×AV):= [(0,.agg ul),(1,.agg cR)]
def S9:Bx:= .flat 182 [.loc 9000 0]
def UO:Bx:= .flat 25 [q4_ S,.ms 32 5 0 an]
def SA (a:jX):Bx:= .rows I 156 3 (y8 a)
def sS:List (Nat×Bx):= [(0,kn ul)]
def UR:List Sh:= [.o U [.d],.d]
def vK:Bx:= .flat 46 ul
def wv:Bx:= .flat 51 ul
def sR:AV:= .ms B 1 0 an
def zM:Bx:= .flat 113 ul
def zL:Bx:= .flat 156 ul
def aCs (c:qF):List (Nat×Bx):= [(6,.flat 140 ul),(7,.flat 140 cR),(44,.rows I 39 1 (I8 c))]
def US:Bx:= .tree 44 5 o9 dR [(dg,.ms di 2 0 dl)]
def ZK:AV:= .fn 198 [] [.loc 1 0]
def yq:Bx:= .flat 38 ul
def ZL:Bx:= .flat 182 [.loc 0 0]
def ZM:Bx:= .rows I 73 2 (eY bh)
def wu:AV:= .ms B 5 0 an
def UT:AV:= .fn 67 [] []
end
abbrev qC:Nat:=100001
abbrev mQ:Nat:=100003
abbrev qB:Nat:=100004
abbrev jM:Nat:=1000611
abbrev nI:Nat:=1000613
abbrev nH:Nat:=1000614
abbrev ly:Nat:=100100
abbrev zU:Nat:=100200
abbrev zS:Nat:=100201
abbrev js:Nat:=1120986464256
abbrev fX:Nat:=1138166333440
abbrev lg:Nat:=1146756268032
abbrev Fv:Nat:=1152921504607355976
abbrev Fu:Nat:=12885001891
abbrev qo:Nat:=145698175582208
abbrev bL:Nat:=200000
abbrev vi:Nat:=201001
abbrev jy:Nat:=4294967296
abbrev qm:Nat:=500009
abbrev wD:Nat:=520031
abbrev tV:Nat:=520033
abbrev cm:Nat:=520061
abbrev ql:Nat:=600601
abbrev xP:Nat:=601404
abbrev bK:Nat:=8589934592
def eB {Y:Type} {xs zs:List Y} {j:Nat} {x:Y} (h:setAt xs j x=V zs):=(py h).symm
abbrev SE:=Sc E0
def bE {Y:Type} (_:Y):List (Nat×Bx):= []
def dx {E:Env} (a b:Sc E):Sc E:=a++b
def uk {E:Env} {ro:Bool} {f:Nat} {bs ds:List (Nat×Bx)} {xs:List AV} {y:AV} (h:kM ro E f bs xs y ds):It E:=.call h [] []
def aD {a b:Bool} (h:a=b):Nat×It E0:=(0,eb h)
def aX {a b:Bool} (h:a=b):Nat×It E0:=(1,eb h)
def aS {a b:Bool} (h:a=b):Nat×It E0:=(2,eb h)
def aZ {a b:Bool} (h:a=b):Nat×It E0:=(3,eb h)
def bl {a b:Bool} (h:a=b):Nat×It E0:=(4,eb h)
def bN {a b:Bool} (h:a=b):Nat×It E0:=(5,eb h)
def dz {a b:Bool} (h:a=b):Nat×It E0:=(6,eb h)
def hI {a b:Bool} (h:a=b):Nat×It E0:=(7,eb h)
def iO {a b:Bool} (h:a=b):Nat×It E0:=(8,eb h)
def LL {a b:Bool} (h:a=b):Nat×It E0:=(9,eb h)
def kj {ro:Bool} {f:Nat} {bs ds:List (Nat×Bx)} {xs:List AV} {y:AV} (h:kM ro E0 f bs xs y ds):Nat×It E0:=(0,uk h)
def rJ {ro:Bool} {f:Nat} {bs ds:List (Nat×Bx)} {xs:List AV} {y:AV} (h:kM ro E0 f bs xs y ds):Nat×It E0:=(1,uk h)
def jl {ro:Bool} {f:Nat} {bs ds:List (Nat×Bx)} {xs:List AV} {y:AV} (h:kM ro E0 f bs xs y ds):Nat×It E0:=(2,uk h)
def jN {ro:Bool} {f:Nat} {bs ds:List (Nat×Bx)} {xs:List AV} {y:AV} (h:kM ro E0 f bs xs y ds):Nat×It E0:=(3,uk h)
def lY {ro:Bool} {f:Nat} {bs ds:List (Nat×Bx)} {xs:List AV} {y:AV} (h:kM ro E0 f bs xs y ds):Nat×It E0:=(4,uk h)
def lX {ro:Bool} {f:Nat} {bs ds:List (Nat×Bx)} {xs:List AV} {y:AV} (h:kM ro E0 f bs xs y ds):Nat×It E0:=(5,uk h)
def vU {ro:Bool} {f:Nat} {bs ds:List (Nat×Bx)} {xs:List AV} {y:AV} (h:kM ro E0 f bs xs y ds):Nat×It E0:=(6,uk h)
def uI {ro:Bool} {f:Nat} {bs ds:List (Nat×Bx)} {xs:List AV} {y:AV} (h:kM ro E0 f bs xs y ds):Nat×It E0:=(7,uk h)
def adB {ro:Bool} {f:Nat} {bs ds:List (Nat×Bx)} {xs:List AV} {y:AV} (h:kM ro E0 f bs xs y ds):Nat×It E0:=(8,uk h)
abbrev pr:aP:=aP.mk 0 0 I'
abbrev zTO:bP:=bP.mk 0 0 pr
abbrev s8:aj:=aj.mk 0 0 zTO zTO []
def aV:Nat×AV:=(B,.loc B 0)
def uu:Nat->List AV->List AV
 |0,l=>l
 |n+1,l=>.bool I::uu n l
def iI:AV:=.int .i64 C
def bnG_:Nat->Nat->List Nat->List Nat
 |0,_,l=>l
 |k+1,n,l=>cond (D' n 1) l (bnG_ k (n/2) (n%2::l))
def aI:List Nat:=bnG_ 64 B []
def aMt (r:(List Int)):AV:=.dh []
def aKg:List (Nat×Bx):= [(0,.rows U 3 1 (dP dm))]
def C165:=Cx E0 165 aMt aKg
def aJC:LS:=⟨[(0,.ms 0 1 0 (O dm))],[(0,.rows U 3 1 (dP dm))]⟩
def aMs:AV:=.ms 0 2 0 (O cp.2)
def aKf:List (Nat×Bx):= [(0,.rows U 73 2 (eY cp.2))]
def C182:=Cx E0 182 aMs aKf
def aJz:LS:=⟨[(0,.ms 0 2 0 (O d5)),(1,.int .i64 dD),(2,.int .i64 d9)],[(0,.rows U 73 2 (eY d5))]⟩
def aMr:AV:=.ms 4294967296 2 0 (O cp.2)
def aKe:List (Nat×Bx):= [(4294967296,.rows U 73 2 (eY cp.2))]
def C184:=CxS E0 184 [2] aMr aKe
def aJy (a2_:(List bW)):LS:=⟨[(0,.ms 4294967296 2 0 (O d5)),(1,.int .i64 dD),(2,.ms 2 2 0 (O a2_))],[(2,.rows U 73 2 (eY a2_)),(4294967296,.rows U 73 2 (eY d5))]⟩
def aMq:AV:=.ms 0 5 0 (O ez.2)
def aKd:List (Nat×Bx):= [(0,.tree 44 5 [.d,.o U [.d,.d],.d,.o U [.o U [.d],.d],.o U [.d,.d,.d,.d,.d,.d,.d,.d,.d,.d,.d,.d,.d]] (dI ez.2) [])]
def C185:=Cx E0 185 aMq aKd
def aJx (aa9:(List ah)) (a1_:Int) (a2_:Int):LS:=⟨[(0,.ms 0 5 0 (O aa9)),(1,.int .i64 a1_),(2,.int .i64 a2_)],[(0,.tree 44 5 [.d,.o U [.d,.d],.d,.o U [.o U [.d],.d],.o U [.d,.d,.d,.d,.d,.d,.d,.d,.d,.d,.d,.d,.d]] (dI aa9) [])]⟩
def ahF:AV:=.int .i64 C
def aKc (r:Int):List (Nat×Bx):= []
def C203:=Cx E0 203 ahF aKc
def aJv (a1_:xN):LS:=⟨[(0,.str ai),(1,.str a1_)],[]⟩
def aMp:AV:=.ms 0 1 0 (O eA.2)
def aKb:List (Nat×Bx):= [(0,.rows U 3 1 (dP eA.2))]
def C219:=Cx E0 219 aMp aKb
def aJt:LS:=⟨[(0,.ms 0 1 0 (O dm))],[(0,.rows U 3 1 (dP dm))]⟩
def YD (_n:Nat) (a b:xN):G Int:=V (Hn a.data.toList b.data.toList)
def pk0:∀k c,K8 k [(182,146),(184,147),(185,88),(165,1048576),(219,1048577)]=V c->L4 E0 k c:=aSc (E:=⟨Tryz.prog,tyT,aDN,[],[],[],[],[(182,146),(184,147),(185,88),(165,1048576),(219,1048577)],[],[]⟩) rfl rfl rfl
def aTd:KK C203 aJv (YD B):=λa b r h=>by
 have e:=kh h;subst e;show iE E0 203 [] [.str a,.str b] (ahF (Hn a.data.toList b.data.toList)) [];rw[show ahF (Hn a.data.toList b.data.toList)= .int .i64 (OD a b) from bH (AV.int .i64) (aci a b)];have hz:Jg Tryz.f203=U:=by kernel_rfl
 let ⟨_,_,h3⟩:=uS.get arA.fn 203 Tryz.f203 bv
 rcases h3 with h3|⟨h1,h2⟩
 .exact absurd (show Jg Tryz.f203=I from h3) (by rw[hz];exact nY)
 exact iE.cmp (fn:=Tryz.f203) Tryz.func203 bv bv h1 h2
def Ub {Y:Type} (s:List Y) (i j:Int):G (List Y×List Y):=ite (0<=i/\i<j/\j<=O s) (V (s.take i.toNat++s.drop j.toNat,s.take i.toNat++s.drop j.toNat)) A
def R8 {Y:Type} (s:List Y) (i:Int) (v:List Y):G (List Y×List Y):=ite (0<=i/\i<=O s/\0<O s/\0<O v/\O s<=1000000/\O v<=1000000) (V (s.take i.toNat++v++s.drop i.toNat,s.take i.toNat++v++s.drop i.toNat)) A
def ach {s:List Y} {i j:Int} {r:List Y×List Y} (h:Ub s i j=V r):∃a b:Nat,i=a/\j=b/\a<b/\b<=O s/\r=(s.take a++s.drop b,s.take a++s.drop b)/\O (s.take a++s.drop b)=O s-(b-a):=by
 unfold Ub at h;split at h
 .rename_i c;refine ⟨i.toNat,j.toNat,W,W,W,W,(kh h).symm,?_⟩
  simp;omega
 .cases h
def aAk {s v:List Y} {i:Int} {r:List Y×List Y} (h:R8 s i v=V r):∃a:Nat,i=a/\a<=O s/\0<O s/\0<O v/\O s<=1000000/\O v<=1000000/\r=(s.take a++v++s.drop a,s.take a++v++s.drop a)/\O (s.take a++v++s.drop a)=O s+O v:=by
 unfold R8 at h;split at h
 .rename_i c;refine ⟨i.toNat,W,W,W,W,W,W,(kh h).symm,?_⟩
  simp;omega
 .cases h
def K3 (_n:Nat) (xs:List Int):G (List Int):=ite (O xs<=4294967295) (V (dJ xs)) A
def aTn:KK C165 aJC (K3 B):=λxs r h=>by
 unfold K3 at h;split at h
 .rename_i c;cases h;exact iE.ints (E:=E0) (k:=165) (c:=1048576) (z:=I) (e:=3) (xs:=xs) (pk0 165 1048576 bv) bv bv rfl c
 .cases h
def Ln (_n:Nat) (xs:List Int):G (List Int×List Int):=ite (O xs<=4294967295) (V (mO xs,mO xs)) A
def aSZ:KK C219 aJt (Ln B):=λxs r h=>by
 unfold Ln at h;split at h
 .rename_i c;cases h;exact iE.ints (E:=E0) (k:=219) (c:=1048577) (z:=U) (e:=3) (xs:=xs) (pk0 219 1048577 bv) bv bv rfl c
 .cases h
def LU (_n:Nat) (s:List bW) (i j:Int):G (List bW×List bW):=Ub s i j
def aHz:KK C182 aJz (LU B):=λs i j r h=>by
 obtain ⟨a,b,rfl,rfl,h1,h2,rfl,hl⟩:=ach h;have key:=iE.del (E:=E0) (k:=182) (c:=146) (sz:=2) (e:=73) (l:= []) (n:=O s) (Q:=eY s) (pk0 182 146 bv) (h9:=bv) (h0:=bv) (h1:=bv) (pi:=rfl) (hs:=bv) (hn:=fI.len s) h1 h2
 rw[<-hl] at key;have e:(eY s).take a++(eY s).drop b=eY (s.take a++s.drop b):=by simp[eY,uY,zp]
 rw[e] at key;exact key
def aFe (_n:Nat) (s:List ah) (i j:Int):G (List ah×List ah):=Ub s i j
def aTj:KK C185 aJx (aFe B):=λs i j r h=>by
 obtain ⟨a,b,rfl,rfl,h1,h2,rfl,hl⟩:=ach h;have key:=iE.del (E:=E0) (k:=185) (c:=88) (sz:=5) (e:=44) (n:=O s) (Q:=dI s) (l:= [.d,.o U [.d,.d],.d,.o U [.o U [.d],.d],.o U [.d,.d,.d,.d,.d,.d,.d,.d,.d,.d,.d,.d,.d]]) (pk0 185 88 bv) (h9:=bv) (h0:=bv) (h1:=bv) (pi:=rfl) (hs:=bv) (hn:=cy.len s) h1 h2
 rw[<-hl] at key;have e:(dI s).take a++(dI s).drop b=dI (s.take a++s.drop b):=by simp[dI,uY,zp]
 rw[e] at key;exact key
def aFf (_n:Nat) (s:List bW) (i:Int) (v:List bW):G (List bW×List bW):=R8 s i v
def aTk:KK C184 aJy (aFf B):=λs i v r h=>by
 obtain ⟨a,rfl,h1,h2,h3,h4,h5,rfl,hl⟩:=aAk h;have key:=iE.ins (E:=E0) (k:=184) (c:=147) (sz:=2) (e:=73) (e2:=73) (z:=U) (n:=O s) (q:=O v) (Q:=eY s) (or:=eY v) (pk0 184 147 bv) (h9:=bv) (h0:=bv) (h1:=bv) (pi:=rfl) (hs:=bv) (hn:=fI.len s) (hq:=fI.len v) h1 h2 h3 h4 h5
 rw[<-hl] at key;have e:(eY s).take a++eY v++(eY s).drop a=eY (s.take a++v++s.drop a):=by simp[eY,uY,zp]
 rw[e] at key;exact key
section
def rC (i6:fD) (i:Nat) (d:cC) (op:Op):Prop:=∃o,i6[i]? =V o/\o.dst=d/\o.op=op/\o.guard=A
section
variable {E:Env} {nt:Nat} {m m':MS} {i6:fD} {i:Nat} {d:cC} {op:Op} {v:SV} {us:ia}
def rC.go (h:rC i6 i d op) (hd:ot nt d=I) (ho:vf E op m.T m.H new=V (v,us)) (hH:m.H new=A) (h1:m.nx<=new) (h2:us≠ []->new<nZ) (h3:m.nx<=nZ) (k:mj E nt i6 (i+1) ⟨eE m.T d v,iH m.H us,nZ⟩ m'):mj E nt i6 i m m':=by
 obtain ⟨o,a1,rfl,rfl,a4⟩:=h;exact mj.cons a1 (rM.op a1 (by unfold kI;rw[a4]) hd ho hH h3) (λx hx=>by have hx:x=new:=hx;omega) (λx hx=>by
  let ⟨hx,hu⟩:=(show x=new/\us≠ [] from hx);have:=h2 hu;exact ⟨W,by show x<nZ;omega⟩) k
def rC.go0 (h:rC i6 i d op) (hd:ot nt d=I) (ho:vf E op m.T m.H m.nx=V (v,[])) (hH:m.H m.nx=A) (k:mj E nt i6 (i+1) ⟨eE m.T d v,m.H,m.nx⟩ m'):mj E nt i6 i m m':=
 h.go hd ho hH (cM _) (λh=>absurd rfl h) (cM _) k
def vI (h:i6.size=i):mj E nt i6 i m m:=h ▸ mj.nil
def acd:∀{es:iU} {e:SV×SV×Nat},e∈es->(es.map (·.2.2)).Nodup->Hj e.2.2 es=V (.dh [e.1,e.2.1])
 | [],_,h,_=>by cases h
 |x::es,e,h,nd=>by
  rw[j2,qV] at nd;unfold Hj;rw[cx];rcases cU.1 h with rfl|h
  .rw[ax ((f9 _ _).2 rfl)]
  .rw[au λhb=>nd.1 (by rw[(f9 _ _).1 hb];exact IH h)]
   exact acd h nd.2
def aat:∀(l:bQ) (b:Nat),Qj (l++ [b])=V b
 | [],_=>rfl
 | [_],_=>rfl
 |_::y::l,b=>aat (y::l) b
def abW:∀{l:iU} {e:SV×SV×Nat},e∈l->(l.map (·.2.2)).Nodup->l.Perm (e::l.filter λx=>A' (x.2.2≠e.2.2))
 | [],_,h,_=>by cases h
 |x::l,e,h,nd=>by
  rw[j2,qV] at nd;rcases cU.1 h with rfl|h
  .rw[mD,au am]
   refine .cons _ (.of_eq (IG.2 λy hy=> ?_).symm)
   simp only[lB];exact λe=>nd.1 (e ▸ IH hy)
  .rw[mD,ax (by simp only[lB];exact λe2=>nd.1 (e2 ▸ IH h))]
   exact ((abW h nd.2).cons x).trans (.swap _ _ _)
def asq:rH (ec++ [ed]) ei=(rH ec ei).filter λx=>A' (x.2.2≠ed):=by
 unfold rH;rw[List.filter_filter];refine T7 λx _=> ?_
 rw[oS];simp only[T6,bI,lB,<-afD,ajs,fk,gy];exact ⟨λh=>⟨λe=>h (.inr e),λe=>h (.inl e)⟩,λh e=>e.elim h.2 h.1⟩
end
def CD (c:Code):fD:=match c with| .region _ o _=>o|_=> #[]
def Ds:Nat->SV
 |0=>.bY
 |k+1=>.sl (B+2*(k+1)) 0 (k+1) (.u 3)
def Tq (c it:gq):Tf:=λx=>ite (x=14) c (ite (x=86) it (ite (x=15\/(84<x/\x<97)) A (d0 x)))
def Hq (it:G SO) (k:Nat) (svs:bj):Hf:=λx=>ite (x=dn) it (ite (x=dn+2*k/\0<k) (V (.cells 3 svs)) (ite (dn<=x) A (d1 x)))
section
variable (T:Tf) (H:Hf) (b ji cl:Nat)
def mq (ei:iU):MS:=⟨Tq T (V (Ds b (O ei))) (V (.ptr b 0)),Hq H b (V (.mapIter (V ji) cl (ei.map (·.2.2)) cl)) (O ei) (ei.map (·.1)),b+2*O ei+1⟩
end
variable {T T' T2:Tf} {H H':Hf} {b ji cl k n:Nat} {gT ms:iU} {c it:gq} {x v:SV} {xs:bj}
def ade (a0:T2 14=c) (a3:it≠A->T2 86=it) (h:∀x,x≠14->x≠86->x≠15->(x<=84\/97<=x)->T2 x=T x):∀x v,Tq T c it x=V v->T2 x=V v:=λx v hv=>by
 unfold Tq at hv;split at hv
 .rename_i e;rw[e,a0];exact hv
 split at hv
 .rename_i e;rw[e,a3 (by rw[hv];simp)];exact hv
 split at hv
 .cases hv
 .rename_i e1 e2 e3;rw[h x e1 e2 W W];exact hv
def aHh (hb:∀x,b<=x->H x=A) {it:G SO}:∀x,b+2*k+1<=x->Hq H b it k svs x=A:=λx hx=>by
 unfold Hq;rw[au W,au W,ax W]
def aFV:Op:=.call {callee:=.builtin .append,args:= #[.tmp 91,.tmp 93],argTypes:= #[102,102]}
def i102:TI:=(tyT.get 102).getD default
def i3:TI:=(tyT.get 3).getD default
def aDL:E0.ty.get 102=V i102:=bv
def g3:E0.ty.get 3=V i3:=bv
def s102:px i102.desc=V 3:=bv
def r102:Bn i102.desc=I:=bv
def e3:nv i3=I:=bv
def z3:i3.size=1:=bv
def z0:i3.zero= [.int .i64 (.lit 0)]:=bv
def aRl {n1:Nat} (h1:T' 91=V s) (h2:T' 93=V (.sl n1 0 1 (.k 1))) (h3:H' n1=V (.cells 3 [x])) (h4:sK s H' new 3 1 1 [x]=V r):vf E0 aFV T' H' new=V r:=by
 show aA (gN T' [.tmp 91,.tmp 93]) (λl=>oF E0 H' new .append l [102,102])=_
 rw[show gN T' [.tmp 91,.tmp 93]=V [s,.sl n1 0 1 (.k 1)] from by show cq (T' 91) (cq (T' 93) (V []) λv l=>V (v::l)) (λv l=>V (v::l))=_;rw[h1,h2];rfl]
 show aA (E0.ty.get 102) (λi=>aT (Bn i.desc) (nD E0 H' new 102 s (.sl n1 0 1 (.k 1))) A)=_
 rw[fM aDL,r102];show aA (E0.ty.get 102) (λi=>aA (px i.desc) λe=>QC E0 H' new e s (.sl n1 0 1 (.k 1)))=_
 rw[fM aDL,fM s102];show aA (E0.ty.get 3) (λie=>aT (nv ie) (aA (pP H' ie.size (.sl n1 0 1 (.k 1))) λq=>aT (D' q.1 1000000) (aT (Cz q.1 0) (aT (NT s) (V (s,[])) A) (sK s H' new 3 ie.size q.1 q.2)) A) A)=_
 rw[fM g3,e3,z3];have e:pP H' 1 (.sl n1 0 1 (.k 1))=V (1,[x]):=by
  show cq (V 1) (aA (jD (H' n1) 0 (N' 1 1)) λp=>aT (D' (E' 0 (N' 1 1)) (O p.2)) (V ((p.2.drop 0).take (N' 1 1))) A) (λn xs=>V (n,xs))=_
  rw[h3];rfl
 show aA (pP H' 1 (.sl n1 0 1 (.k 1))) (λq=>aT (D' q.1 1000000) (aT (Cz q.1 0) (aT (NT s) (V (s,[])) A) (sK s H' new 3 1 q.1 q.2)) A)=_
 rw[fM e];exact h4
def aKW (hk:k<=1000000) (hl:O xs=k) (h:0<k->H' (b+2*k)=V (.cells 3 xs)):sK (Ds b k) H' new 3 1 1 [x]=V (.sl new 0 (k+1) (.u 3),(if k=0 then [] else [(b+2*k,A)])++ [(new,V (.cells 3 (xs++ [x])))]):=by
 cases k with
 |zero=>rw[qg.1 hl];rfl
 |succ k=>
  have h:=h (Nat.succ_pos k);show aT (D' (k+1) 1000000) (cq (ny (H' (b+2*(k+1)))) (lx H' (b+2*(k+1)) 0 (N' (k+1) 1)) λp old=>aT (D' (E' 0 (N' (k+1) 1)) (O p.2)&&Cz 3 p.1) (D1 new 3 (E' (k+1) 1) (old++ [x]) [(b+2*(k+1),A)]) A) A=_
  have hb:D' (E' 0 (N' (k+1) 1)) (O xs)=I:=(bO _ _).2 (by show 0+(k+1)*1<=_;omega)
  have e:lx H' (b+2*(k+1)) 0 (N' (k+1) 1)=V xs:=by
   show aA (jD (H' (b+2*(k+1))) 0 (N' (k+1) 1)) (λp=>aT (D' (E' 0 (N' (k+1) 1)) (O p.2)) (V ((p.2.drop 0).take (N' (k+1) 1))) A)=_
   rw[h];show aT (D' (E' 0 (N' (k+1) 1)) (O xs)) (V ((xs.drop 0).take (N' (k+1) 1))) A=_;rw[hb,oQ,jc (by show _<=(k+1)*1;omega)]
  rw[(bO _ _).2 hk,e,h];show aT (D' (E' 0 (N' (k+1) 1)) (O xs)&&Cz 3 3) _ A=_;rw[hb];rfl
def aAI (h:T' 92=V (.int .i64 (.lit z))):vf E0 (.buildSlice 102 1 #[(0,.tmp 92)]) T' H' new=V (.sl new 0 1 (.k 1),[(new,V (.cells 3 [.int .i64 (.lit z)]))]):=by
 show aA (aA (T' 92) λv=>cq v.cells (V []) λcs l=>V ((0,cs)::l)) (λjH=>rb E0 new 102 1 jH)=_
 rw[h];show rb E0 new 102 1 [(0,[.int .i64 (.lit z)])]=_;unfold rb;rw[fM aDL,fM s102,fM g3,e3,z3,z0];rfl
def JF:Code:=Tryz.f74.body.getD .skip
def DC:bQ:=Va 9 1
def rg:fD:=CD (sO JF (ec++DC))
def Yc:Code:=.seq (.region 25 (rg [0,0,0,1,0,1]) U) (.seq (.cond (.tmp 88) .skip (.exit 2)) (.block 3 (.seq (.region 26 (rg [0,0,1,1,0,0,1,0,1]) U) (.region 27 (rg [1,0,1,1,0,0,1,0,1]) U))))
def aMW:sO JF DC= .seq (.region 23 (rg [0]) U) (.seq (.seq (.region 24 (rg [0,0,1]) U) (.block 2 (.loop Yc))) (.seq (.region 28 (rg [0,1,1]) U) (sO JF ([1,1,1]++DC)))):=bv
def aSp:rC (rg [0]) 0 (V 14) (.assign (.const (.slice A 0 0))):=⟨(rg [0])[0]!,bv,bv,bv,bv⟩
def aSo:rC (rg [0,0,1]) 0 (V 85) (.move (.tmp 9)):=⟨(rg [0,0,1])[0]!,bv,bv,bv,bv⟩
def aSn:rC (rg [0,0,1]) 1 (V 86) (.range 210 (.tmp 85)):=⟨(rg [0,0,1])[1]!,bv,bv,bv,bv⟩
def aSm:rC (rg [0,0,0,1,0,1]) 0 (V 87) (.next (.tmp 86) U):=⟨(rg [0,0,0,1,0,1])[0]!,bv,bv,bv,bv⟩
def aFY:rC (rg [0,0,0,1,0,1]) 1 (V 88) (.extract (.tmp 87) 0):=⟨(rg [0,0,0,1,0,1])[1]!,bv,bv,bv,bv⟩
def aSl:rC (rg [0,0,1,1,0,0,1,0,1]) 0 (V 89) (.entry (.tmp 86)):=⟨(rg [0,0,1,1,0,0,1,0,1])[0]!,bv,bv,bv,bv⟩
def aSk:rC (rg [0,0,1,1,0,0,1,0,1]) 1 (V 90) (.extract (.tmp 89) 0):=⟨(rg [0,0,1,1,0,0,1,0,1])[1]!,bv,bv,bv,bv⟩
def aSj:rC (rg [0,0,1,1,0,0,1,0,1]) 2 (V 15) (.assign (.tmp 90)):=⟨(rg [0,0,1,1,0,0,1,0,1])[2]!,bv,bv,bv,bv⟩
def aSi:rC (rg [1,0,1,1,0,0,1,0,1]) 0 (V 91) (.move (.tmp 14)):=⟨(rg [1,0,1,1,0,0,1,0,1])[0]!,bv,bv,bv,bv⟩
def aSh:rC (rg [1,0,1,1,0,0,1,0,1]) 1 (V 92) (.move (.tmp 15)):=⟨(rg [1,0,1,1,0,0,1,0,1])[1]!,bv,bv,bv,bv⟩
def aSg:rC (rg [1,0,1,1,0,0,1,0,1]) 2 (V 93) (.buildSlice 102 1 #[(0,.tmp 92)]):=⟨(rg [1,0,1,1,0,0,1,0,1])[2]!,bv,bv,bv,bv⟩
def aSf:rC (rg [1,0,1,1,0,0,1,0,1]) 3 (V 94) aFV:=⟨(rg [1,0,1,1,0,0,1,0,1])[3]!,bv,bv,bv,bv⟩
def aSe:rC (rg [1,0,1,1,0,0,1,0,1]) 4 (V 14) (.assign (.tmp 94)):=⟨(rg [1,0,1,1,0,0,1,0,1])[4]!,bv,bv,bv,bv⟩
abbrev wS:Nat:=Tryz.f74.ntmps
section
variable {i:Nat} {o:cC} {m m':MS} {i6:fD} {d:Nat}
def rC.mv {x:Nat} (h:rC i6 i (V d) (.move (.tmp x))) (hd:ot wS (V d)=I) (hv:m.T x=V v) (hH:m.H m.nx=A) (k:mj E0 wS i6 (i+1) ⟨eE m.T (V d) v,m.H,m.nx⟩ m'):mj E0 wS i6 i m m':=
 h.go0 hd (show aA (m.T x) (λv=>V (v,[]))=_ by rw[hv];rfl) hH k
def rC.asg {x:Nat} (h:rC i6 i (V d) (.assign (.tmp x))) (hd:ot wS (V d)=I) (hv:m.T x=V v) (hH:m.H m.nx=A) (k:mj E0 wS i6 (i+1) ⟨eE m.T (V d) v,m.H,m.nx⟩ m'):mj E0 wS i6 i m m':=
 h.go0 hd (show aA (m.T x) (λv=>V (v,[]))=_ by rw[hv];rfl) hH k
def rC.ext {x:Nat} (h:rC i6 i (V d) (.extract (.tmp x) 0)) (hd:ot wS (V d)=I) (hv:m.T x=V (.dh (v::vs))) (hH:m.H m.nx=A) (k:mj E0 wS i6 (i+1) ⟨eE m.T (V d) v,m.H,m.nx⟩ m'):mj E0 wS i6 i m m':=
 h.go0 hd (show aA (m.T x) (λv=>aA (Ua v) λvs=>same (vs[0]?))=_ by rw[hv];rfl) hH k
def rC.Ad {x iid:Nat} (h:rC i6 i (V d) (.entry (.tmp x))) (hd:ot wS (V d)=I) (hx:m.T x=V (.ptr iid 0)) (hv:Ot m.H iid=V v) (k:mj E0 wS i6 (i+1) ⟨eE m.T (V d) v,m.H,m.nx⟩ m'):mj E0 wS i6 i m m':=by
 let ⟨o,a1,a2,a3,a4⟩:=h;rw[<-a2] at hd k;exact rM.entry a1 a3 (by unfold kI;rw[a4]) hd hx hv k
end
def j6 {T:Tf} {d x:Nat} (h:d≠x):eE T (V d) v x=T x:=by unfold eE;rw[au (λe=>h (kh e))]
def ayK (OU:ji<b) (hm:H ji=V (.map ms cl)) (hw:BM ms cl) (B6:∀e∈ms,∃z:Int,e.1= .int .i64 (.lit z)) (hb:∀x,b<=x->H x=A) (hl:O gT<=1000000):
  mT E0 wS Yc (mq T H b ji cl gT) λe m'=>(e= .normal/\∃x∈rH (gT.map (·.2.2)) ms,m'=mq T H b ji cl (gT++ [x]))\/(e= .exit 2/\rH (gT.map (·.2.2)) ms= []/\m'=mq T H b ji cl gT):=by
 let m0:=mq T H b ji cl gT;let mA:=λx:SV×SV×Nat=>(⟨eE (eE m0.T (V 87) (.dh [.bool I,x.1,x.2.1])) (V 88) (.bool I),jG m0.H (b,V (.mapIter (V ji) cl (gT.map (·.2.2)++ [x.2.2]) cl)),m0.nx⟩:MS)
 let mB:MS:=⟨eE (eE m0.T (V 87) (.dh [.bool U])) (V 88) (.bool U),m0.H,m0.nx⟩;have nr:∀x,m0.nx<=x->m0.H x=A:=aHh hb;have Oe:∀{o:G SO} x,m0.nx<=x->jG m0.H (b,o) x=A:=λ{o} x hx=>by
  show (if x=b then o else m0.H x)=A
  rw[au (by have:b+2*O gT+1<=x:=hx;omega)]
  exact nr x hx
 have h86:m0.T 86=V (.ptr b 0):=rfl;have jA:m0.H b=V (.mapIter (V ji) cl (gT.map (·.2.2)) cl):=ax rfl
 have hmm:m0.H ji=V (.map ms cl):=by
  show Hq H b _ _ _ ji=_;unfold Hq;rw[au W,au W,au W]
  exact hm
 have hit:iterM cl (gT.map (·.2.2)) cl cl ms=I:=by
  unfold iterM;rw[bI];exact ⟨jR.2 λe he=>(bO _ _).2 (hw.1 _ (IH he)),(bO _ _).2 (cM _)⟩
 let ⟨o,p1,p2,p3,p4⟩:=aSm;refine mT.seq (P1:=λe m1=>e= .normal/\((∃x∈rH (gT.map (·.2.2)) ms,m1=mA x)\/(rH (gT.map (·.2.2)) ms= []/\m1=mB))) (mT.next p1 p3 (by unfold kI;rw[p4]) (by rw[p2];kernel_rfl) h86 jA hmm hit (λhn=>⟨mB,?_,rfl,.inr ⟨hn,rfl⟩⟩) λx hx=>⟨mA x,?_,rfl,.inl ⟨x,hx,rfl⟩⟩) λe m1 ⟨he,h⟩=>.inl ⟨he,?_⟩
 .rw[p2];exact aFY.ext bv (v:=.bool U) (vs:= []) rfl (nr _ (cM _)) (vI bv)
 .rw[p2];exact aFY.ext bv (v:=.bool I) (vs:= [x.1,x.2.1]) rfl (Oe _ (cM _)) (vI bv)
 rcases h with ⟨x,hx,rfl⟩|⟨hn,rfl⟩
 .have hxm:x∈ms:=(uX.1 hx).1;let ⟨z,hz⟩:=B6 x hxm;have aDz:Ot (mA x).H b=V (.dh [x.1,x.2.1]):=by
   unfold Ot;rw[show (mA x).H b=V (.mapIter (V ji) cl (gT.map (·.2.2)++ [x.2.2]) cl) from ax rfl]
   show (match (mA x).H ji with
    |some (.map es c)=>aT (Cz c cl) (aA (Qj ((gT.map λ(y:SV×SV×Nat)=>y.2.2)++ [x.2.2])) λb=>Hj b es) A
    |_=>A)=_
   rw[show (mA x).H ji=V (.map ms cl) from (au (show ¬ji=b by omega)).trans hmm]
   show aT (Cz cl cl) (aA (Qj ((gT.map λ(y:SV×SV×Nat)=>y.2.2)++ [x.2.2])) λb=>Hj b ms) A=_
   rw[(f9 _ _).2 rfl,aat];exact acd hxm hw.2
  let n0:=m0.nx;let m1:MS:=⟨eE (eE (eE (mA x).T (V 89) (.dh [x.1,x.2.1])) (V 90) x.1) (V 15) x.1,(mA x).H,n0⟩;let T2:=eE (eE m1.T (V 91) (Ds b (O gT))) (V 92) x.1;let H2:=iH (mA x).H [(n0,V (.cells 3 [x.1]))];let us:ia:=(if O gT=0 then [] else [(b+2*O gT,A)])++ [(n0+1,V (.cells 3 (gT.map (·.1)++ [x.1])))]
  let c':SV:=.sl (n0+1) 0 (O gT+1) (.u 3);let m2:MS:=⟨eE (eE (eE T2 (V 93) (.sl n0 0 1 (.k 1))) (V 94) c') (V 14) c',iH H2 us,n0+2⟩;have h26:mj E0 wS (rg [0,0,1,1,0,0,1,0,1]) 0 (mA x) m1:=
   aSl.Ad bv (iid:=b) rfl aDz<|
   aSk.ext bv (v:=x.1) (vs:= [x.2.1]) rfl (Oe _ (cM _))<|
   aSj.asg bv (v:=x.1) rfl (Oe _ (cM _)) (vI bv)
  have mK:∀y,iH H2 us y=if y=n0+1 then V (.cells 3 (gT.map (·.1)++ [x.1])) else if 0<O gT/\y=b+2*O gT then A else H2 y:=λy=>by
   show iH H2 ((if O gT=0 then [] else [(b+2*O gT,A)])++ [(n0+1,V (.cells 3 (gT.map (·.1)++ [x.1])))]) y=_
   by_cases h0:O gT=0
   .rw[ax h0];show (if y=n0+1 then _ else H2 y)=_
    split
    .rfl
    .rw[au W]
   .rw[au h0];show (if y=n0+1 then _ else if y=b+2*O gT then A else H2 y)=_
    split
    .rfl
    .by_cases h1:y=b+2*O gT
     .rw[ax h1,ax ⟨W,h1⟩]
     .rw[au h1,au W]
  have hH2:H2 (n0+1)=A:=by
   show (if n0+1=n0 then _ else (mA x).H (n0+1))=A
   rw[au W]
   exact Oe _ (qU _)
  have h27:mj E0 wS (rg [1,0,1,1,0,0,1,0,1]) 0 m1 m2:=by
   refine aSi.mv bv (v:=Ds b (O gT)) rfl (Oe _ (cM _))<|
    aSh.mv bv (v:=x.1) rfl (Oe _ (cM _)) ?_
   have hbs:vf E0 (.buildSlice 102 1 #[(0,.tmp 92)]) T2 (mA x).H n0=V (.sl n0 0 1 (.k 1),[(n0,V (.cells 3 [x.1]))]):=by
    rw[hz];exact aAI (by rw[<-hz];rfl)
   refine aSg.go bv (new:=n0) (nZ:=n0+1) hbs (Oe _ (cM _)) (cM _) (λ_=>M7 _) (qU _) ?_
   refine aSf.go bv (new:=n0+1) (nZ:=n0+2) (v:=c') (us:=us) (aRl (s:=Ds b (O gT)) (n1:=n0) (x:=x.1) rfl rfl (ax rfl) (aKW hl am λh0=> ?_)) hH2 (cM _) (λ_=>M7 _) (qU _) ?_
   .show (if b+2*O gT=n0 then _ else (if b+2*O gT=b then _ else Hq H b _ _ _ (b+2*O gT)))=_
    rw[au (by show ¬_=b+2*O gT+1;omega),au W]
    unfold Hq;rw[au W,ax ⟨rfl,h0⟩]
   .exact aSe.asg bv (v:=c') rfl (by
     show iH H2 us (n0+1+1)=A;rw[mK,au W,au (by show ¬(_/\b+2*O gT+1+1+1=_);omega)]
     show (if n0+1+1=n0 then _ else (mA x).H (n0+1+1))=A
     rw[au W]
     exact Oe _ W) (vI bv)
  have rk:c'=Ds b (O (gT++ [x])):=by
   rw[gS];show SV.sl (b+2*O gT+1+1) 0 (O gT+1) (.u 3)=SV.sl (b+2*(O gT+1)) 0 (O gT+1) (.u 3);rw[show b+2*O gT+1+1=b+2*(O gT+1) by omega]
  refine .of (m1:=m2) (m2:=mq T H b ji cl (gT++ [x])) (gE.seq (gE.cond (b:=I) (m:=mA x) rfl .skip) (gE.block (id:=3) (e:=.normal) (gE.seq (gE.region h26) (gE.region h27)))) ⟨ade ?_ (λ_=>rfl) λy h1 h2 h3 h4=> ?_,λy o ho=> ?_,?_⟩ (.inl ⟨rfl,x,hx,rfl⟩)
  .rw[<-rk];rfl
  .show eE _ _ _ y=_;rw[j6 W,j6 W,j6 W]
   show eE _ _ _ y=_;rw[j6 W,j6 W]
   show eE _ _ _ y=_;rw[j6 W,j6 W,j6 W]
   show eE _ _ _ y=_;rw[j6 W,j6 W]
   show Tq _ _ _ y=_;unfold Tq;rw[au h1,au h2,au W]
  .have ho:Hq H b (V (.mapIter (V ji) cl ((gT++ [x]).map (·.2.2)) cl)) (O (gT++ [x])) ((gT++ [x]).map (·.1)) y=V o:=ho
   show iH H2 us y=V o;have hn0:n0=b+2*O gT+1:=rfl;unfold Hq at ho;rw[gS,M6] at ho;rw[mK];split at ho
   .rename_i e;rw[au W,au W]
    show (if y=n0 then _ else jG m0.H _ y)=_
    rw[au W,<-ho,e,ky]
    exact ax rfl
   .split at ho
    .rename_i e1 e2;rw[ax W,<-ho,ky];rfl
    .split at ho
     .cases ho
     .rename_i e1 e2 e3;rw[au W,au W]
      show (if y=n0 then _ else jG m0.H _ y)=_
      rw[au W]
      show (if y=b then _ else Hq H b _ _ _ y)=_
      rw[au e1];unfold Hq;rw[au e1,au W,au e3]
      exact ho
  .show b+2*O (gT++ [x])+1=b+2*O gT+1+2;simp;omega
 .refine .of (m1:=mB) (m2:=mq T H b ji cl gT) (gE.axL rfl (gE.cond (b:=U) (m:=mB) rfl .exit)) ⟨?_,λx o h=>h,rfl⟩ (.inr ⟨rfl,hn,rfl⟩)
  intro y v hv;have:y≠87/\y≠88:=by
   constructor<;>(rintro rfl;cases hv)
  show eE (eE _ _ _) _ _ y=_;rw[j6 (tu this.2),j6 (tu this.1)];exact hv
end
section
variable {T T' T2:Tf} {H H':Hf} {b ji cl k n:Nat} {gT ms:iU} {zs:List Int}
def air (OU:ji<b) (hm:H ji=V (.map ms cl)) (hw:BM ms cl) (B6:∀e∈ms,∃z:Int,e.1= .int .i64 (.lit z)) (hb:∀x,b<=x->H x=A) (hl:O ms<=1000000):∀(n:Nat) (gT:iU),O (rH (gT.map (·.2.2)) ms)<n->ms.Perm (gT++rH (gT.map (·.2.2)) ms)->
  mT E0 wS (.loop Yc) (mq T H b ji cl gT) λe m'=>e= .exit 2/\∃v:iU,ms.Perm v/\m'=mq T H b ji cl v
 |0,gT,hn,_=>W
 |n+1,gT,hn,hp=>by
  have hvl:O gT<=1000000:=by have:=hp.length_eq;rw[gS] at this;omega
  refine mT.loop (ayK OU hm hw B6 hb hvl) λe m1 h=> ?_
  rcases h with ⟨rfl,x,hx,rfl⟩|⟨rfl,h0,rfl⟩
  .have e:rH ((gT++ [x]).map (·.2.2)) ms=(rH (gT.map (·.2.2)) ms).filter λy=>A' (y.2.2≠x.2.2):=by
    rw[ky];exact asq _ _ _
   have nd:((rH (gT.map (·.2.2)) ms).map (·.2.2)).Nodup:=(List.Sublist.map _ List.filter_sublist).nodup hw.2
   have hpk:=abW hx nd;rw[<-e] at hpk;have cT:=hpk.length_eq;rw[l7] at cT;refine .inl ⟨rfl,air OU hm hw B6 hb hl n (gT++ [x]) W ?_⟩
   rw[l6];exact hp.trans (hpk.append_left gT)
  .refine .inr ⟨rfl,rfl,gT,?_,rfl⟩;rw[h0,rE] at hp;exact hp
def rC.call {m m':MS} {i6:fD} {i nt:Nat} {d:cC} {c:Call} {fv v:SV} (h:rC i6 i d (.call c)) (hd:ot nt d=I) (hc:BG m.T c.callee=V fv) (has:gN m.T c.args.toList=V as') (hs:p8 E0 U fv as' m.H m.nx v H' nZ) (hb:∀x,m.nx<=x->m.H x=A) (hn:m.nx<=nZ) (k:mj E0 nt i6 (i+1) ⟨eE m.T d v,H',nZ⟩ m'):mj E0 nt i6 i m m':=by
 obtain ⟨o,a1,rfl,a3,a4⟩:=h;exact mj.cons a1 (rM.aIk (H2:=H') a1 (by unfold kI;rw[a4]) hd a3 hc has hs (λ_ _ h=>h) hb hn (λ_ _=>rfl) (λ_ h=>h)) (λx hx=>hx) (λx hx=>hx) k
def BF:Code:=Tryz.f124.body.getD .skip
def c124:Tryz.f124.body=V (.region 0 (CD BF) U):=bv
def q0:rC (CD BF) 0 (V 2) (.move (.tmp 0)):=⟨(CD BF)[0]!,bv,bv,bv,bv⟩
def q1:rC (CD BF) 1 (V 3) (.call {callee:=.value (.func 165),args:= #[.tmp 2],argTypes:= #[102]}):=⟨(CD BF)[1]!,bv,bv,bv,bv⟩
def aMl {id:Nat} {c:Cp} (hz:0<O zs) (hl:O zs<=4294967295) (h:H id=V (.cells 3 (fV zs))):p8 E0 U (.fn (.func 165) [] []) [.sl id 0 (O zs) c] H nx (.dh []) (jG H (id,V (.cells 3 (fV (dJ zs))))) (nx+1):=by
 have li:O (fV zs)=O zs:=by simp[fV]
 have ho:xh E0 1048576 H nx [.sl id 0 (O zs) c]=V (.dh [],[(id,V (.cells 3 ((fV zs).take 0++(fV (dJ zs)++(fV zs).drop (E' 0 (O zs))))))]):=by
  show aT (Cz (O zs) 0) _ (aA (ny (H id)) _)=_;rw[h,show Cz (O zs) 0=U from afC.2 λh=>by have:=(f9 _ _).1 h;omega]
  show aA (Ll (((fV zs).drop 0).take (O zs))) _=_;rw[oQ,jc W,akD]
  show aT (D' 1 (O zs)&&(D' (E' 0 (O zs)) (O (fV zs))&&D' (O zs) 4294967295)) _ A=_;rw[qv hz,qv hl,qv (show E' 0 (O zs)<=O (fV zs) by show 0+_<=_;omega)]
  rfl
 have e:(fV zs).take 0++(fV (dJ zs)++(fV zs).drop (E' 0 (O zs)))=fV (dJ zs):=by
  rw[zn,jb,xH (by show _<=0+_;omega),rE]
 rw[e] at ho;exact Bs (pk0 165 1048576 bv) ho
def aMm {id:Nat} {c:Cp} (hz:0<O zs) (hl:O zs<=4294967295) (h:H id=V (.cells 3 (fV zs))) (hb:∀x,nx<=x->H x=A):p8 E0 U (.fn (.func 124) [] []) [.sl id 0 (O zs) c] H nx (.dh []) (jG H (id,V (.cells 3 (fV (dJ zs))))) (nx+1):=by
 have jA:id<nx:=zm λhx=>by rw[hb _ hx] at h;cases h
 have hr:gE E0 Tryz.f124.ntmps (.region 0 (CD BF) U) ⟨(setArgs ([]++ [.sl id 0 (O zs) c]++ []) 0 .nil).get,H,nx⟩ .normal ⟨eE (eE (setArgs ([]++ [.sl id 0 (O zs) c]++ []) 0 .nil).get (V 2) (.sl id 0 (O zs) c)) (V 3) (.dh []),jG H (id,V (.cells 3 (fV (dJ zs)))),nx+1⟩:=
  .region (q0.go0 bv (show aA ((setArgs ([]++ [.sl id 0 (O zs) c]++ []) 0 .nil).get 0) (λv=>V (v,[]))=_ from rfl) (hb _ (cM _)) (q1.call bv rfl rfl (aMl hz hl h) hb (qU _) (vI bv)))
 exact gE.sem (fi:= []) (ca:= []) (vs:= []) (fn:=Tryz.f124) bv c124 bv (wc bv) rfl hr bv
def aJS:p8 E0 U (.fn (.func 165) [] []) [.bY] H nx (.dh []) H (nx+1):=
 Bs (ups:= []) (pk0 165 1048576 bv) (show xh E0 1048576 H nx [.bY]=V (.dh [],[]) by kernel_rfl)
def aJT (hb:∀x,nx<=x->H x=A):p8 E0 U (.fn (.func 124) [] []) [.bY] H nx (.dh []) H (nx+1):=by
 have hr:gE E0 Tryz.f124.ntmps (.region 0 (CD BF) U) ⟨(setArgs ([]++ [.bY]++ []) 0 .nil).get,H,nx⟩ .normal ⟨eE (eE (setArgs ([]++ [.bY]++ []) 0 .nil).get (V 2) .bY) (V 3) (.dh []),H,nx+1⟩:=
  .region (q0.go0 bv (show aA ((setArgs ([]++ [.bY]++ []) 0 .nil).get 0) (λv=>V (v,[]))=_ from rfl) (hb _ (cM _)) (q1.call bv rfl rfl aJS hb (qU _) (vI bv)))
 exact gE.sem (fi:= []) (ca:= []) (vs:= []) (fn:=Tryz.f124) bv c124 bv (wc bv) rfl hr bv
def aFX:rC (rg [0,1,1]) 0 (V 95) (.move (.tmp 14)):=⟨(rg [0,1,1])[0]!,bv,bv,bv,bv⟩
def aFW:rC (rg [0,1,1]) 1 (V 96) (.call {callee:=.value (.func 124),args:= #[.tmp 95],argTypes:= #[102]}):=⟨(rg [0,1,1])[1]!,bv,bv,bv,bv⟩
def i210:TI:=(tyT.get 210).getD default
def g210:E0.ty.get 210=V i210:=bv
def aSa (v:SV) (H:Hf):Jd i210.desc v H=aye v H:=bv
def mz:MS:=⟨Tq d0 (V (Ds dn (O eo))) A,Hq d1 dn A (O eo) (fV (dJ eo)),dn+2*O eo+2⟩
def aBZ:∀{l:iU} {zs:List Int},l.map (·.1)=fV zs->∀{v},l.Perm v->∃ys:List Int,v.map (·.1)=fV ys/\zs.Perm ys:=λ{l zs} h v hp=>by
 refine ⟨v.map λe=>(NO e.1).getD 0,?_,?_⟩
 .have hk:∀e∈v,e.1= .int .i64 (.lit ((NO e.1).getD 0)):=λe he=>by
   have:e.1∈fV zs:=h ▸ IH (hp.mem_iff.2 he);let ⟨z,_,hz⟩:=dL.1 this;rw[<-hz];rfl
  unfold fV;rw[we];exact EV λe he=>hk e he
 .have e:zs=l.map λe=>(NO e.1).getD 0:=by
   have:=bH (List.map λv=>(NO v).getD 0) h
   rw[we] at this;refine (this.trans ?_).symm;unfold fV;rw[we];exact (EV λz _=>rfl).trans (List.map_id _)
  rw[e];exact hp.map _
def anb {xs ys:List Int} (h:xs.Perm ys):dJ xs=dJ ys:=aky (wi xs) (wi ys) (((pd xs).trans h).trans (pd ys).symm)
def arY {m':MS} (h9:T 9=V (.mp ji)) (hm:H ji=V (.map ms cl)) (hw:BM ms cl) (B6:ms.map (·.1)=fV zs) (hl:O zs<=1000000) (hb:∀x,b<=x->H x=A) (hr:gE E0 wS rest (mz T H b zs) e m'):
  gE E0 wS (.seq (.region 23 (rg [0]) U) (.seq (.seq (.region 24 (rg [0,0,1]) U) (.block 2 (.loop Yc))) (.seq (.region 28 (rg [0,1,1]) U) rest))) ⟨T,H,b⟩ e m':=by
 have OU:ji<b:=zm λhx=>by rw[hb _ hx] at hm;cases hm
 have N5:O ms=O zs:=by have:=bH O B6;simpa[fV] using this
 have CN:∀e∈ms,∃z:Int,e.1= .int .i64 (.lit z):=λe he=>by
  have:e.1∈fV zs:=B6 ▸ IH he;let ⟨z,_,hz⟩:=dL.1 this;exact ⟨z,hz.symm⟩
 let m1:MS:=⟨eE T (V 14) .bY,H,b⟩;have h23:gE E0 wS (.region 23 (rg [0]) U) ⟨T,H,b⟩ .normal m1:=.region (aSp.go0 bv (v:=.bY) rfl (hb _ (cM _)) (vI bv))
 let it:SO:=.mapIter (V ji) cl [] cl;let m2:MS:=⟨eE (eE m1.T (V 85) (.mp ji)) (V 86) (.ptr b 0),iH H [(b,V it)],b+1⟩;have h24:gE E0 wS (.region 24 (rg [0,0,1]) U) m1 .normal m2:=by
  refine .region (aSo.mv bv (v:=.mp ji) h9 (hb _ (cM _)) ?_)
  refine aSn.go bv (new:=b) (nZ:=b+1) (v:=.ptr b 0) (us:= [(b,V it)]) ?_ (hb _ (cM _)) (cM _) (λ_=>M7 _) (qU _) (vI bv)
  show aA (E0.ty.get 210) (λi=>aA (Jd i.desc (.mp ji) H) λo=>V (SV.ptr b 0,[(b,V o)]))=_
  rw[fM g210,aSa];show aA (aA (ln (H ji)) λp=>V (SO.mapIter (V ji) p.2 [] p.2)) (λo=>V (SV.ptr b 0,[(b,V o)]))=_
  rw[hm];rfl
 have hq0:(mq T H b ji cl []).Le m2:=by
  refine ⟨ade rfl (λ_=>rfl) λy h1 h2 h3 h4=> ?_,λy o ho=> ?_,rfl⟩
  .show eE _ _ _ y=_;rw[j6 W,j6 W]
   show eE _ _ _ y=_;rw[j6 W]
  .have ho:Hq H b (V it) 0 [] y=V o:=ho;show (if y=b then V it else H y)=V o
   unfold Hq at ho;split at ho
   .rename_i e1;rw[ax e1];exact ho
   .rename_i e1;rw[au e1];rw[au W] at ho
    split at ho
    .cases ho
    .exact ho
 refine h23.seq (mT.toT (mT.seq (P1:=λe m'=>e= .normal/\∃v:iU,ms.Perm v/\m'=mq T H b ji cl v) (mT.seq (P1:=λx y=>x= .normal/\y=mq T H b ji cl []) (.of h24 hq0 ⟨rfl,rfl⟩) λx y ⟨hx,hy⟩=>.inl ⟨hx,?_⟩) λx y ⟨hx,v,hp,hy⟩=>.inl ⟨hx,?_⟩))
 .rw[hy];refine mT.block ?_;have:=air (T:=T) OU hm hw CN hb W (O (rH [] ms)+1) [] (M7 _) (.of_eq (IG.2 λ_ _=>rfl).symm)
  exact λok ro k g a w Q hn hq=>this ok ro k g a w Q hn λg' a' w' x e m' ⟨he,h⟩=>hq g' a' w' x e m' ⟨by rw[he];rfl,h⟩
 .rw[hy];let ⟨ys,y1,y2⟩:=aBZ B6 hp;have hyl:O ys=O zs:=y2.length_eq.symm;have hvl:O v=O ys:=by have:=bH O y1;simpa[fV] using this
  have nr:∀x,(mq T H b ji cl v).nx<=x->(mq T H b ji cl v).H x=A:=aHh hb;rcases IF (O zs) with hz|hz
  .obtain rfl:zs= []:=qg.1 hz;obtain rfl:v= []:=qg.1 W
   have h28:gE E0 wS (.region 28 (rg [0,1,1]) U) (mq T H b ji cl []) .normal ⟨eE (eE (mq T H b ji cl []).T (V 95) .bY) (V 96) (.dh []),(mq T H b ji cl []).H,(mq T H b ji cl []).nx+1⟩:=
    .region (aFX.mv bv rfl (nr _ (cM _)) (aFW.call bv rfl rfl (aJT nr) nr (qU _) (vI bv)))
   refine mT.seq (P1:=λx y=>x= .normal/\y=mz T H b []) (.of h28 ⟨ade ?_ (λh=>absurd rfl h) λy h1 h2 h3 h4=> ?_,λy o ho=> ?_,?_⟩ ⟨rfl,rfl⟩) λx y ⟨hx,hy⟩=>.inl ⟨hx,hy ▸ .of hr ⟨λ_ _ h=>h,λ_ _ h=>h,rfl⟩ ⟨rfl,rfl⟩⟩
   .show eE (eE (mq T H b ji cl []).T (V 95) .bY) (V 96) (.dh []) 14=_;rw[j6 (by decide),j6 (by decide)];rfl
   .show eE _ _ _ y=_;rw[j6 W,j6 W]
    show Tq _ _ _ y=_;unfold Tq;rw[au h1,au h2,au W]
   .have ho:Hq H b A 0 (fV (dJ [])) y=V o:=ho;show Hq H b _ 0 _ y=V o;unfold Hq at ho ⊢;split at ho
    .cases ho
    .rename_i e1;rw[au e1];rw[au W] at ho ⊢
     exact ho
   .rfl
  obtain ⟨k,hk⟩:∃k,O v=k+1:=⟨O v-1,W⟩
  have hT:(mq T H b ji cl v).T 14=V (.sl (b+2*O ys) 0 (O ys) (.u 3)):=by
   show V (Ds b (O v))=_;rw[hk,<-hvl,hk];rfl
  have hH:(mq T H b ji cl v).H (b+2*O ys)=V (.cells 3 (fV ys)):=by
   show Hq H b _ (O v) (v.map (·.1)) _=_
   unfold Hq;rw[au W,ax ⟨W,W⟩,y1]
  have hs:=aMm (nx:=(mq T H b ji cl v).nx) (c:=.u 3) (show 0<O ys by omega) W hH nr
  have h28:gE E0 wS (.region 28 (rg [0,1,1]) U) (mq T H b ji cl v) .normal ⟨eE (eE (mq T H b ji cl v).T (V 95) (.sl (b+2*O ys) 0 (O ys) (.u 3))) (V 96) (.dh []),jG (mq T H b ji cl v).H (b+2*O ys,V (.cells 3 (fV (dJ ys)))),(mq T H b ji cl v).nx+1⟩:=
   .region (aFX.mv bv hT (nr _ (cM _)) (aFW.call bv rfl rfl hs nr (qU _) (vI bv)))
  refine mT.seq (P1:=λx y=>x= .normal/\y=mz T H b zs) (.of h28 ⟨ade ?_ (λh=>absurd rfl h) λy h1 h2 h3 h4=> ?_,λy o ho=> ?_,?_⟩ ⟨rfl,rfl⟩) λx y ⟨hx,hy⟩=>.inl ⟨hx,hy ▸ .of hr ⟨λ_ _ h=>h,λ_ _ h=>h,rfl⟩ ⟨rfl,rfl⟩⟩
  .show eE (eE (mq T H b ji cl v).T (V 95) (.sl (b+2*O ys) 0 (O ys) (.u 3))) (V 96) (.dh []) 14=_;rw[j6 (by decide),j6 (by decide),hT,<-hyl,<-hvl,hk];rfl
  .show eE _ _ _ y=_;rw[j6 W,j6 W]
   show Tq _ _ _ y=_;unfold Tq;rw[au h1,au h2,au W]
  .have ho:Hq H b A (O zs) (fV (dJ zs)) y=V o:=ho;show (if y=b+2*O ys then _ else Hq H b _ (O v) (v.map (·.1)) y)=V o
   unfold Hq at ho ⊢;split at ho
   .cases ho
   .rename_i e1;split at ho
    .rename_i e2;rw[ax W,<-ho,anb y2]
    .rename_i e2;split at ho
     .cases ho
     .rename_i e3;rw[au W,au e1,au W,au e3]
      exact ho
  .show b+2*O zs+2=b+2*O v+1+1;omega
end
def adh {pp:Type} (m:List (Int×pp)):G (List Int):=ite (1000000<O m) A (V (dJ (m.map (·.1))))
def adz:Bool:= !(Cz B 14||(Cz B 15||(D' 85 B&&D' B 96)))
def G2:fN->fN
 | []=> []
 |p::l=>aT (adz p.1) (p::G2 l) (G2 l)
def aav {t:Nat} {x:AV}:∀{l:fN},lk t (G2 l)=V x->adz t=I/\lk t l=V x
 | [],h=>by cases h
 |p::l,h=>by
  unfold G2 at h;rw[cx] at h;split at h
  .rename_i hp;rw[show lk t (p::G2 l)=lk t ((p.1,p.2)::G2 l) from rfl,dH] at h;rw[show lk t (p::l)=lk t ((p.1,p.2)::l) from rfl,dH];split at h
   .rename_i e;rw[ax e];exact ⟨e ▸ hp,h⟩
   .rename_i e;rw[au e];exact aav h
  .rename_i hp;let ⟨h1,h2⟩:=aav h;rw[show lk t (p::l)=lk t ((p.1,p.2)::l) from rfl,dH,au (λe:t=p.1=>hp (e ▸ h1))]
   exact ⟨h1,h2⟩
def YU:LS:=⟨(14,.ms 14 1 0 (O eo))::G2 d7.ts,(14,.rows U 3 1 (dP eo))::d7.bs⟩
def fits (s s':LS) (zs:List Int):G LS:=aA (OA (YU s zs).bs s'.bs) λbs=>V ⟨cvT s'.ts (YU s zs).ts,bs⟩
def aKo:kR JF ([1,1,1]++DC)=kR JF DC:=bv
def aiz {F:Hf} {g:Gb}:∀{l:List Int} {vs:bj},dS F g vs (l.map (AV.int .i64))->vs=fV l
 | [],_,.nil=>rfl
 |x::l,_,.cons h t=>by
  rw[aiz t];cases h;rfl
def aCO {x:Nat} (h:adz x=I):x≠14/\x≠86/\¬(x=15\/(84<x/\x<97)):=by
 unfold adz at h;simp only[T6,T4] at h;let ⟨h1,h2,h3⟩:=h;have e1:x≠14:=λe=>by rw[(f9 x 14).2 e] at h1;cases h1
 have e2:x≠15:=λe=>by rw[(f9 x 15).2 e] at h2;cases h2
 have e3:¬(85<=x/\x<=96):=λe=>by rw[(bO 85 x).2 e.1,(bO x 96).2 e.2] at h3;cases h3
 exact ⟨e1,λe=>e3 W,λe=>W⟩
def pc74 {X:Fx E0} {s s':LS} {m:List (Int×pp)} {zs:List Int} {f:pp->AV} (hk:At X ([1,1,1]++DC) s' y hY) (hx:adh m=V zs) (hc:X.code=JF:=by kernel_rfl) (hn:X.fn.ntmps=wS:=by kernel_rfl) (h9:lk 9 s.ts=V (.mp K):=by kernel_rfl) (hK:lk K s.bs=V (.map (gO f m)):=by kernel_rfl) (jB:Hg s 14=I:=by kernel_rfl) (hp:zN X 14=U:=by kernel_rfl) (CK:zN X vd=U:=by kernel_rfl) (hs:fits s s' zs=V s':=by kernel_rfl):At X DC s y hY:=by
 unfold adh at hx;split at hx
 .cases hx
 rename_i hl;have hx:=(kh hx).symm;subst hx;let zs:=m.map (·.1)
 have hzl:O zs=O m:=ku _;have AP:O (dJ zs)=O zs:=wj zs;have xV:Holds X (Fin X y hY) (kR X.code DC) (YU s (dJ zs)) (.Ad (sO X.code ([1,1,1]++DC)) ([1,1,1]++DC) U):=by
  let ⟨bs,b1,b2⟩:=ak hs;have e:=kh b2;have hk:Holds X (Fin X y hY) (kR X.code ([1,1,1]++DC)) s' (.Ad (sO X.code ([1,1,1]++DC)) ([1,1,1]++DC) U):=hk;rw[hc,aKo,<-hc] at hk;have hsee:kT (zN X) (YU s (dJ zs)) s':=by
   have:=kT.cv (pn:=zN X) b1;rw[e] at this;exact this
  exact Holds.Sl hk hsee λh=>by rw[CK] at h;cases h
 show Holds X (Fin X y hY) (kR X.code DC) s (.Ad (sO X.code DC) DC U);refine xV.lead λw hw=> ?_
 have r:=hw.r;let ⟨v9,a1,a2⟩:=r.tm 9 _ h9 am
 cases a2;let ⟨ms,cl,hφ,hH,CN,zd,hwf⟩:=r.map hK;have B6:ms.map (·.1)=fV zs:=by
  refine aiz (F:=w.F) (g:=mn) ?_;rw[show zs.map (AV.int .i64)=(gO f m).map (·.1) from by unfold gO;rw[we,we];rfl]
  exact CN
 let b:=w.m.nx;let z:=mz w.m.T w.m.H b zs;let id:=b+2*O zs;have BA:∀i,i<b->z.H i=w.m.H i:=λi hi=>by
  show Hq _ b A (O zs) _ i=_;unfold Hq;rw[au W,au W,au W]
 have fK:dP (dJ zs)=rG (dJ zs):=rfl;have mM:O (rG (dJ zs))=O (dJ zs):=ku _;have hvl:O (fV (dJ zs))=O (dJ zs):=ku _;obtain ⟨g',L',hbox,DI,hL,hg,hva⟩:∃(g':Gb) (L':Ow),fg w.F g' 14 (.rows U 3 1 (dP (dJ zs))) L'/\(L'.map (·.1)).Nodup/\(∀p∈L',z.H p.1=V p.2/\b<=p.1)/\(∀k,k≠14->g' k=w.g k)/\VA w.F g' (Ds b (O zs)) (.ms 14 1 0 (O zs)):=by
  rcases IF (O zs) with hz|hzp
  .have e:zs= []:=qg.1 hz;rw[e];exact ⟨j4 w.g 14 ⟨0,.k 0,U⟩,[],.nil rfl,am,λp hp=>(by cases hp),λk hk=>au hk,.sw 1 rfl⟩
  .have jA:z.H id=V (.cells 3 (fV (dJ zs))):=by
    show Hq _ b A (O zs) _ id=_;unfold Hq;rw[au W,ax ⟨rfl,hzp⟩]
   refine ⟨j4 w.g 14 ⟨id,.u 3,I⟩,[(id,.cells 3 (fV (dJ zs)))],?_,am,λp hp=>by rw[gy.1 hp];exact ⟨jA,by show b<=b+_;omega⟩,λk hk=>au hk,?_⟩
   .exact fg.bG (F:=w.F) (g:=j4 w.g 14 ⟨id,.u 3,I⟩) (K:=14) (z:=U) (e:=3) (s:=1) (l:= []) (Q:=rG (dJ zs)) (o:= []) (svs:=fV (dJ zs)) (ae:= []) (show (j4 w.g 14 ⟨id,.u 3,I⟩ 14).b=I from rfl) (λh=>by cases h) (GN _) (show Az 3 1 (O (rG (dJ zs))) (O (fV (dJ zs))) (j4 w.g 14 ⟨id,.u 3,I⟩ 14).c from ⟨rfl,by rw[mM,hvl];omega⟩) (.tQ (GN _) (by rw[mM,IC,jc W];exact awE _)) (λp hp=>by cases hp)
   .obtain ⟨k,hk⟩:∃k,O zs=k+1:=⟨O zs-1,W⟩
    have:=Qc (F:=w.F) (g:=j4 w.g 14 ⟨id,.u 3,I⟩) (K:=14) (s:=1) (n:=O zs) rfl;have e:Ds b (O zs)= .sl id 0 (O zs) (.u 3):=by
     show Ds b (O zs)= .sl (b+2*O zs) 0 (O zs) (.u 3);rw[hk];rfl
    rw[e];exact this
 let ⟨c',r1,k1,k2,k3⟩:=r.chg (K:=14) (b':=.rows U 3 1 (dP (dJ zs))) (g':=g') (L':=L') (H':=z.H) hbox DI (λp hp=>⟨(hL p hp).1,.inr (hw.bd _ (hL p hp).2)⟩) (λi hi=>by
   by_cases hib:i<b
   .exact absurd (BA i hib) hi
   .exact .inr (hw.bd i (by show b<=i;omega))) (.inr ⟨yG jB,hg⟩)
 have nr:∀x,z.nx<=x->z.H x=A:=λx hx=>by
  have hx:b+2*O zs+2<=x:=hx;show Hq _ b A (O zs) _ x=_;unfold Hq;rw[au W,au W,ax W]
 refine ⟨⟨w.F,g',j4 w.Z 14 L',c',z⟩,⟨⟨λt x ht dd=> ?_,r1.bx,r1.fr,r1.cn⟩,nr⟩,⟨.refl _,λk hk=>hg k (λe=>by rw[e,hp] at hk;cases hk),(by show b<=b+_+2;omega),λx hx dd=>(by rw[<-BA x hx];exact dd),λh=>(by rw[CK] at h;cases h)⟩,?_⟩
 .have ht:lk t ((14,.ms 14 1 0 (O (dJ zs)))::G2 s.ts)=V x:=ht;rw[dH] at ht;split at ht
  .rename_i e;cases ht;subst e;refine ⟨Ds b (O zs),rfl,?_⟩;rw[AP];exact hva
  .let ⟨t1,t2⟩:=aav ht;let ⟨v,v1,v2⟩:=r1.tm t x t2 dd;let ⟨e1,e2,e3⟩:=aCO t1;refine ⟨v,?_,v2⟩;show Tq w.m.T _ A t=_;unfold Tq;rw[au e1,au e2,au e3];exact v1
 .intro e m' ⟨e1,m1,h1,h2⟩;refine ⟨e1,m1,?_,h2⟩;rw[hc,aMW,hn];rw[hn,hc] at h1;exact arY a1 hH hwf B6 W hw.bd h1
abbrev Wt0_:=dr->Int->Int->aN->G aN
abbrev Th:=aG->aN->aN->Int->G (aj×aG)
abbrev Y8:=aj->Int->G Int
abbrev Y9:=aj->Int->G Bool
abbrev NW:=aN->aN->aj->G Bool
abbrev Wt5_:=xN->Int->G Bool
abbrev Wt6_:=Int->Int->ah->G Bool
abbrev Tg:=aj->aN->G aN
abbrev aaY:=aj->Int->Int->G aj
abbrev Wt9_:=cj->gg->G (gg×Int)
abbrev aIS:=xN->Nat->G Bool
abbrev aIR:=bC->Int->Int->xN->Int->Int->dr->Int->(List (xN×Bool))->ah->G Bool
abbrev aIQ:=bC->Int->Int->(List (xN×Bool))->G Bool
abbrev adV:=aj->Int->Int->G (Bool×Int)
abbrev Eh:=nE->aj->G Bool
abbrev aiQ:=aj->G aj
abbrev aiR:=aj->aJ->G aj
abbrev HC:=aN->aj->G (aN×aN)
abbrev aIP:=aJ->ah->G Bool
abbrev aIO:=aJ->bz->bz->G Bool
abbrev aIN:=Int->aU->Int->Int->ga->aW->aW->aW->lJ->(List (Int×aP))->aU->G (aW×Bool)
abbrev aIM:=Int->ga->aW->aW->aW->(List (Int×aP))->aU->G (aW×Bool)
abbrev aIL:=dk->dk->G (dk×Int×Int)
abbrev aIK:=aG->aU->G (aU×aG)
abbrev aIJ:=af->cG->G Bool
def adq:AV:=.int .i64 eu.1
def UN:List (Nat×Bx):= (sS (eN eu.2))
def jo:=fx E0 Tryz.f18 [0]
def A18:=Ax jo adq UN
def Uo:LS:=⟨[aV 0,(1,ck N)],(sS (eN D))⟩
def awz (n:Nat) (c0:aG) (n1:Int):G (Int×aG):=
 ite (!A' (c0.DL<(O c0.rp:Int))) (V (0,c0)) (ite (A' (n1<1)) (V (0,c0)) (M (idx c0.rp (ba ((ba (c0.DL+1))-1))) λoD=>M (rem (ba (oD)) n1) λx38=>V ((Int.tmod (ba (oD)) n1),(aG.mk c0.rp (ba (c0.DL+1))))))
def aWT:KK (A18 []) Uo (awz B):=λ_ _ r h=>ie h (λda h=>rr h [(10,eb da)]) λda h=>ie h (λc1 h=>rr h [(10,eb da),aS c1]) λc1 h=>be h λ_ xE h=>be h λ_ hx38 h=>rr h [(10,eb da),aS c1,(18,R5.idx xE),(3,.nz (ahK hx38).1)]
def rS:=awz
def o5:KK (Cx E0 18 adq UN) Uo (rS B):=λ_ _ _ h=>ca (X:=jo) (aWT B h)
def BX:AV:=.ms bL 1 0 (O J)
def ayp:List (Nat×Bx):= [(bL,Dh J)]
def x50:=fx E0 Tryz.f50 []
def A50:=Ax x50 BX ayp
def agy:LS:=⟨[(5,.ms 32 1 0 (O aO)),(22,.slice 73 2 (O bh) (eY bh)),(23,iI bi),(24,iI b4)],[(32,Dh aO)]⟩
def agx:LS:=⟨[(5,.ms 32 1 0 (O J))],[(32,Dh J)]⟩
def Cs:LS:=⟨[(0,.agg (cX S)),(1,ck N)],[]⟩
def aeF (aH:Wf0) (f7:Wt0_) (n:Nat) (a0:dr) (a3 a4:Int) (cE:aN):G aN:=
 ite (A' (a4<a3)) (M (idx a0 a4) λx2=>M (app cE [x2.aB]) λdG=>f7 a0 a3 (ba (a4+1)) dG) (aH cE)
def aVu {aH} (aY:KK (A50 (aI 31)) agx aH) {f7} (aL:KK (A50 (aI 87)) agy f7) (n:Nat):KK (A50 (aI 87)) agy (aeF aH f7 n):=λ_ _ _ _ r h=>ie h (λc0 h=>be h λ_ dq h=>be h λ_ fR h=>ra (aL h) [aD c0,(0,fI.idx dq),(7,R3.kq fR)]) λc0 h=>ra (aY h) [aD c0]
def QV (aH:Wf0):Nat->dr->Int->Int->aN->G aN
 |0=>dK.z
 |n+1=>aeF aH (QV aH n) n
def aGw {aH} (aY:KK (A50 (aI 31)) agx aH):∀n:Nat,KK (A50 (aI 87)) agy (QV aH n)
 |0=>KC.h
 |n+1=>aVu aY (aGw aY n) n
def aeE (n:Nat) (cE:aN):G aN:=
 V cE
def aVt:KK (A50 (aI 31)) agx (aeE B):=λ_ r h=>rr h [(2,.iS 32 bL)]
def awh:G aN:=
 ite (A' (N<0)) (V []) (ite (!A' (N<(O S.ag:Int))) (V []) (M (idx S.ag N) λgF=>QV (aeE B) B gF.L (O gF.L:Int) 0 []))
def aVs:KK (A50 []) Cs (awh B):=λ_ _ r h=>ie h (λc0 h=>rr h [aZ c0,(3,.born [4] [] bL I 3 1)]) λc0 h=>ie h (λc1 h=>rr h [aZ c0,bN c1,(2,.born [4] [] bL I 3 1)]) λc1 h=>be h λ_ iC h=>ra (aGw (aVt B) B h) [aZ c0,bN c1,(5,cy.idx iC),(4,.born [5] [] 32 I 3 1)]
def F50:=awh
def YR:KK (Cx E0 50 BX ayp) Cs (F50 B):=λ_ _ _ h=>ca (X:=x50) (aVs B h)
def aFF:AV:=.bool ex.1
def ayn:List (Nat×Bx):= (sS (eN ex.2))
def x70:=fx E0 Tryz.f70 [0]
def A70:=Ax x70 aFF ayn
def avW:G (Bool×aG):=
 M (rS B D N) λx4=>V (x4.1==(ba (N-1)),x4.2)
def aUT:KK (A70 []) Uo (avW B):=λ_ _ r h=>be h λ_ ic h=>rr h [(3,.call (o5 B ic) [(0,0)] [])]
def Ay:=avW
def o4:KK (Cx E0 70 aFF ayn) Uo (Ay B):=λ_ _ _ h=>ca (X:=x70) (aUT B h)
def aFA:AV:=.agg (LJ cw)
def x91:=fx E0 Tryz.f91 []
def A91:=Ax x91 aFA bE
def awY:LS:=⟨[(0,.str ai),(1,ck ab)],[]⟩
def avI (n:Nat) (ase:xN) (iW:Int):G bW:=
 V (bW.mk ase iW)
def aUy:KK (A91 []) awY (avI B):=λ_ _ r h=>rr h []
def Gz:=avI
def FV:KK (Cx E0 91 aFA bE) awY (Gz B):=λ_ _ _ h=>ca (X:=x91) (aUy B h)
def x136:=fx E0 Tryz.f136 [0]
def A136:=Ax x136 adq UN
def y6:LS:=⟨[aV 0],(sS (eN D))⟩
def amz:G (Int×aG):=
 M (rS B D 12) λx3=>ite (x3.1==9) (V ((-1),x3.2)) (ite (x3.1==10) (V (9223372036854775807,x3.2)) (ite (x3.1==11) (V ((-9223372036854775808),x3.2)) (M (rem x3.1 4) λkz=>V ((Int.tmod x3.1 4),x3.2))))
def aQb:KK (A136 []) y6 (amz B):=λ_ r h=>be h λ_ eP h=>let zA:SE:=[(2,.call (o5 B eP) [(0,0)] [])];ie h (λda h=>bt h zA [aS da]) λda h=>ie h (λc1 h=>bt h zA [aS da,aX c1]) λc1 h=>ie h (λc2 h=>bt h zA [aS da,aX c1,aX c2]) λc2 h=>be h λ_ jK h=>bt h zA [aS da,aX c1,aX c2,(2,.nz (ahK jK).1)]
def Tl:=amz
def aTF:KK (Cx E0 136 adq UN) y6 (Tl B):=λ_ _ h=>ca (X:=x136) (aQb B h)
def axW:AV:=.str ew.1
def aoZ:List (Nat×Bx):= (sS (eN ew.2))
def x137:=fx E0 Tryz.f137 [0]
def BS:=Ax x137 axW aoZ
def arh:LS:=⟨[(3,.str ai),(4,ck ab)],(sS (eN ao))⟩
def EC:LS:=⟨[(3,.str ai)],(sS (eN ao))⟩
def ari:LS:=⟨[(3,.str ai),(5,ck ab)],(sS (eN ao))⟩
def XE (n:Nat) (sx:xN) (i4:Int) (b0:aG):G (xN×aG):=
 ite (A' (i4<64)) (M (cat sx (NB #[255])) λx4=>en (sx++(NB #[255])) (ba (i4+1)) b0) (ef sx b0)
def aQa {aH} (aY:KK (BS (aI 458731)) EC aH) {f7} (aL:KK (BS (aI 1376235)) arh f7) (n:Nat):KK (BS (aI 1376235)) arh (XE aH f7 n):=λ_ _ _ r h=>ie h (λda h=>be h λ_ ic h=>ra (aL h) [aX da,(1,.cat (LR ic).1)]) λda h=>ra (aY h) [aX da]
def Kc (aH:Wf1):Nat->xN->Int->aG->G (xN×aG)
 |0=>dK.z
 |n+1=>XE aH (Kc aH n) n
def azN {aH} (aY:KK (BS (aI 458731)) EC aH):∀n:Nat,KK (BS (aI 1376235)) arh (Kc aH n)
 |0=>KC.h
 |n+1=>aQa aY (azN aY n) n
def aBN (n:Nat) (sx:xN) (b0:aG):G (xN×aG):=
 V (sx,b0)
def aPZ:KK (BS (aI 458731)) EC (aBN B):=λ_ _ r h=>rr h []
def XD (n:Nat) (sx:xN) (i5:Int) (b0:aG):G (xN×aG):=
 ite (A' (i5<64)) (M (cat sx (NB #[98])) λx4=>en (sx++(NB #[98])) (ba (i5+1)) b0) (ef sx b0)
def aPY {bD} (cV:KK (BS (aI 31)) EC bD) {f7} (aL:KK (BS (aI 87)) ari f7) (n:Nat):KK (BS (aI 87)) ari (XD bD f7 n):=λ_ _ _ r h=>ie h (λda h=>be h λ_ ic h=>ra (aL h) [aX da,(1,.cat (LR ic).1)]) λda h=>ra (cV h) [aX da]
def Kb (bD:Wf1):Nat->xN->Int->aG->G (xN×aG)
 |0=>dK.z
 |n+1=>XD bD (Kb bD n) n
def azM {bD} (cV:KK (BS (aI 31)) EC bD):∀n:Nat,KK (BS (aI 87)) ari (Kb bD n)
 |0=>KC.h
 |n+1=>aPY cV (azM cV n) n
def aBM (n:Nat) (sx:xN) (b0:aG):G (xN×aG):=
 V (sx,b0)
def aPX:KK (BS (aI 31)) EC (aBM B):=λ_ _ r h=>rr h []
def amy:G (xN×aG):=
 M (rS B D 10) λx4=>ite (x4.1==0) (V ((NB #[97]),x4.2)) (ite (x4.1==1) (V ((NB #[97]),x4.2)) (ite (x4.1==2) (V ((NB #[97]),x4.2)) (ite (x4.1==3) (V ((NB #[98]),x4.2)) (ite (x4.1==4) (V ((NB #[98]),x4.2)) (ite (x4.1==5) (V (I',x4.2)) (ite (x4.1==6) (V ((NB #[97,0]),x4.2)) (ite (x4.1==7) (V ((NB #[255]),x4.2)) (ite (x4.1==8) (Kc (aBN B) B I' 0 x4.2) (Kb (aBM B) B I' 0 x4.2)))))))))
def aPW:KK (BS []) y6 (amy B):=λ_ r h=>be h λ_ ic h=>let zA:SE:=[(3,.call (o5 B ic) [(0,0)] [])];ie h (λda h=>bt h zA [aD da]) λda h=>let zB:SE:=dx zA [aD da];ie h (λc1 h=>bt h zB [aX c1]) λc1 h=>let zC:SE:=dx zB [aX c1];ie h (λc2 h=>bt h zC [aX c2]) λc2 h=>let zD:SE:=dx zC [aX c2];ie h (λc3 h=>bt h zD [aX c3]) λc3 h=>let zE:SE:=dx zD [aX c3];ie h (λc4 h=>bt h zE [aX c4]) λc4 h=>let zF:SE:=dx zE [aX c4];ie h (λc5 h=>bt h zF [aX c5]) λc5 h=>let zG:SE:=dx zF [aX c5];ie h (λc6 h=>bt h zG [aX c6]) λc6 h=>ie h (λc7 h=>bt h zG [aX c6,aX c7]) λc7 h=>ie h (λc8 h=>cD (azN (aPZ B) B h) zG [aX c6,aX c7,aX c8]) λc8 h=>cD (azM (aPX B) B h) zG [aX c6,aX c7,aX c8]
def Tm:=amy
def aTE:KK (Cx E0 137 axW aoZ) y6 (Tm B):=λ_ _ h=>ca (X:=x137) (aPW B h)
def aFz:AV:=.agg (iF et.1)
def aym:List (Nat×Bx):= (sS (eN et.2))
def x93:=fx E0 Tryz.f93 [0]
def A93:=Ax x93 aFz aym
def awX:LS:=⟨[aV 0,(1,ck N)],(sS (eN D))⟩
def avG:G (aP×aG):=
 ite (N==3) (M (rS B D 2) λx7=>V ((aP.mk N x7.1 I'),x7.2)) (ite (N==4) (M (Tl B D) λx9=>V ((aP.mk N x9.1 I'),x9.2)) (M (Tm B D) λx8=>V ((aP.mk 5 0 x8.1),x8.2)))
def aUw:KK (A93 []) awX (avG B):=λ_ _ r h=>ie h (λda h=>be h λ_ j7 h=>rr h [aS da,(3,.call (o5 B j7) [(0,0)] [])]) λda h=>ie h (λc1 h=>be h λ_ ir h=>rr h [aS da,aX c1,(3,.call (aTF B ir) [(0,0)] [])]) λc1 h=>be h λ_ lr h=>rr h [aS da,aX c1,(2,.call (aTE B lr) [(0,0)] [])]
def F93:=avG
def S1:KK (Cx E0 93 aFz aym) awX (F93 B):=λ_ _ _ h=>ca (X:=x93) (aUw B h)
def axT:AV:=.agg (sF ep.1)
def aoV:List (Nat×Bx):= (sS (eN ep.2))
def ZG:=fx E0 Tryz.f169 [0]
def BQ:=Ax ZG axT aoV
def avB:LS:=⟨[aV 0,(2,.slice 3 1 (O J) (dP J)),(3,iI R),aV 8,(9,.ms 29 5 0 (O bB)),(15,.slice 3 1 (O aa) (dP aa)),(16,iI N),(17,iI ab)],(ZJ (eN ao) (sF al) bB)⟩
def ava:LS:=⟨[aV 0,(3,iI C),aV 8,(9,.ms 29 5 0 (O bB)),(31,.slice 3 1 (O J) (dP J)),(32,iI R),(33,iI N)],(ZJ (eN ao) (sF al) bB)⟩
def avb:LS:=⟨[aV 0,(3,ck C),aV 8,(9,.ms 29 5 0 (O bB))],(ZJ (eN D) (sF al) bB)⟩
def avc:LS:=⟨[aV 0,(2,.slice 3 1 (O J) (dP J)),(3,iI R),aV 8,(9,.ms 29 5 0 (O bB))],(ZJ (eN D) (sF al) bB)⟩
def aog:LS:=⟨[aV 0,(1,.slice 3 1 (O aa) (dP aa)),(2,.slice 3 1 (O aO) (dP aO)),(3,iI aR)],(sS (eN D))⟩
def WV (bD:Wf3) (f7:aN->Int->aN->Int->Int->aG->bP->v8->G (bP×aG)) (n:Nat) (g9:aN) (mR:Int) (a0:aN) (a3 a4:Int) (b0:aG) (b8:bP) (nT:v8):G (bP×aG):=
 ite (A' (a4<a3)) (M (idx a0 a4) λx3=>ite (x3==mR) (M (app nT [(bP.mk 1 a4 pr)]) λgG=>f7 g9 mR a0 a3 (ba (a4+1)) b0 b8 gG) (f7 g9 mR a0 a3 (ba (a4+1)) b0 b8 nT)) (bD g9 mR b0 b8 nT)
def aOx {bD} (cV:KK (BQ [1,1,1]) avc bD) {f7} (aL:KK (BQ (aI 43)) avB f7) (n:Nat):KK (BQ (aI 43)) avB (WV bD f7 n):=λ_ _ _ _ _ _ _ _ r h=>ie h (λda h=>be h λ_ eP h=>ie h (λc1 h=>be h λ_ lD h=>ra (aL h) [aD da,(1,R3.idx eP),bN c1,(4,YH.kq lD)]) λc1 h=>ra (aL h) [aD da,(1,R3.idx eP),bN c1]) λda h=>ra (cV h) [aD da]
def JX (bD:Wf3):Nat->aN->Int->aN->Int->Int->aG->bP->v8->G (bP×aG)
 |0=>dK.z
 |n+1=>WV bD (JX bD n) n
def azn {bD} (cV:KK (BQ [1,1,1]) avc bD):∀n:Nat,KK (BQ (aI 43)) avB (JX bD n)
 |0=>KC.h
 |n+1=>aOx cV (azn cV n) n
def WU (bw:Wf4) (f7:Int->aN->Int->Int->aG->bP->v8->G (bP×aG)) (n:Nat) (mR:Int) (a0:aN) (a3 a4:Int) (b0:aG) (b8:bP) (nT:v8):G (bP×aG):=
 ite (A' (a4<a3)) (M (idx a0 a4) λx3=>ite (x3==mR) (M (app nT [(bP.mk 2 a4 pr)]) λgG=>f7 mR a0 a3 (ba (a4+1)) b0 b8 gG) (f7 mR a0 a3 (ba (a4+1)) b0 b8 nT)) (bw mR b0 b8 nT)
def aOw {bw} (cQ:KK (BQ (aI 31)) avb bw) {f7} (aL:KK (BQ (aI 87)) ava f7) (n:Nat):KK (BQ (aI 87)) ava (WU bw f7 n):=λ_ _ _ _ _ _ _ r h=>ie h (λda h=>be h λ_ eP h=>ie h (λc1 h=>be h λ_ lD h=>ra (aL h) [aD da,(1,R3.idx eP),bN c1,(4,YH.kq lD)]) λc1 h=>ra (aL h) [aD da,(1,R3.idx eP),bN c1]) λda h=>ra (cQ h) [aD da]
def JW (bw:Wf4):Nat->Int->aN->Int->Int->aG->bP->v8->G (bP×aG)
 |0=>dK.z
 |n+1=>WU bw (JW bw n) n
def azm {bw} (cQ:KK (BQ (aI 31)) avb bw):∀n:Nat,KK (BQ (aI 87)) ava (JW bw n)
 |0=>KC.h
 |n+1=>aOw cQ (azm cQ n) n
def O7 (b8:bP) (nT:v8):G (bP×aG):=
 M (rS B D (ba ((O nT:Int)+1))) λx5=>ite (A' (x5.1<(O nT:Int))) (M (eT (O nT) x5.1) λkz=>M (nT[0+kz]?) λgF=>V (gF,x5.2)) (M (F93 B x5.2 C) λkz=>V ((bP.mk 3 0 kz.1),kz.2))
def aOv:KK (BQ (aI 31)) avb (O7 B):=λ_ _ _ _ r h=>be h λ_ jI h=>let zA:SE:=[(4,.call (o5 B jI) [(0,0)] [])];ie h (λda h=>be h λkz jK h=>be h λ_ iC h=>bt h zA [bl da,(2,du jK),(0,YH.row iC)]) λda h=>be h λkz jK h=>bt h zA [bl da,(2,.call (S1 B jK) [(0,0)] [])]
def WT:G (bP×aG):=
 JW (O7 B) B R J (O J:Int) 0 D al bB
def aOu:KK (BQ [1,1,1]) avc (WT B):=λ_ _ _ _ _ r h=>ra (azm (aOv B) B h) []
def aBH:G (bP×aG):=
 JX (WT B) B aO aR aa (O aa:Int) 0 D zTO []
def aOt:KK (BQ []) aog (aBH B):=λ_ _ _ _ r h=>ra (azn (aOu B) B h) [(5,.born [9] [] 29 I 105 5)]
def Y2:=aBH
def aHI:KK (Cx E0 169 axT aoV) aog (Y2 B):=λ_ _ _ _ _ h=>ca (X:=ZG) (aOt B h)
def Uz:AV:=.agg (gC eq.1)
def Qa:List (Nat×Bx):= (sS (eN eq.2))
def x134:=fx E0 Tryz.f134 [0]
def IA:=Ax x134 Uz Qa
def O0:=Cx E0 134 Uz Qa
def aJK (b8 gD:aj):LS:=⟨[aV 0,aV 8,aV 11],[(0,kn (eN D)),(8,q2_),(11,.flat 107 [iI 3,iI gD.fZ,iI gD.cS.aB,iI gD.cS.dw,iI gD.cS.bp.aB,iI gD.cS.bp.dt,.str gD.cS.bp.cH,iI gD.cA.aB,iI gD.cA.dw,iI gD.cA.bp.aB,iI gD.cA.bp.dt,.str gD.cA.bp.cH,.bY])]⟩
def aJJ (b8:aj):LS:=⟨[aV 0,(1,.slice 3 1 (O J) (dP J)),(2,.slice 3 1 (O aa) (dP aa)),aV 8,(10,iI N)],[(0,kn (eN ao)),(8,q2_)]⟩
def arZ (cJ:aj) (BJ:bA):LS:=⟨[aV 0,(1,.slice 3 1 (O J) (dP J)),(2,.slice 3 1 (O aa) (dP aa)),(3,iI N),aV 8,aV 12,(13,iI ab)],[(0,kn (eN ao)),(8,ll (fO d6 .bY)),(12,ll (fO cJ (.ms 104 13 0 (O BJ)))),(104,HZ BJ)]⟩
def arf (BJ:bA):LS:=⟨[aV 8,aV 12],[(0,kn (eN D)),(8,ll (fO ad .bY)),(12,ll (fO d6 (.ms 104 13 0 (O BJ)))),(104,HZ BJ)]⟩
def aJI (b0:aG) (b8:aj):LS:=⟨[aV 0,(1,.slice 3 1 (O J) (dP J)),(2,.slice 3 1 (O aa) (dP aa)),(3,iI N),aV 8,(9,iI ab),(27,.bool co)],[(0,kn (eN b0)),(8,q2_)]⟩
def tL:LS:=⟨[aV 0,(1,.slice 3 1 (O aa) (dP aa)),(2,.slice 3 1 (O aO) (dP aO)),(3,iI aR)],(sS (eN D))⟩
def Pg (iM:Th) (n:Nat) (b0:aG) (b8 gD:aj):G (aj×aG):=
 M (Ay n b0 6) λx2=>ite x2.1 (V ((aj.mk 3 gD.fZ gD.cA gD.cS []),x2.2)) (V ((aj.mk 3 gD.fZ gD.cS gD.cA []),x2.2))
def aAZ {iM} (nq:KK O0 tL iM) (n:Nat):KK (IA (aI 8051)) aJK (Pg iM n):=λ_ _ _ r h=>be h λ_ dq h=>ie h (λda h=>rr h [(1,.call (cb (o4 n dq) da) [(0,0)] []),(10,.kH 8 (.flat 0 (uu 12 [.sl 0 107 13 0 []])))]) λda h=>rr h [(1,.call (cb (o4 n dq) da) [(0,0)] []),(2,.kH 8 (.flat 0 (uu 12 [.sl 0 107 13 0 []])))]
def Pf (iM:Th) (n:Nat) (ee g9:aN) (ajX:Int) (b0:aG) (b8:aj):G (aj×aG):=
 M (rS n b0 6) λx2=>M (Y2 n x2.2 ee g9 ajX) λx9=>M (F93 n x9.2 ajX) λdZ=>M (Ay n dZ.2 3) λlK=>ite lK.1 (M (Y2 n lK.2 ee g9 ajX) λyQ=>Pg iM n yQ.2 s8 (aj.mk 3 (ba (1+x2.1)) x9.1 yQ.1 [])) (Pg iM n lK.2 s8 (aj.mk 3 (ba (1+x2.1)) x9.1 (bP.mk 3 0 dZ.1) []))
def aAY {iM} (nq:KK O0 tL iM) (n:Nat):KK (IA (aI 1907)) aJJ (Pf iM n):=λ_ _ _ _ _ r h=>be h λ_ dq h=>be h λ_ ir h=>be h λ_ gj h=>be h λ_ j8 h=>let zA:SE:=[(1,.call (o5 n dq) [(0,0)] []),(5,.call (aHI n ir) [(0,0)] []),(2,.call (S1 n gj) [(0,0)] [])];ie h (λda h=>be h λ_ yC h=>cD (aAZ nq n h) zA [(5,.call (cb (o4 n j8) da) [(0,0)] []),(4,.call (aHI n yC) [(0,0)] [])]) λda h=>cD (aAZ nq n h) zA [(5,.call (cb (o4 n j8) da) [(0,0)] [])]
def XG (iM:Th) (bD:Wf5) (f7:aN->aN->Int->Int->aG->aj->aj->bA->G (aj×aG)) (n:Nat) (ee g9:aN) (oO a0:Int) (b0:aG) (b8 cJ:aj) (BJ:bA):G (aj×aG):=
 ite (!A' (a0<0)) (M (iM b0 ee g9 (ba (oO-1))) λfA=>M (app BJ [fA.1]) λdZ=>f7 ee g9 oO (ba (a0-1)) fA.2 (aj.mk b8.aQ b8.fZ b8.cS b8.cA []) (aj.mk cJ.aQ cJ.fZ cJ.cS cJ.cA dZ) dZ) (bD b0 (aj.mk b8.aQ b8.fZ b8.cS b8.cA []) (aj.mk cJ.aQ cJ.fZ cJ.cS cJ.cA BJ) BJ)
def aQf {iM} (nq:KK O0 tL iM) {bD} (cV:KK (IA (aI 63)) arf bD) {f7} (aL:KK (IA (aI 175)) arZ f7) (n:Nat):KK (IA (aI 175)) arZ (XG iM bD f7 n):=λ_ _ _ _ _ _ _ _ r h=>ie h (λda h=>be h λfA iY h=>be h λ_ gj h=>ra (aL h) [aX da,(7,.call (nq iY) [(0,0)] []),(0,.laid (bH (Bx.rows U 107 13) (fE.map [fA.1]).symm)),(0,fE.kq gj)]) λda h=>ra (cV h) [aX da]
def Kd (iM:Th) (bD:Wf5):Nat->aN->aN->Int->Int->aG->aj->aj->bA->G (aj×aG)
 |0=>dK.z
 |n+1=>XG iM bD (Kd iM bD n) n
def azO {iM} (nq:KK O0 tL iM) {bD} (cV:KK (IA (aI 63)) arf bD):∀n:Nat,KK (IA (aI 175)) arZ (Kd iM bD n)
 |0=>KC.h
 |n+1=>aQf nq cV (azO nq cV n) n
def XF (iM:Th) (n:Nat) (b0:aG) (b8 cJ:aj) (BJ:bA):G (aj×aG):=
 V ((aj.mk cJ.aQ cJ.fZ cJ.cS cJ.cA BJ),b0)
def aQe {iM} (nq:KK O0 tL iM) (n:Nat):KK (IA (aI 63)) arf (XF iM n):=λ_ _ _ BJ r h=>rr h [(2,fE.eD 104 BJ),(0,.kH 8 (.flat 0 (uu 12 [.sl 0 0 0 0 []])))]
def AG (iM:Th) (n:Nat) (ee g9:aN) (oO op9:Int) (a0:Bool) (b0:aG) (b8:aj):G (aj×aG):=
 ite a0 (ite (A' (0<(O ee:Int))) (M (rS n b0 (O ee:Int)) λx9=>M (idx ee x9.1) λdG=>Pf iM n ee g9 dG x9.2 s8) (Pf iM n ee g9 4 b0 s8)) (ite (op9==6) (M (iM b0 ee g9 (ba (oO-1))) λx9=>V ((aj.mk 6 0 zTO zTO [x9.1]),x9.2)) (M (rS n b0 3) λdG=>Kd iM (XF iM n) n ee g9 oO dG.1 dG.2 s8 (aj.mk (ba ((ba (4+op9))-7)) 0 zTO zTO []) []))
def VB {iM} (nq:KK O0 tL iM) (n:Nat):KK (IA (aI 243)) aJI (AG iM n):=λ_ _ _ _ _ _ _ r h=>ie h (λda bq=>by subst da;exact (ie bq (λc1 bq=>be bq λx9 ir bq=>be bq λdG fR bq=>ra (aAY nq n bq) [aZ c1,(4,.call (o5 n ir) [(0,0)] []),(0,R3.idx fR)]) λc1 bq=>ra (aAY nq n bq) [aZ c1])) λda bq=>by subst da;exact (ie bq (λc1 bq=>be bq λx9 ir bq=>rr bq [aX c1,(6,.call (nq ir) [(0,0)] []),(0,.laid (bH (Bx.rows U 107 13) (fE.map [x9.1]).symm)),(2,fE.eD 83 [x9.1])]) λc1 bq=>be bq λdG fR bq=>ra (azO nq (aQe nq n) n bq) [aX c1,(8,.call (o5 n fR) [(0,0)] []),(1,.born [] [(12,12)] 104 I 107 13)])
def amB (iM:Th) (n:Nat) (c0:aG) (ee g9:aN) (oO:Int):G (aj×aG):=
 M (rS n c0 9) λx3=>ite (x3.1==0) (M (Ay n x3.2 2) λfA=>ite fA.1 (M (rS n fA.2 2) λgG=>V ((aj.mk (ba (1+gG.1)) 0 zTO zTO []),gG.2)) (ite (A' (x3.1<6)) (AG iM n ee g9 oO x3.1 I fA.2 s8) (AG iM n ee g9 oO x3.1 (A' (oO<1)) fA.2 s8))) (ite (A' (x3.1<6)) (AG iM n ee g9 oO x3.1 I x3.2 s8) (AG iM n ee g9 oO x3.1 (A' (oO<1)) x3.2 s8))
def aQd {iM} (nq:KK O0 tL iM) (n:Nat):KK (IA []) tL (amB iM n):=λ_ _ _ _ r h=>be h λ_ eP h=>let zA:SE:=[(2,.call (o5 n eP) [(0,0)] [])];ie h (λda h=>be h λ_ iY h=>ie h (λc1 h=>be h λ_ lD h=>bt h zA [aS da,(2,.call (cb (o4 n iY) c1) [(0,0)] []),(3,.call (o5 n lD) [(0,0)] []),(3,.kH 8 (.flat 0 (uu 12 [.sl 0 107 13 0 []])))]) λc1 h=>let zB:SE:=dx zA [aS da,(2,.call (cb (o4 n iY) c1) [(0,0)] [])];ie h (λc2 h=>cD (VB nq n h) zB [aZ c2]) λc2 h=>cD (VB nq n h) zB [aZ c2]) λda h=>ie h (λc1 h=>cD (VB nq n h) zA [aS da,bl c1]) λc1 h=>cD (VB nq n h) zA [aS da,bl c1]
def GB:Nat->aG->aN->aN->Int->G (aj×aG)
 |0,_,_,_,_=>A
 |n+1,c0,ee,g9,oO=>amB (GB n) n c0 ee g9 oO
def atl:∀n:Nat,KK O0 tL (GB n)
 |0=>λ_ _ _ _ _ h=>nz h
 |n+1=>λ_ _ _ _ _ h=>ca (X:=x134) (aQd (atl n) n h)
def dj:AV:=.bool co
def Yo:=fx E0 Tryz.f175 []
def A175:=Ax Yo dj bE
def aoe:LS:=⟨[(0,ck C)],[]⟩
def alP (n:Nat) (k0:Int):G Bool:=
 ite (k0==3) (V I) (ite (k0==4) (V I) (V (k0==5)))
def aOd:KK (A175 []) aoe (alP B):=λ_ r h=>ie h (λc0 h=>rr h [aS c0]) λc0 h=>ie h (λc1 h=>rr h [aS c0,aS c1]) λc1 h=>rr h [aS c0,aS c1]
def LN:=alP
def aHC:KK (Cx E0 175 dj bE) aoe (LN B):=λ_ _ h=>ca (X:=Yo) (aOd B h)
def x170:=fx E0 Tryz.f170 []
def TL:=Ax x170 dj bE
def EB:LS:=⟨[(5,.slice 3 1 (O J) (dP J)),(6,iI R),(7,iI N)],[]⟩
def avd:LS:=⟨[],[]⟩
def aof:LS:=⟨[(0,.slice 3 1 (O J) (dP J))],[]⟩
def WR (f7:aN->Int->Int->G Bool) (n:Nat) (t5:aN) (t6 t7:Int):G Bool:=
 ite (A' (t7<t6)) (M (idx t5 t7) λx2=>M (LN n x2) λx7=>ite (!x7) (V U) (f7 t5 t6 (ba (t7+1)))) cc
def aOs {aH} (aY:KK (TL [1,1]) avd aH) {f7} (aL:KK (TL (aI 21)) EB f7) (n:Nat):KK (TL (aI 21)) EB (WR aH f7 n):=λ_ _ _ r h=>ie h (λc0 h=>be h λ_ dq h=>be h λ_ j7 h=>let zA:SE:=[aD c0,(0,R3.idx dq),jN (aHC n j7)];ie h (λc1 h=>bt h zA [aD c1]) λc1 h=>cD (aL h) zA [aD c1]) λc0 h=>ra (aY h) [aD c0]
def JV (aH:G Bool):Nat->aN->Int->Int->G Bool
 |0=>dK.z
 |n+1=>WR aH (JV aH n) n
def azl {aH} (aY:KK (TL [1,1]) avd aH):∀n:Nat,KK (TL (aI 21)) EB (JV aH n)
 |0=>KC.h
 |n+1=>aOs aY (azl aY n) n
def alW (n:Nat):G Bool:=
 V I
def aOr:KK (TL [1,1]) avd (alW B):=λr h=>rr h []
def alV:G Bool:=
 JV (alW B) B J (O J:Int) 0
def aOq:KK (TL []) aof (alV B):=λ_ r h=>ra (azl (aOr B) B h) []
def K9:=alV
def aHH:KK (Cx E0 170 dj bE) aof (K9 B):=λ_ _ h=>ca (X:=x170) (aOq B h)
def dU:AV:=.int .i64 C
def x171:=fx E0 Tryz.f171 []
def TK:=Ax x171 dU bE
def Vk:=Cx E0 171 dU bE
def ave:LS:=⟨[(1,ck C),aV 2,(5,ck R)],[(2,ll (gC ad))]⟩
def avf:LS:=⟨[(1,ck C)],[]⟩
def r5:LS:=⟨[(0,.agg (gC ad)),(1,ck bg)],[]⟩
def WQ (pR:Y8) (aH:Wf6) (f7:Int->Int->aj->G Int) (n:Nat) (n1 i5:Int) (b2:aj):G Int:=
 ite (A' (i5<(O b2.fArgs:Int))) (ite (!A' (24<n1)) (M (idx b2.fArgs i5) λdZ=>M (pR dZ n1) λjh=>f7 jh (ba (i5+1)) b2) (aH n1)) (aH n1)
def aOp {pR} (CI:KK Vk r5 pR) {aH} (aY:KK (TK [1,1,1]) avf aH) {f7} (aL:KK (TK (aI 43)) ave f7) (n:Nat):KK (TK (aI 43)) ave (WQ pR aH f7 n):=λ_ _ _ r h=>ie h (λc0 h=>ie h (λc1 h=>be h λ_ gj h=>be h λ_ iX h=>ra (aL h) [bl c0,aS c1,(4,fE.idx gj),jl (CI iX)]) λc1 h=>ra (aY h) [bl c0,aS c1]) λc0 h=>ra (aY h) [bl c0]
def JU (pR:Y8) (aH:Wf6):Nat->Int->Int->aj->G Int
 |0=>dK.z
 |n+1=>WQ pR aH (JU pR aH n) n
def azk {pR} (CI:KK Vk r5 pR) {aH} (aY:KK (TK [1,1,1]) avf aH):∀n:Nat,KK (TK (aI 43)) ave (JU pR aH n)
 |0=>KC.h
 |n+1=>aOp CI aY (azk CI aY n) n
def aBG (pR:Y8) (n:Nat) (n1:Int):G Int:=
 V n1
def aOo {pR} (CI:KK Vk r5 pR) (n:Nat):KK (TK [1,1,1]) avf (aBG pR n):=λ_ r h=>rr h []
def alU (pR:Y8) (n:Nat) (p0:aj) (n1:Int):G Int:=
 JU pR (aBG pR n) n (ba (n1+1)) 0 p0
def aOn {pR} (CI:KK Vk r5 pR) (n:Nat):KK (TK []) r5 (alU pR n):=λ_ _ r h=>ra (azk CI (aOo CI n) n h) []
def RN:Nat->aj->Int->G Int
 |0,_,_=>A
 |n+1,p0,n1=>alU (RN n) n p0 n1
def aHG:∀n:Nat,KK Vk r5 (RN n)
 |0=>λ_ _ _ h=>nz h
 |n+1=>λ_ _ _ h=>ca (X:=x171) (aOn (aHG n) n h)
def Yp:=fx E0 Tryz.f172 []
def TJ:=Ax Yp dj bE
def Vs:=Cx E0 172 dj bE
def atA:LS:=⟨[(1,ck C),aV 2,(10,ck R),(11,ck N)],[(2,ll (gC ad))]⟩
def atH:LS:=⟨[],[]⟩
def WO (pQ:Y9) (aH:G Bool) (f7:Int->Int->Int->aj->G Bool) (n:Nat) (n1 a0 a3:Int) (b2:aj):G Bool:=
 ite (A' (a3<a0)) (M (idx b2.fArgs a3) λx7=>M (pQ x7 (ba (n1-1))) λiK=>ite iK (V I) (f7 n1 a0 (ba (a3+1)) b2)) aH
def aOm {pQ} (CH:KK Vs r5 pQ) {aH} (aY:KK (TJ [1,1,1]) atH aH) {f7} (aL:KK (TJ (aI 43)) atA f7) (n:Nat):KK (TJ (aI 43)) atA (WO pQ aH f7 n):=λ_ _ _ _ r h=>ie h (λc0 h=>be h λ_ j7 h=>be h λ_ gR h=>let zA:SE:=[aD c0,(5,fE.idx j7),jN (CH gR)];ie h (λc1 bq=>by subst c1;exact (rr bq zA)) λc1 bq=>by subst c1;exact (ra (aL bq) zA)) λc0 h=>ra (aY h) [aD c0]
def JT (pQ:Y9) (aH:G Bool):Nat->Int->Int->Int->aj->G Bool
 |0=>dK.z
 |n+1=>WO pQ aH (JT pQ aH n) n
def azj {pQ} (CH:KK Vs r5 pQ) {aH} (aY:KK (TJ [1,1,1]) atH aH):∀n:Nat,KK (TJ (aI 43)) atA (JT pQ aH n)
 |0=>KC.h
 |n+1=>aOm CH aY (azj CH aY n) n
def alT (pQ:Y9) (n:Nat):G Bool:=
 V U
def aOl {pQ} (CH:KK Vs r5 pQ) (n:Nat):KK (TJ [1,1,1]) atH (alT pQ n):=λr h=>rr h []
def WN (pQ:Y9) (n:Nat) (p0:aj) (n1:Int):G Bool:=
 ite (n1==0) (V I) (JT pQ (alT pQ n) n n1 (O p0.fArgs:Int) 0 p0)
def aOk {pQ} (CH:KK Vs r5 pQ) (n:Nat):KK (TJ []) r5 (WN pQ n):=λ_ _ r h=>ie h (λc0 h=>rr h [aZ c0]) λc0 h=>ra (azj CH (aOl CH n) n h) [aZ c0]
def OY:Nat->aj->Int->G Bool
 |0,_,_=>A
 |n+1,p0,n1=>WN (OY n) n p0 n1
def aHF:∀n:Nat,KK Vs r5 (OY n)
 |0=>λ_ _ _ h=>nz h
 |n+1=>λ_ _ _ h=>ca (X:=Yp) (aOk (aHF n) n h)
def x193:=fx E0 Tryz.f193 []
def A193:=Ax x193 dj bE
def Ez:LS:=⟨[(0,.agg (gC ad))],[]⟩
def alE (n:Nat) (p0:aj):G Bool:=
 ite (p0.fZ==0) (ite ((p0.cS.aB==0)&&((p0.cS.dw==0)&&(((p0.cS.bp.aB==0)&&((p0.cS.bp.dt==0)&&((A' (p0.cS.bp.cH=I'))&&I)))&&I))) (V ((p0.cA.aB==0)&&((p0.cA.dw==0)&&(((p0.cA.bp.aB==0)&&((p0.cA.bp.dt==0)&&((A' (p0.cA.bp.cH=I'))&&I)))&&I)))) (V U)) (V U)
def aND:KK (A193 []) Ez (alE B):=λ_ r h=>ie h (λc0 h=>ie h (λc1 h=>rr h [bl c0,bl c1]) λc1 h=>rr h [bl c0,bl c1]) λc0 h=>rr h [bl c0]
def RQ:=alE
def adG:KK (Cx E0 193 dj bE) Ez (RQ B):=λ_ _ h=>ca (X:=x193) (aND B h)
def ZE:=fx E0 Tryz.f158 []
def A158:=Ax ZE dj bE
def y4:LS:=⟨[(0,.agg (iF em))],[]⟩
def ame (n:Nat) (v0:aP):G Bool:=
 ite (v0.aB==1) (ite (v0.dt==0) (V (A' (v0.cH=I'))) (V U)) (ite (v0.aB==2) (ite (v0.dt==0) (V (A' (v0.cH=I'))) (V U)) (ite (v0.aB==3) (ite (v0.dt==0) (V (A' (v0.cH=I'))) (ite (v0.dt==1) (V (A' (v0.cH=I'))) (V U))) (ite (v0.aB==4) (V (A' (v0.cH=I'))) (ite (v0.aB==5) (ite (v0.dt==0) (V (!A' (64<(v0.cH.size:Int)))) (V U)) (V U)))))
def aOH:KK (A158 []) y4 (ame B):=λ_ r h=>ie h (λc0 h=>ie h (λc1 h=>rr h [bl c0,aZ c1]) λc1 h=>rr h [bl c0,aZ c1]) λc0 h=>ie h (λc1 h=>ie h (λc2 h=>rr h [bl c0,aX c1,aZ c2]) λc2 h=>rr h [bl c0,aX c1,aZ c2]) λc1 h=>let zA:SE:=[bl c0,aX c1];ie h (λc2 h=>ie h (λc3 h=>bt h zA [aX c2,aZ c3]) λc3 h=>ie h (λc4 h=>bt h zA [aX c2,aZ c3,aZ c4]) λc4 h=>bt h zA [aX c2,aZ c3,aZ c4]) λc2 h=>let zB:SE:=dx zA [aX c2];ie h (λc3 h=>bt h zB [aX c3]) λc3 h=>ie h (λc4 h=>ie h (λc5 h=>bt h zB [aX c3,aX c4,aZ c5]) λc5 h=>bt h zB [aX c3,aX c4,aZ c5]) λc4 h=>bt h zB [aX c3,aX c4]
def X6:=ame
def aHJ:KK (Cx E0 158 dj bE) y4 (X6 B):=λ_ _ h=>ca (X:=ZE) (aOH B h)
def x142:=fx E0 Tryz.f142 []
def A142:=Ax x142 dj bE
def amu:G Bool:=
 M (X6 B em) λx4=>ite x4 (V (!A' (em.aB<3))) (V U)
def aPF:KK (A142 []) y4 (amu B):=λ_ r h=>be h λ_ ic h=>ie h (λc0 bq=>by subst c0;exact (rr bq [jN (aHJ B ic)])) λc0 bq=>by subst c0;exact (rr bq [jN (aHJ B ic)])
def Tw:=amu
def adJ:KK (Cx E0 142 dj bE) y4 (Tw B):=λ_ _ h=>ca (X:=x142) (aPF B h)
def x194:=fx E0 Tryz.f194 []
def A194:=Ax x194 dU bE
def aJw:LS:=⟨[aV 5,(7,.slice 3 1 (O J) (dP J))],[(5,.flat 105 (sF al))]⟩
def aoa:LS:=⟨[(0,.slice 3 1 (O J) (dP J)),(1,.slice 3 1 (O aa) (dP aa)),(2,.agg (sF al))],[]⟩
def O5 (n:Nat) (aaU:aN) (b5:bP):G Int:=
 ite (A' (b5.dw<0)) (V 0) (ite (!A' (b5.dw<(O aaU:Int))) (V 0) (ite (!((b5.bp.aB==0)&&((b5.bp.dt==0)&&((A' (b5.bp.cH=I'))&&I)))) (V 0) (M (idx aaU b5.dw) λlK=>V lK)))
def aAR:KK (A194 [1,1,1]) aJw (O5 B):=λ_ _ r h=>ie h (λc0 h=>rr h [aS c0]) λc0 h=>ie h (λc1 h=>rr h [aS c0,bN c1]) λc1 h=>ie h (λc2 h=>rr h [aS c0,bN c1,bN c2]) λc2 h=>be h λ_ j8 h=>rr h [aS c0,bN c1,bN c2,(4,R3.idx j8)]
def alD:G Int:=
 ite (al.aB==3) (ite (al.dw !=0) (V 0) (M (Tw B al.bp) λgG=>ite (!gG) (V 0) (V al.bp.aB))) (ite (al.aB==2) (O5 B aa al) (ite (al.aB==1) (O5 B J al) (V 0)))
def aNC:KK (A194 []) aoa (alD B):=λ_ _ _ r h=>ie h (λc0 h=>ie h (λc1 h=>rr h [dz c0,aZ c1]) λc1 h=>be h λ_ lD h=>let zA:SE:=[dz c0,aZ c1,jN (adJ B lD)];ie h (λc2 h=>bt h zA [aD c2]) λc2 h=>bt h zA [aD c2]) λc0 h=>ie h (λc1 h=>ra (aAR B h) [dz c0,aX c1]) λc1 h=>ie h (λc2 h=>ra (aAR B h) [dz c0,aX c1,aX c2]) λc2 h=>rr h [dz c0,aX c1,aX c2]
def Lj:=alD
def aHu:KK (Cx E0 194 dU bE) aoa (Lj B):=λ_ _ _ _ h=>ca (X:=x194) (aNC B h)
def Sg:=fx E0 Tryz.f173 []
def Pt:=Ax Sg dj bE
def RY:=Cx E0 173 dj bE
def atI:LS:=⟨[(0,.slice 3 1 (O J) (dP J)),(1,.slice 3 1 (O aa) (dP aa)),aV 5,(70,iI N),(71,iI ab)],[(5,ll (gC ad))]⟩
def atM:LS:=⟨[],[]⟩
def aJB:LS:=⟨[(0,.slice 3 1 (O J) (dP J)),(1,.slice 3 1 (O aa) (dP aa)),aV 5],[(5,ll (gC ad))]⟩
def tK:LS:=⟨[(0,.slice 3 1 (O J) (dP J)),(1,.slice 3 1 (O aa) (dP aa)),(2,.agg (gC ad))],[]⟩
def WM (lT:NW) (aH:G Bool) (f7:aN->aN->Int->Int->aj->G Bool) (n:Nat) (fY g8:aN) (a0 a3:Int) (b5:aj):G Bool:=
 ite (A' (a3<a0)) (M (idx b5.fArgs a3) λx9=>M (lT fY g8 x9) λiK=>ite (!iK) (V U) (f7 fY g8 a0 (ba (a3+1)) b5)) aH
def aOj {lT} (vm:KK RY tK lT) {aH} (aY:KK (Pt (aI 31)) atM aH) {f7} (aL:KK (Pt (aI 87)) atI f7) (n:Nat):KK (Pt (aI 87)) atI (WM lT aH f7 n):=λ_ _ _ _ _ r h=>ie h (λc0 h=>be h λ_ ir h=>be h λ_ gR h=>let zA:SE:=[aD c0,(7,fE.idx ir),rJ (vm gR)];ie h (λc1 h=>bt h zA [aD c1]) λc1 h=>cD (aL h) zA [aD c1]) λc0 h=>ra (aY h) [aD c0]
def Gj (lT:NW) (aH:G Bool):Nat->aN->aN->Int->Int->aj->G Bool
 |0=>dK.z
 |n+1=>WM lT aH (Gj lT aH n) n
def azi {lT} (vm:KK RY tK lT) {aH} (aY:KK (Pt (aI 31)) atM aH):∀n:Nat,KK (Pt (aI 87)) atI (Gj lT aH n)
 |0=>KC.h
 |n+1=>aOj vm aY (azi vm aY n) n
def alS (lT:NW) (n:Nat):G Bool:=
 V I
def aOi {lT} (vm:KK RY tK lT) (n:Nat):KK (Pt (aI 31)) atM (alS lT n):=λr h=>rr h []
def Ky (lT:NW) (n:Nat) (fY g8:aN) (b5:aj):G Bool:=
 M (RQ n b5) λx2=>ite (!x2) (V U) (Gj lT (alS lT n) n fY g8 (O b5.fArgs:Int) 0 b5)
def ajI {lT} (vm:KK RY tK lT) (n:Nat):KK (Pt [1,1]) aJB (Ky lT n):=λ_ _ _ r h=>be h λ_ dq h=>ie h (λc0 h=>rr h [rJ (adG n dq),aD c0]) λc0 h=>ra (azi vm (aOi vm n) n h) [rJ (adG n dq),aD c0]
def alR (lT:NW) (n:Nat) (fY g8:aN) (p2:aj):G Bool:=
 ite (p2.aQ==1) (M (RQ n p2) λx8=>ite x8 (V ((O p2.fArgs:Int)==0)) (V U)) (ite (p2.aQ==2) (M (RQ n p2) λfA=>ite fA (V ((O p2.fArgs:Int)==0)) (V U)) (ite (p2.aQ==3) (M (Lj n fY g8 p2.cS) λgG=>ite ((O p2.fArgs:Int)==0) (ite (!A' (p2.fZ<1)) (ite (!A' (6<p2.fZ)) (ite (gG !=0) (M (Lj n fY g8 p2.cA) λx42=>V (gG==x42)) (V U)) (V U)) (V U)) (V U)) (ite (p2.aQ==4) (Ky lT n fY g8 p2) (ite (p2.aQ==5) (Ky lT n fY g8 p2) (ite (p2.aQ==6) (ite ((O p2.fArgs:Int) !=1) (V U) (Ky lT n fY g8 p2)) (V U))))))
def aOh {lT} (vm:KK RY tK lT) (n:Nat):KK (Pt []) tK (alR lT n):=λ_ _ _ r h=>ie h (λc0 h=>be h λ_ lr h=>let zA:SE:=[bl c0,jl (adG n lr)];ie h (λc1 bq=>by subst c1;exact (rr bq zA)) λc1 bq=>by subst c1;exact (rr bq zA)) λc0 h=>let zA:SE:=[bl c0];ie h (λc1 h=>be h λ_ iY h=>let zB:SE:=dx zA [aX c1,jl (adG n iY)];ie h (λc2 bq=>by subst c2;exact (rr bq zB)) λc2 bq=>by subst c2;exact (rr bq zB)) λc1 h=>let zB:SE:=dx zA [aX c1];ie h (λc2 h=>be h λ_ lD h=>let zC:SE:=dx zB [aX c2,lX (aHu n lD)];ie h (λc3 h=>let zD:SE:=dx zC [bl c3];ie h (λc4 h=>ie h (λc5 h=>ie h (λc6 h=>be h λ_ aDn h=>bt h zD [aZ c4,bl c5,aZ c6,uI (aHu n aDn)]) λc6 h=>bt h zD [aZ c4,bl c5,aZ c6]) λc5 h=>bt h zD [aZ c4,bl c5]) λc4 h=>bt h zD [aZ c4]) λc3 h=>bt h zC [bl c3]) λc2 h=>let zC:SE:=dx zB [aX c2];ie h (λc3 h=>cD (ajI vm n h) zC [aX c3]) λc3 h=>let zD:SE:=dx zC [aX c3];ie h (λc4 h=>cD (ajI vm n h) zD [aX c4]) λc4 h=>ie h (λc5 h=>ie h (λc6 h=>bt h zD [aX c4,aX c5,bl c6]) λc6 h=>cD (ajI vm n h) zD [aX c4,aX c5,bl c6]) λc5 h=>bt h zD [aX c4,aX c5]
def OX:Nat->aN->aN->aj->G Bool
 |0,_,_,_=>A
 |n+1,fY,g8,p2=>alR (OX n) n fY g8 p2
def aHE:∀n:Nat,KK RY tK (OX n)
 |0=>λ_ _ _ _ h=>nz h
 |n+1=>λ_ _ _ _ h=>ca (X:=Sg) (aOh (aHE n) n h)
def x135:=fx E0 Tryz.f135 []
def A135:=Ax x135 dU bE
def amA:G Int:=
 M (K9 B J) λx4=>ite (!x4) (V 1) (M (K9 B aa) λx9=>ite (!x9) (V 1) (M (RN B ad 0) λkz=>ite (A' (24<kz)) (V 2) (M (OY B ad 8) λkO=>ite kO (V 2) (M (OX B J aa ad) λim=>ite (!im) (V 50) (V 0)))))
def aQc:KK (A135 []) tK (amA B):=λ_ _ _ r h=>be h λ_ ic h=>let zA:SE:=[jN (aHH B ic)];ie h (λc0 h=>bt h zA [aD c0]) λc0 h=>be h λ_ ir h=>let zB:SE:=dx zA [aD c0,jl (aHH B ir)];ie h (λc1 h=>bt h zB [aD c1]) λc1 h=>be h λ_ jK h=>let zC:SE:=dx zB [aD c1,jl (aHG B jK)];ie h (λc2 h=>bt h zC [aD c2]) λc2 h=>be h λ_ mY h=>let zD:SE:=dx zC [aD c2,jl (aHF B mY)];ie h (λc3 bq=>by subst c3;exact (rr bq zD)) λc3 bq=>by subst c3;exact (be bq λim mc bq=>let zE:SE:=dx zD [lY (aHE B mc)];ie bq (λc4 bq=>bt bq zE [aD c4]) λc4 bq=>bt bq zE [aD c4])
def Db:=amA
def aHS:KK (Cx E0 135 dU bE) tK (Db B):=λ_ _ _ _ h=>ca (X:=x135) (aQc B h)
def x92:=fx E0 Tryz.f92 [0]
def A92:=Ax x92 Uz Qa
def avH:G (aj×aG):=
 M (GB B D aa aO aR) λx6=>M (Db B aa aO x6.1) λdZ=>ite (dZ==2) (M (GB B x6.2 aa aO 1) λkO=>V (kO.1,kO.2)) (V (x6.1,x6.2))
def aUx:KK (A92 []) tL (avH B):=λ_ _ _ _ r h=>be h λ_ km h=>be h λ_ gj h=>let zA:SE:=[(5,.call (atl B km) [(0,0)] []),lX (aHS B gj)];ie h (λda h=>be h λ_ mY h=>bt h zA [aD da,(3,.call (atl B mY) [(0,0)] [])]) λda h=>bt h zA [aD da]
def F92:=avH
def ev92:KK (Cx E0 92 Uz Qa) tL (F92 B):=λ_ _ _ _ _ h=>ca (X:=x92) (aUx B h)
def aFN:AV:=.agg (cX er.1)
def ayt:List (Nat×Bx):= (sS (eN er.2))
def x38:=fx E0 Tryz.f38 [0]
def A38:=Ax x38 aFN ayt
def aMg (b2 b5:af) (cE:bC):LS:=⟨[aV 0,aV 2,aV 5],[(0,kn (eN D)),(2,S8),(5,UO b5 (O cE)),(32,.rows U 44 5 (dI cE))]⟩
def axs (b2 b5:af) (cE:bC):LS:=⟨[aV 0,aV 2,(3,ck C),aV 5],[(0,kn (eN D)),(2,S8),(5,UO b5 (O cE)),(32,.rows U 44 5 (dI cE))]⟩
def aMf (b2:af):LS:=⟨[aV 0,aV 2,(3,ck C),(4,ck R)],[(0,kn (eN D)),(2,S8)]⟩
def My (b2 b5:af) (cE:bC):G (af×aG):=
 M (Ay B D 3) λx2=>ite x2.1 (M (F50 B (af.mk b5.aC cE) 1) λx8=>M (F92 B x2.2 x8 [] 1) λfA=>M (eT (O cE) 1) λdZ=>M (cE[0+dZ]?) λgF=>M (setAt cE (0+dZ) (ah.mk gF.aK gF.L gF.av gF.ar [fA.1])) λa0=>V ((af.mk b5.aC a0),fA.2)) (V ((af.mk b5.aC cE),x2.2))
def aua:KK (A38 (aI 1023)) aMg (My B):=λ_ _ b5 cE r h=>be h λ_ dq h=>ie h (λda h=>be h λx8 lr h=>be h λfA iY h=>be h λ_ gj h=>be h λ_ iC h=>be h λa0 Vg h=>rr h [(1,.call (cb (o4 B dq) da) [(0,0)] []),(4,.Aj (YR B lr) [cy.eD 32 cE] (R3.noDR (λ_=>bv) x8) [] [(80,bL)] [R3.eD 80 x8]),(0,.call (ev92 B iY) [(0,0)] []),(0,.laid (bH (Bx.rows U 107 13) (fE.map [fA.1]).symm)),(0,du gj),(1,cy.Jr 4 iC),(0,fE.eD 82 [fA.1]),(0,cy.clo 32 4 (.slice 107 13 [fA.1].length (eh [fA.1])) .undef iC Vg),(2,.seq 77 (bH (AV.ms 32 5 0) (eB Vg))),(0,.seq 79 (bH (λn_=>(AV.agg [q4_ b5,.ms 32 5 0 n_])) (eB Vg))),(0,.seq 85 (bH (λn_=>(AV.agg [q4_ b5,.ms 32 5 0 n_])) (eB Vg))),(0,.beq 2 (bH (UO b5) (eB Vg))),(0,.beq 5 (bH (UO b5) (eB Vg))),(0,cy.eD 32 a0)]) λda h=>rr h [(1,.call (cb (o4 B dq) da) [(0,0)] []),(2,cy.eD 32 cE)]
def HM (b2 b5:af) (cE:bC):G (af×aG):=
 ite (A' (3<C)) (M (Ay B D 3) λx5=>ite x5.1 (M (eT (O cE) 3) λdZ=>M (cE[0+dZ]?) λgF=>M (setAt cE (0+dZ) (ah.mk gF.aK gF.L gF.av [(br.mk [0] 1)] gF.aM)) λxJ=>My B x5.2 (af.mk 0 []) (af.mk b5.aC xJ) xJ) (My B x5.2 (af.mk 0 []) (af.mk b5.aC cE) cE)) (My B D (af.mk 0 []) (af.mk b5.aC cE) cE)
def atZ:KK (A38 (aI 511)) axs (HM B):=λ_ _ _ b5 _ r h=>ie h (λda h=>be h λ_ jI h=>ie h (λc1 h=>be h λ_ gj h=>be h λ_ iC h=>be h λ_ pC h=>ra (aua B h) [aX da,(2,.call (cb (o4 B jI) c1) [(0,0)] []),(5,R3.eD 69 [0]),(1,du gj),(1,fT.eD 71 [(br.mk [0] 1)]),(0,cy.uj 3 [.slice 121 2 [(br.mk [0] 1)].length (eK [(br.mk [0] 1)])] iC pC),(0,.beq 5 (bH (UO b5) (eB pC)))]) λc1 h=>ra (aua B h) [aX da,(2,.call (cb (o4 B jI) c1) [(0,0)] [])]) λda h=>ra (aua B h) [aX da]
def Mw (b2 b5:af) (cE:bC):G (af×aG):=
 ite (A' (2<C)) (M (Ay B D 3) λx5=>ite x5.1 (M (eT (O cE) 2) λdZ=>M (cE[0+dZ]?) λgF=>M (setAt cE (0+dZ) (ah.mk gF.aK gF.L gF.av [(br.mk [0] 0)] gF.aM)) λxJ=>HM B C x5.2 (af.mk 0 []) (af.mk b5.aC xJ) xJ) (HM B C x5.2 (af.mk 0 []) (af.mk b5.aC cE) cE)) (HM B C D (af.mk 0 []) (af.mk b5.aC cE) cE)
def aID:KK (A38 (aI 255)) axs (Mw B):=λ_ _ _ b5 _ r h=>ie h (λda h=>be h λ_ jI h=>ie h (λc1 h=>be h λ_ gj h=>be h λ_ iC h=>be h λ_ pC h=>ra (atZ B h) [aX da,(2,.call (cb (o4 B jI) c1) [(0,0)] []),(5,R3.eD 56 [0]),(1,du gj),(1,fT.eD 58 [(br.mk [0] 0)]),(0,cy.uj 3 [.slice 121 2 [(br.mk [0] 0)].length (eK [(br.mk [0] 0)])] iC pC),(0,.beq 5 (bH (UO b5) (eB pC)))]) λc1 h=>ra (atZ B h) [aX da,(2,.call (cb (o4 B jI) c1) [(0,0)] [])]) λda h=>ra (atZ B h) [aX da]
def Wf (b2:af):G (af×aG):=
 M (rS B D 3) λx2=>M (Gz B (NB #[105,100]) 4) λx4=>M (Gz B (NB #[111,119,110,101,114]) 4) λx6=>M (Gz B (NB #[105,100]) R) λdG=>M (Gz B (NB #[112,114,111,106,101,99,116]) 4) λdZ=>M (Gz B (NB #[116,105,116,108,101]) 5) λgG=>M (Gz B (NB #[100,111,110,101]) 3) λjh=>M (Gz B (NB #[112,114,111,106,101,99,116]) 4) λnP=>M (Gz B (NB #[112,101,114,115,111,110]) 4) λiq=>M (Gz B (NB #[116,97,115,107]) R) λmm=>M (ou 4 C) λxw=>M (Ay B x2.2 2) λEW=>ite EW.1 (M (eT xw 1) λx51=>M ([(ah.mk (NB #[112,114,111,106,101,99,116,115]) [x4,x6] 1 [] []),(ah.mk (NB #[116,97,115,107,115]) [dG,dZ,gG,jh] 1 [] []),(ah.mk (NB #[109,101,109,98,101,114,115]) [nP,iq] 2 [] []),(ah.mk (NB #[97,114,99,104,105,118,101,100]) [mm] 1 [] [])][0+x51]?) λCk=>M (setAt [(ah.mk (NB #[112,114,111,106,101,99,116,115]) [x4,x6] 1 [] []),(ah.mk (NB #[116,97,115,107,115]) [dG,dZ,gG,jh] 1 [] []),(ah.mk (NB #[109,101,109,98,101,114,115]) [nP,iq] 2 [] []),(ah.mk (NB #[97,114,99,104,105,118,101,100]) [mm] 1 [] [])] (0+x51) (ah.mk Ck.aK Ck.L Ck.av [(br.mk [1] 0)] Ck.aM)) λa0=>Mw B C EW.2 (af.mk 0 []) (af.mk x2.1 (a0.take xw)) (a0.take xw)) (Mw B C EW.2 (af.mk 0 []) (af.mk x2.1 ([(ah.mk (NB #[112,114,111,106,101,99,116,115]) [x4,x6] 1 [] []),(ah.mk (NB #[116,97,115,107,115]) [dG,dZ,gG,jh] 1 [] []),(ah.mk (NB #[109,101,109,98,101,114,115]) [nP,iq] 2 [] []),(ah.mk (NB #[97,114,99,104,105,118,101,100]) [mm] 1 [] [])].take xw)) ([(ah.mk (NB #[112,114,111,106,101,99,116,115]) [x4,x6] 1 [] []),(ah.mk (NB #[116,97,115,107,115]) [dG,dZ,gG,jh] 1 [] []),(ah.mk (NB #[109,101,109,98,101,114,115]) [nP,iq] 2 [] []),(ah.mk (NB #[97,114,99,104,105,118,101,100]) [mm] 1 [] [])].take xw))
def aIC:KK (A38 (aI 31)) aMf (Wf B):=λ_ _ _ _ r h=>be h λx2 dq h=>be h λx4 ic h=>be h λx6 km h=>be h λdG fR h=>be h λdZ gj h=>be h λgG lD h=>be h λjh iX h=>be h λnP pE h=>be h λiq oo h=>be h λmm oK h=>be h λxw Fz h=>be h λ_ Ve h=>let zA:SE:=[(1,.call (o5 B dq) [(0,0)] []),kj (FV B ic),kj (FV B km),jN (FV B fR),kj (FV B gj),kj (FV B lD),kj (FV B iX),jl (FV B pE),kj (FV B oo),jN (FV B oK),(2,fI.eD 15 [x4,x6]),(0,.pN 16 (.agg (uu 3 [.sl 0 121 2 0 [],.sl 0 107 13 0 []]))),(0,fI.eD 22 [dG,dZ,gG,jh]),(0,.pN 23 (.agg (uu 3 [.sl 0 121 2 0 [],.sl 0 107 13 0 []]))),(0,fI.eD 26 [nP,iq]),(0,.pN 27 (.agg (uu 3 [.sl 0 121 2 0 [],.sl 0 107 13 0 []]))),(0,fI.eD 30 [mm]),(0,.pN 31 (.agg (uu 3 [.sl 0 121 2 0 [],.sl 0 107 13 0 []]))),(7,cy.ou (xs:= [(ah.mk (NB #[112,114,111,106,101,99,116,115]) [x4,x6] 1 [] []),(ah.mk (NB #[116,97,115,107,115]) [dG,dZ,gG,jh] 1 [] []),(ah.mk (NB #[109,101,109,98,101,114,115]) [nP,iq] 2 [] []),(ah.mk (NB #[97,114,99,104,105,118,101,100]) [mm] 1 [] [])]) Fz (qz rfl))];ie h (λda h=>be h λ_ hx51 h=>be h λ_ SM h=>be h λa0 hz55 h=>cD (aID B h) zA [(3,.call (cb (o4 B Ve) da) [(0,0)] []),(4,R3.eD 43 [1]),(1,du hx51),(1,fT.eD 45 [(br.mk [1] 0)]),(0,cy.uj 3 [.slice 121 2 [(br.mk [1] 0)].length (eK [(br.mk [1] 0)])] SM hz55),(0,.shr 32 (cy.take a0 xw)),(0,.beq 5 (bH (λn_=>(Bx.flat 25 [ck x2.1,.ms 32 5 0 n_])) ((Co (xs:=a0) (lO (lO (uq Fz).2 (qz rfl)) (qz (eB hz55)))).symm)))]) λda h=>cD (aID B h) zA [(3,.call (cb (o4 B Ve) da) [(0,0)] []),(0,.shr 32 (cy.take [(ah.mk (NB #[112,114,111,106,101,99,116,115]) [x4,x6] 1 [] []),(ah.mk (NB #[116,97,115,107,115]) [dG,dZ,gG,jh] 1 [] []),(ah.mk (NB #[109,101,109,98,101,114,115]) [nP,iq] 2 [] []),(ah.mk (NB #[97,114,99,104,105,118,101,100]) [mm] 1 [] [])] xw)),(0,.beq 5 (bH (λn_=>(Bx.flat 25 [ck x2.1,.ms 32 5 0 n_])) ((Co (xs:= [(ah.mk (NB #[112,114,111,106,101,99,116,115]) [x4,x6] 1 [] []),(ah.mk (NB #[116,97,115,107,115]) [dG,dZ,gG,jh] 1 [] []),(ah.mk (NB #[109,101,109,98,101,114,115]) [nP,iq] 2 [] []),(ah.mk (NB #[97,114,99,104,105,118,101,100]) [mm] 1 [] [])]) (lO (uq Fz).2 (qz rfl))).symm)))]
def awo:G (af×aG):=
 M (rS B D 3) λx3=>M (Ay B x3.2 5) λx9=>ite x9.1 (Wf B (ba (2+x3.1)) 5 x9.2 (af.mk 0 [])) (Wf B (ba (2+x3.1)) 4 x9.2 (af.mk 0 []))
def aWa:KK (A38 []) y6 (awo B):=λ_ r h=>be h λ_ eP h=>be h λ_ ir h=>let zA:SE:=[(2,.call (o5 B eP) [(0,0)] [])];ie h (λda h=>cD (aIC B h) zA [(4,.call (cb (o4 B ir) da) [(0,0)] [])]) λda h=>cD (aIC B h) zA [(4,.call (cb (o4 B ir) da) [(0,0)] [])]
def F38:=awo
def ev38:KK (Cx E0 38 aFN ayt) y6 (F38 B):=λ_ _ h=>ca (X:=x38) (aWa B h)
def x174:=fx E0 Tryz.f174 []
def MD:=Ax x174 dj bE
def aJA:LS:=⟨[(0,.str ai),(3,ck ab),(49,.bool co)],[]⟩
def PL:LS:=⟨[(0,.str ai),(3,ck ab)],[]⟩
def atQ:LS:=⟨[],[]⟩
def EA:LS:=⟨[(0,.str ai)],[]⟩
def AE (aH:Wt5_) (n:Nat) (s0:xN) (i3:Int) (a0:Bool):G Bool:=
 ite a0 (V U) (aH s0 (ba (i3+1)))
def Ga {aH} (aY:KK (MD (aI 43)) PL aH) (n:Nat):KK (MD (aI 3659)) aJA (AE aH n):=λ_ _ _ r h=>ie h (λc0 bq=>by subst c0;exact (rr bq [])) λc0 bq=>by subst c0;exact (ra (aY bq) [])
def WL (f7:Wt5_) (n:Nat) (s0:xN) (i3:Int):G Bool:=
 ite (A' (i3<(s0.size:Int))) (M (H8 s0 i3) λx7=>ite (A' ((x7.toNat:Int)<97)) (ite (A' ((x7.toNat:Int)<48)) (AE f7 n s0 i3 ((x7.toNat:Int) !=95)) (ite (A' (57<(x7.toNat:Int))) (AE f7 n s0 i3 ((x7.toNat:Int) !=95)) (AE f7 n s0 i3 U))) (ite (A' (122<(x7.toNat:Int))) (ite (A' ((x7.toNat:Int)<48)) (AE f7 n s0 i3 ((x7.toNat:Int) !=95)) (ite (A' (57<(x7.toNat:Int))) (AE f7 n s0 i3 ((x7.toNat:Int) !=95)) (AE f7 n s0 i3 U))) (AE f7 n s0 i3 U))) cc
def aOg {bw} (cQ:KK (MD [1,1,1]) atQ bw) {f7} (aL:KK (MD (aI 43)) PL f7) (n:Nat):KK (MD (aI 43)) PL (WL bw f7 n):=λ_ _ r h=>ie h (λc0 h=>be h λ_ j7 h=>let zA:SE:=[aZ c0,(2,.chr (j7))];ie h (λc1 h=>ie h (λc2 h=>cD (Ga aL n h) zA [aS c1,bl c2]) λc2 h=>ie h (λc3 h=>cD (Ga aL n h) zA [aS c1,bl c2,aS c3]) λc3 h=>cD (Ga aL n h) zA [aS c1,bl c2,aS c3]) λc1 h=>let zB:SE:=dx zA [aS c1];ie h (λc2 h=>ie h (λc3 h=>cD (Ga aL n h) zB [aS c2,aZ c3]) λc3 h=>ie h (λc4 h=>cD (Ga aL n h) zB [aS c2,aZ c3,aS c4]) λc4 h=>cD (Ga aL n h) zB [aS c2,aZ c3,aS c4]) λc2 h=>cD (Ga aL n h) zB [aS c2]) λc0 h=>ra (cQ h) [aZ c0]
def C3 (bw:G Bool):Nat->xN->Int->G Bool
 |0=>dK.z
 |n+1=>WL bw (C3 bw n) n
def azh {bw} (cQ:KK (MD [1,1,1]) atQ bw):∀n:Nat,KK (MD (aI 43)) PL (C3 bw n)
 |0=>KC.h
 |n+1=>aOg cQ (azh cQ n) n
def Kx (n:Nat):G Bool:=
 V I
def aOf:KK (MD [1,1,1]) atQ (Kx B):=λr h=>rr h []
def alQ:G Bool:=
 ite ((ai.size:Int)==0) (V U) (ite (A' (32<(ai.size:Int))) (V U) (M (H8 ai 0) λiK=>ite (A' ((iK.toNat:Int)<97)) (V U) (M (H8 ai 0) λjo=>ite (A' (122<(jo.toNat:Int))) (V U) (C3 (Kx B) B ai 0))))
def aOe:KK (MD []) EA (alQ B):=λ_ r h=>ie h (λc0 h=>rr h [aZ c0]) λc0 h=>ie h (λc1 h=>rr h [aZ c0,aZ c1]) λc1 h=>be h λ_ gR h=>let zA:SE:=[aZ c0,aZ c1,(3,.chr (gR))];ie h (λc2 h=>bt h zA [aD c2]) λc2 h=>be h λ_ jW h=>ie h (λc3 h=>bt h zA [aD c2,(3,.chr (jW)),aD c3]) λc3 h=>cD (azh (aOf B) B h) zA [aD c2,(3,.chr (jW)),aD c3]
def LB:=alQ
def aHD:KK (Cx E0 174 dj bE) EA (LB B):=λ_ _ h=>ca (X:=x174) (aOe B h)
def x138:=fx E0 Tryz.f138 []
def ue:=Ax x138 dj bE
def arj:LS:=⟨[(1,ck C),aV 2,aV 5,(6,ck R)],[(2,fW (cX S)),(5,iJ (jO b9))]⟩
def ark:LS:=⟨[aV 5,(7,iI C),(8,iI R),(53,iI N),(54,iI ab),(66,.loc 5 1),(67,.slice 73 2 (O bh) (eY bh)),(68,iI bi),(69,.kX (LJ cw)),(70,.kX [ck dY.aB]),(71,iI d4),(72,.bool eg),(73,.bool U)],[(5,iJ (jO ct))]⟩
def arl:LS:=⟨[aV 5,(53,iI C),(54,iI R),(66,.loc 5 1),(67,.slice 73 2 (O bh) (eY bh)),(68,iI bi),(69,.kX (LJ cw)),(70,.kX [ck dY.aB]),(71,iI d4),(72,.bool eg),(73,.bool U)],[(5,iJ (jO ct))]⟩
def PV:LS:=⟨[aV 5,(53,ck C),(54,ck R)],[(5,iJ (jO vQ))]⟩
def arn:LS:=⟨[],[]⟩
def aem:LS:=⟨[aV 5],[(5,iJ (jO vQ))]⟩
def PU:LS:=⟨[(0,.agg (cX S)),(1,ck N)],[]⟩
def XC (dC:ah->G Bool) (f7:Int->Int->af->ah->G Bool) (n:Nat) (i1 k6:Int) (b2:af) (b5:ah):G Bool:=
 ite (A' (k6<i1)) (M (idx b2.ag k6) λx7=>ite (A' (x7.aK=b5.aK)) (V U) (f7 i1 (ba (k6+1)) b2 b5)) (dC b5)
def aPV {dC} (fS:KK (ue (aI 31)) aem dC) {f7} (aL:KK (ue (aI 87)) arj f7) (n:Nat):KK (ue (aI 87)) arj (XC dC f7 n):=λ_ _ _ _ r h=>ie h (λc0 h=>be h λ_ j7 h=>ie h (λc1 h=>rr h [aS c0,(3,cy.idx j7),bl c1]) λc1 h=>ra (aL h) [aS c0,(3,cy.idx j7),bl c1]) λc0 h=>ra (fS h) [aS c0]
def Ka (dC:ah->G Bool):Nat->Int->Int->af->ah->G Bool
 |0=>dK.z
 |n+1=>XC dC (Ka dC n) n
def azL {dC} (fS:KK (ue (aI 31)) aem dC):∀n:Nat,KK (ue (aI 87)) arj (Ka dC n)
 |0=>KC.h
 |n+1=>aPV fS (azL fS n) n
def XB (bw:Wf7) (f7:Int->Int->Int->Int->dr->Int->bW->bW->Int->Bool->ah->G Bool) (n:Nat) (c7 k8 a0 a3:Int) (a4:dr) (a5:Int) (a6 a7:bW) (a8:Int) (a9:Bool) (b5:ah):G Bool:=
 ite (A' (k8<c7)) (M (idx b5.L k8) λx7=>M (idx b5.L c7) λkz=>ite (A' (x7.aK=kz.aK)) (V U) (f7 c7 (ba (k8+1)) a0 a3 a4 a5 a6 a7 a8 a9 b5)) (bw a0 a3 a4 a5 a6 a7 a8 a9 b5)
def aPU {bw} (cQ:KK (ue (aI 3887)) arl bw) {f7} (aL:KK (ue (aI 95023)) ark f7) (n:Nat):KK (ue (aI 95023)) ark (XB bw f7 n):=λ_ _ _ _ _ _ _ _ _ _ _ r h=>ie h (λc0 h=>be h λ_ j7 h=>be h λ_ jK h=>let zA:SE:=[aS c0,(3,fI.idx j7),(5,fI.idx jK)];ie h (λc1 h=>bt h zA [aS c1]) λc1 h=>cD (aL h) zA [aS c1]) λc0 h=>ra (cQ h) [aS c0]
def J9 (bw:Wf7):Nat->Int->Int->Int->Int->dr->Int->bW->bW->Int->Bool->ah->G Bool
 |0=>dK.z
 |n+1=>XB bw (J9 bw n) n
def azK {bw} (cQ:KK (ue (aI 3887)) arl bw):∀n:Nat,KK (ue (aI 95023)) ark (J9 bw n)
 |0=>KC.h
 |n+1=>aPU cQ (azK cQ n) n
def XA (bD:Wt6_) (n:Nat) (a0 a3:Int) (a4:dr) (a5:Int) (a6 a7:bW) (a8:Int) (a9:Bool) (b5:ah):G Bool:=
 bD a0 (ba (a3+1)) b5
def aPT {bD} (cV:KK (ue (aI 175)) PV bD) (n:Nat):KK (ue (aI 3887)) arl (XA bD n):=λ_ _ _ _ _ _ _ _ _ r h=>ra (cV h) []
def Xz (f7:Wt6_) (n:Nat) (a0 a3:Int) (b5:ah):G Bool:=
 ite (A' (a3<a0)) (M (idx b5.L a3) λx7=>M (LB n x7.aK) λdG=>ite (!dG) (V U) (M (idx b5.L a3) λjo=>M (LN n jo.aB) λqh=>ite (!qh) (V U) (J9 (XA f7 n) n a3 0 a0 a3 b5.L a3 jo jo jo.aB qh b5))) cc
def aPS {cZ} (fy:KK (ue (aI 63)) arn cZ) {f7} (aL:KK (ue (aI 175)) PV f7) (n:Nat):KK (ue (aI 175)) PV (Xz cZ f7 n):=λ_ _ _ r h=>ie h (λc0 h=>be h λ_ j7 h=>be h λ_ fR h=>let zA:SE:=[aD c0,(5,fI.idx j7),jl (aHD n fR)];ie h (λc1 h=>bt h zA [aD c1]) λc1 h=>be h λ_ jW h=>be h λ_ pD h=>let zB:SE:=dx zA [aD c1,(4,fI.idx jW),jl (aHC n pD)];ie h (λc2 h=>bt h zB [aD c2]) λc2 h=>cD (azK (aPT aL n) n h) zB [aD c2]) λc0 h=>ra (fy h) [aD c0]
def Gu (cZ:G Bool):Nat->Int->Int->ah->G Bool
 |0=>dK.z
 |n+1=>Xz cZ (Gu cZ n) n
def azJ {cZ} (fy:KK (ue (aI 63)) arn cZ):∀n:Nat,KK (ue (aI 175)) PV (Gu cZ n)
 |0=>KC.h
 |n+1=>aPS fy (azJ fy n) n
def Pe (n:Nat):G Bool:=
 V I
def aPR:KK (ue (aI 63)) arn (Pe B):=λr h=>rr h []
def Xy:G Bool:=
 Gu (Pe B) B (O vQ.L:Int) 0 vQ
def aPQ:KK (ue (aI 31)) aem (Xy B):=λ_ r h=>ra (azJ (aPR B) B h) []
def amx:G Bool:=
 M (idx S.ag N) λx6=>M (LB B x6.aK) λdZ=>ite (!dZ) (V U) (ite ((O x6.L:Int)==0) (V U) (ite (A' (x6.av<1)) (V U) (ite (A' ((O x6.L:Int)<x6.av)) (V U) (Ka (Xy B) B N 0 S x6))))
def aPP:KK (ue []) PU (amx B):=λ_ _ r h=>be h λ_ km h=>be h λ_ gj h=>let zA:SE:=[(5,cy.idx km),lX (aHD B gj)];ie h (λc0 h=>bt h zA [aD c0]) λc0 h=>let zB:SE:=dx zA [aD c0];ie h (λc1 h=>bt h zB [bl c1]) λc1 h=>ie h (λc2 h=>bt h zB [bl c1,bl c2]) λc2 h=>ie h (λc3 h=>bt h zB [bl c1,bl c2,hI c3]) λc3 h=>cD (azL (aPQ B) B h) zB [bl c1,bl c2,hI c3]
def Tv:=amx
def aTD:KK (Cx E0 138 dj bE) PU (Tv B):=λ_ _ _ h=>ca (X:=x138) (aPP B h)
def x139:=fx E0 Tryz.f139 []
def AH:=Ax x139 dj bE
def aen (a0:aN) (a3 a4:Int) (b2:af) (b5:ah) (b7:br):LS:=⟨[aV 2,aV 5,aV 7,(16,.slice 121 2 (O bb) (eK bb)),(17,iI bg),(18,iI bV),(26,.loc 7 1),(27,iI bi),(28,.loc 2 1),(29,.slice 44 5 (O bX) (dI bX)),(30,iI b4),(31,.bool U),(34,.loc 7 0),(35,.slice 3 1 (O aO) (dP aO)),(36,iI aR),(37,.loc 2 1),(38,.slice 44 5 (O dE) (dI dE)),(39,.loc 7 1),(40,iI dM),(41,.kX (jO cr)),(42,.kX [iI dN.av,.slice 121 2 (O dN.ar) (eK dN.ar),.slice 107 13 (O dN.aM) (eh dN.aM)]),(43,iI dW),(44,.bool U),(47,.slice 3 1 (O a0) (dP a0)),(48,iI a3),(49,iI a4)],[(2,fW (cX b2)),(5,iJ (jO b5)),(7,.flat 121 (FZ b7))]⟩
def aeo (b7:br):LS:=⟨[aV 2,aV 5,(16,.slice 121 2 (O bb) (eK bb)),(17,iI bg),(18,iI bV),(26,.loc 7 1),(27,iI bi),(28,.loc 2 1),(29,.slice 44 5 (O bX) (dI bX)),(30,iI b4),(31,.bool U),(34,.loc 7 0),(35,.slice 3 1 (O aO) (dP aO)),(36,iI aR),(37,.loc 2 1),(38,.slice 44 5 (O dE) (dI dE)),(39,.loc 7 1),(40,iI dM),(41,.kX (jO cr)),(42,.kX [iI dN.av,.slice 121 2 (O dN.ar) (eK dN.ar),.slice 107 13 (O dN.aM) (eh dN.aM)]),(43,iI dW),(44,.bool U)],[(2,fW (cX ea)),(5,iJ (jO ct)),(7,.flat 121 (FZ b7))]⟩
def PT:LS:=⟨[aV 2,aV 5,(16,.slice 121 2 (O bb) (eK bb)),(17,iI bg),(18,iI bV)],[(2,fW (cX bU)),(5,iJ (jO cr))]⟩
def aep:LS:=⟨[],[]⟩
def Xx (aH:Wf8) (f7:bR->Int->Int->Int->bC->Int->aN->Int->bC->Int->ah->ah->Int->aN->Int->Int->af->ah->br->G Bool) (n:Nat) (a0:bR) (a3 a4 a5:Int) (a6:bC) (a7:Int) (a8:aN) (a9:Int) (ar:bC) (av:Int) (aC aK:ah) (aL:Int) (aM:aN) (aQ aY:Int) (b2:af) (b5:ah) (b7:br):G Bool:=
 ite (A' (aY<aQ)) (M (idx aM aY) λx3=>ite (A' (x3<0)) (V U) (ite (!A' (x3<(O b5.L:Int))) (V U) (M (idx b5.L x3) λnP=>M (idx b2.ag b7.aq) λEX=>M (idx EX.L aY) λIX=>ite (nP.aB !=IX.aB) (V U) (f7 a0 a3 a4 a5 a6 a7 a8 a9 ar av aC aK aL aM aQ (ba (aY+1)) b2 b5 b7)))) (aH a0 a3 a4 a5 a6 a7 a8 a9 ar av aC aK aL b2 b5 b7)
def aPO {aH} (aY:KK (AH (aI 971)) aeo aH) {f7} (aL:KK (AH (aI 23755)) aen f7) (n:Nat):KK (AH (aI 23755)) aen (Xx aH f7 n):=λ_ _ _ _ _ _ _ _ _ _ _ _ _ _ _ _ _ _ _ r h=>ie h (λc0 h=>be h λ_ eP h=>let zA:SE:=[aD c0,(1,R3.idx eP)];ie h (λc1 h=>bt h zA [bl c1]) λc1 h=>ie h (λc2 h=>bt h zA [bl c1,bN c2]) λc2 h=>be h λ_ pE h=>be h λ_ Bw h=>be h λ_ H9 h=>let zB:SE:=dx zA [bl c1,bN c2,(5,fI.idx pE),(6,cy.idx Bw),(3,fI.idx H9)];ie h (λc3 h=>bt h zB [aS c3]) λc3 h=>cD (aL h) zB [aS c3]) λc0 h=>ra (aY h) [aD c0]
def J8 (aH:Wf8):Nat->bR->Int->Int->Int->bC->Int->aN->Int->bC->Int->ah->ah->Int->aN->Int->Int->af->ah->br->G Bool
 |0=>dK.z
 |n+1=>Xx aH (J8 aH n) n
def azI {aH} (aY:KK (AH (aI 971)) aeo aH):∀n:Nat,KK (AH (aI 23755)) aen (J8 aH n)
 |0=>KC.h
 |n+1=>aPO aY (azI aY n) n
def Xw (n:Nat) (a0:bR) (a3 a4 a5:Int) (a6:bC) (a7:Int) (a8:aN) (a9:Int) (L:bC) (ag:Int) (aq ar:ah) (av:Int) (b2:af) (b5:ah) (b7:br):G Bool:=
 d2 a0 a3 (ba (a4+1)) b2 b5
def aPN {bw} (cQ:KK (AH (aI 43)) PT bw) (n:Nat):KK (AH (aI 971)) aeo (Xw bw n):=λ_ _ _ _ _ _ _ _ _ _ _ _ _ _ _ _ r h=>ra (cQ h) []
def Xv:G Bool:=
 ite (A' (d9<dD)) (M (idx dp d9) λx2=>ite (A' (x2.aq<0)) (V U) (ite (!A' (x2.aq<(O ea.ag:Int))) (V U) (M (idx ea.ag x2.aq) λyQ=>ite ((O x2.L:Int) !=yQ.av) (V U) (J8 (Xw d2 d3) d3 dp dD d9 x2.aq ea.ag (O ea.ag:Int) x2.L (O x2.L:Int) ea.ag x2.aq yQ yQ yQ.av x2.L (O x2.L:Int) 0 ea ct x2)))) cc
def aPM {bD} (cV:KK (AH [1,1,1]) aep bD) {f7} (aL:KK (AH (aI 43)) PT f7) (n:Nat):KK (AH (aI 43)) PT (Xv bD f7 n):=λ_ _ _ _ _ r h=>ie h (λc0 h=>be h λ_ dq h=>let zA:SE:=[aD c0,(0,fT.idx dq)];ie h (λc1 h=>bt h zA [bN c1]) λc1 h=>ie h (λc2 h=>bt h zA [bN c1,dz c2]) λc2 h=>be h λ_ yC h=>let zB:SE:=dx zA [bN c1,dz c2,(9,cy.idx yC)];ie h (λc3 h=>bt h zB [aS c3]) λc3 h=>cD (azI (aPN aL n) n h) zB [aS c3]) λc0 h=>ra (cV h) [aD c0]
def Gt (bD:G Bool):Nat->bR->Int->Int->af->ah->G Bool
 |0=>dK.z
 |n+1=>Xv bD (Gt bD n) n
def azH {bD} (cV:KK (AH [1,1,1]) aep bD):∀n:Nat,KK (AH (aI 43)) PT (Gt bD n)
 |0=>KC.h
 |n+1=>aPM cV (azH cV n) n
def Pd (n:Nat):G Bool:=
 V I
def aPL:KK (AH [1,1,1]) aep (Pd B):=λr h=>rr h []
def amw:G Bool:=
 M (idx S.ag N) λx6=>Gt (Pd B) B x6.ar (O x6.ar:Int) 0 S x6
def aPK:KK (AH []) PU (amw B):=λ_ _ r h=>be h λ_ km h=>ra (azH (aPL B) B h) [(5,cy.idx km)]
def Ty:=amw
def aTC:KK (Cx E0 139 dj bE) PU (Ty B):=λ_ _ _ h=>ca (X:=x139) (aPK B h)
def x94:=fx E0 Tryz.f94 []
def qM:=Ax x94 dU bE
def I3:LS:=⟨[aV 1,(16,.slice 44 5 (O bX) (dI bX)),(17,iI b4),(18,iI aR)],[(1,fW (cX bU))]⟩
def agj:LS:=⟨[aV 1,(49,ck C),(50,ck R)],[(1,fW (cX S))]⟩
def agi:LS:=⟨[aV 1,(60,ck C),(61,ck R)],[(1,fW (cX S))]⟩
def agh:LS:=⟨[aV 1,(7,iI C),(71,iI R),(72,iI N),(80,.slice 107 13 (O cK) (eh cK)),(81,iI cL),(82,iI cO)],[(1,fW (cX bU))]⟩
def E3:LS:=⟨[aV 1,(71,ck C),(72,ck R)],[(1,fW (cX S))]⟩
def agf:LS:=⟨[],[]⟩
def u9:LS:=⟨[aV 1],[(1,fW (cX S))]⟩
def vF:LS:=⟨[(0,.agg (cX S))],[]⟩
def Zu (f7:abc) (n:Nat) (a0:bC) (a3 a4:Int) (b1:af):G Int:=
 ite (A' (a4<a3)) (M (idx a0 a4) λx2=>ite (A' (8<(O x2.L:Int))) (V 2) (ite (A' (4<(O x2.ar:Int))) (V 2) (ite (A' (4<(O x2.aM:Int))) (V 2) (f7 a0 a3 (ba (a4+1)) b1)))) (cu b1)
def aUv {k_9} (Yj:KK (qM [1,1,1]) u9 k_9) {f7} (aL:KK (qM (aI 43)) I3 f7) (n:Nat):KK (qM (aI 43)) I3 (Zu k_9 f7 n):=λ_ _ _ _ r h=>ie h (λc0 h=>be h λ_ dq h=>let zA:SE:=[aD c0,(0,cy.idx dq)];ie h (λc1 h=>bt h zA [dz c1]) λc1 h=>ie h (λc2 h=>bt h zA [dz c1,bl c2]) λc2 h=>ie h (λc3 h=>bt h zA [dz c1,bl c2,bN c3]) λc3 h=>cD (aL h) zA [dz c1,bl c2,bN c3]) λc0 h=>ra (Yj h) [aD c0]
def QO (k_9:ON):Nat->bC->Int->Int->af->G Int
 |0=>dK.z
 |n+1=>Zu k_9 (QO k_9 n) n
def aGm {k_9} (Yj:KK (qM [1,1,1]) u9 k_9):∀n:Nat,KK (qM (aI 43)) I3 (QO k_9 n)
 |0=>KC.h
 |n+1=>aUv Yj (aGm Yj n) n
def Zv:G Int:=
 ite (A' (cO<cL)) (M (Tv bF bU cO) λx6=>ite (!x6) (V 70) (ci cL (ba (cO+1)) bU)) (cu bU)
def aUu {zc} (N7:KK (qM (aI 63)) u9 zc) {f7} (aL:KK (qM (aI 175)) agj f7) (n:Nat):KK (qM (aI 175)) agj (Zv zc f7 n):=λ_ _ _ r h=>ie h (λc0 h=>be h λ_ km h=>let zA:SE:=[aD c0,lY (aTD n km)];ie h (λc1 h=>bt h zA [aD c1]) λc1 h=>cD (aL h) zA [aD c1]) λc0 h=>ra (N7 h) [aD c0]
def QN (zc:ON):Nat->Int->Int->af->G Int
 |0=>dK.z
 |n+1=>Zv zc (QN zc n) n
def aGl {zc} (N7:KK (qM (aI 63)) u9 zc):∀n:Nat,KK (qM (aI 175)) agj (QN zc n)
 |0=>KC.h
 |n+1=>aUu N7 (aGl N7 n) n
def Zw:G Int:=
 ite (A' (cO<cL)) (M (Ty bF bU cO) λx6=>ite (!x6) (V 70) (ci cL (ba (cO+1)) bU)) (cu bU)
def aUt {mJ} (uL:KK (qM (aI 127)) u9 mJ) {f7} (aL:KK (qM (aI 351)) agi f7) (n:Nat):KK (qM (aI 351)) agi (Zw mJ f7 n):=λ_ _ _ r h=>ie h (λc0 h=>be h λ_ km h=>let zA:SE:=[aD c0,lY (aTC n km)];ie h (λc1 h=>bt h zA [aD c1]) λc1 h=>cD (aL h) zA [aD c1]) λc0 h=>ra (uL h) [aD c0]
def QM (mJ:ON):Nat->Int->Int->af->G Int
 |0=>dK.z
 |n+1=>Zw mJ (QM mJ n) n
def aGk {mJ} (uL:KK (qM (aI 127)) u9 mJ):∀n:Nat,KK (qM (aI 351)) agi (QM mJ n)
 |0=>KC.h
 |n+1=>aUt uL (aGk uL n) n
def Zx (f7:Int->Int->Int->bA->Int->Int->af->G Int) (n:Nat) (i7 a0 a3:Int) (a4:bA) (a5 a6:Int) (b1:af):G Int:=
 ite (A' (a6<a5)) (M (idx a4 a6) λx2=>M (F50 n b1 i7) λx9=>M (Db n x9 [] x2) λiK=>ite (iK !=0) (V iK) (f7 i7 a0 a3 a4 a5 (ba (a6+1)) b1)) (ci a0 a3 b1)
def aUs {cZ} (fy:KK (qM (aI 15551)) E3 cZ) {f7} (aL:KK (qM (aI 183487)) agh f7) (n:Nat):KK (qM (aI 183487)) agh (Zx cZ f7 n):=λ_ _ _ _ _ _ _ r h=>ie h (λc0 h=>be h λ_ dq h=>be h λx9 ir h=>be h λ_ gR h=>let zA:SE:=[aD c0,(0,fE.idx dq),(3,.ord [0,1,3,2,4,5]),(3,uk (cd (e:=3) (z:=I) (Q:=dP x9) (YR n ir) (R3.len x9))),kj (aHS n gR)];ie h (λc1 h=>bt h zA [aS c1]) λc1 h=>cD (aL h) zA [aS c1]) λc0 h=>ra (fy h) [aD c0]
def QL (cZ:abb):Nat->Int->Int->Int->bA->Int->Int->af->G Int
 |0=>dK.z
 |n+1=>Zx cZ (QL cZ n) n
def aGj {cZ} (fy:KK (qM (aI 15551)) E3 cZ):∀n:Nat,KK (qM (aI 183487)) agh (QL cZ n)
 |0=>KC.h
 |n+1=>aUs fy (aGj fy n) n
def Zy (n:Nat) (a0 a3:Int) (b1:af):G Int:=
 ci a0 (ba (a3+1)) b1
def aUr {dC} (fS:KK (qM (aI 703)) E3 dC) (n:Nat):KK (qM (aI 15551)) E3 (Zy dC n):=λ_ _ _ r h=>ra (fS h) []
def Zz (iB:G Int) (f7:abb) (n:Nat) (a0 a3:Int) (b1:af):G Int:=
 ite (A' (a3<a0)) (M (idx b1.ag a3) λx7=>QL (Zy f7 n) n a3 a0 a3 x7.aM (O x7.aM:Int) 0 b1) iB
def aUq {iB} (mN:KK (qM (aI 255)) agf iB) {f7} (aL:KK (qM (aI 703)) E3 f7) (n:Nat):KK (qM (aI 703)) E3 (Zz iB f7 n):=λ_ _ _ r h=>ie h (λc0 h=>be h λ_ j7 h=>ra (aGj (aUr aL n) n h) [aD c0,(5,cy.idx j7)]) λc0 h=>ra (mN h) [aD c0]
def L7 (iB:G Int):Nat->Int->Int->af->G Int
 |0=>dK.z
 |n+1=>Zz iB (L7 iB n) n
def aGi {iB} (mN:KK (qM (aI 255)) agf iB):∀n:Nat,KK (qM (aI 703)) E3 (L7 iB n)
 |0=>KC.h
 |n+1=>aUq mN (aGi mN n) n
def VX (n:Nat):G Int:=
 V 0
def aUp:KK (qM (aI 255)) agf (VX B):=λr h=>rr h []
def pM:G Int:=
 L7 (VX B) B (O S.ag:Int) 0 S
def aUo:KK (qM (aI 127)) u9 (pM B):=λ_ r h=>ra (aGi (aUp B) B h) []
def vo:G Int:=
 QM (pM B) B (O S.ag:Int) 0 S
def aUn:KK (qM (aI 63)) u9 (vo B):=λ_ r h=>ra (aGk (aUo B) B h) []
def wM:G Int:=
 ite (A' (S.aC<0)) (V 70) (ite (A' (1000<S.aC)) (V 70) (QN (vo B) B (O S.ag:Int) 0 S))
def aUm:KK (qM [1,1,1]) u9 (wM B):=λ_ r h=>ie h (λc0 h=>rr h [aS c0]) λc0 h=>ie h (λc1 h=>rr h [aS c0,aZ c1]) λc1 h=>ra (aGl (aUn B) B h) [aS c0,aZ c1]
def alo:G Int:=
 ite (A' (8<(O S.ag:Int))) (V 2) (QO (wM B) B S.ag (O S.ag:Int) 0 S)
def aNb:KK (qM []) vF (alo B):=λ_ r h=>ie h (λc0 h=>rr h [bN c0]) λc0 h=>ra (aGm (aUm B) B h) [bN c0]
def F94:=alo
def aDT:KK (Cx E0 94 dU bE) vF (F94 B):=λ_ _ h=>ca (X:=x94) (aNb B h)
def Nd:=fx E0 Tryz.f110 []
def A110:=Ax Nd dU bE
def aJL:LS:=⟨[(0,ck C),(42,.bool co)],[]⟩
def aoA:LS:=⟨[(0,ck C),(1,ck R),(2,ck N)],[]⟩
def wT (n:Nat) (i0:Int) (a0:Bool):G Int:=
 ite a0 (V (ba (i0+1))) (V i0)
def Al:KK (A110 (aI 8185)) aJL (wT B):=λ_ _ r h=>ie h (λc0 bq=>by subst c0;exact (rr bq [])) λc0 bq=>by subst c0;exact (rr bq [])
def amO:G Int:=
 ite (A' (N<0)) (ite (A' (R<C)) (V (ba (C-1))) (V C)) (ite (C==R) (V N) (ite (A' (R<N)) (ite (A' (R<C)) (ite (!A' (N<C)) (V (ba (C-1))) (ite (A' (N<R)) (ite (!A' (C<N)) (wT B C (A' (C<R))) (wT B C U)) (wT B C U))) (ite (A' (N<R)) (ite (!A' (C<N)) (wT B C (A' (C<R))) (wT B C U)) (wT B C U))) (ite (A' (N<R)) (ite (!A' (C<N)) (wT B C (A' (C<R))) (wT B C U)) (wT B C U))))
def aQM:KK (A110 []) aoA (amO B):=λ_ _ _ r h=>ie h (λc0 h=>ie h (λc1 h=>rr h [aS c0,aZ c1]) λc1 h=>rr h [aS c0,aZ c1,aZ c0]) λc0 h=>let zA:SE:=[aS c0,bl c0];ie h (λc1 h=>bt h zA [aZ c1]) λc1 h=>let zB:SE:=dx zA [aZ c1];ie h (λc2 h=>let zC:SE:=dx zB [aZ c2];ie h (λc3 h=>let zD:SE:=dx zC [aZ c3];ie h (λc4 h=>bt h zD [bl c4]) λc4 h=>ie h (λc5 h=>ie h (λc6 h=>cD (Al B h) zD [bl c4,bl c5,aZ c6]) λc6 h=>cD (Al B h) zD [bl c4,bl c5,aZ c6]) λc5 h=>cD (Al B h) zD [bl c4,bl c5]) λc3 h=>ie h (λc4 h=>ie h (λc5 h=>cD (Al B h) zC [aZ c3,dz c4,aZ c5]) λc5 h=>cD (Al B h) zC [aZ c3,dz c4,aZ c5]) λc4 h=>cD (Al B h) zC [aZ c3,dz c4]) λc2 h=>ie h (λc3 h=>ie h (λc4 h=>cD (Al B h) zB [aZ c2,hI c3,aZ c4]) λc4 h=>cD (Al B h) zB [aZ c2,hI c3,aZ c4]) λc3 h=>cD (Al B h) zB [aZ c2,hI c3]
def Mm:=amO
def Vm:KK (Cx E0 110 dU bE) aoA (Mm B):=λ_ _ _ _ h=>ca (X:=Nd) (aQM B h)
def x140:=fx E0 Tryz.f140 []
def A140:=Ax x140 dj bE
def aJH:LS:=⟨[aV 3],[(3,vK (oN ce))]⟩
def PS:LS:=⟨[(0,.agg (oN ce))],[]⟩
def sM (n:Nat) (b3:aF):G Bool:=
 ite (b3.aq==0) (ite (b3.bc==0) (ite (b3.kY==0) (ite (A' (b3.aK=I')) (ite (b3.aB==0) (ite ((b3.bp.aB==0)&&((b3.bp.dt==0)&&((A' (b3.bp.cH=I'))&&I))) (ite ((O b3.cg:Int)==0) (ite (A' (b3.bu.aK=I')) (ite ((O b3.bu.L:Int)==0) (ite (b3.bu.av==0) (ite ((O b3.bu.ar:Int)==0) (V ((O b3.bu.aM:Int)==0)) (V U)) (V U)) (V U)) (V U)) (V U)) (V U)) (V U)) (V U)) (V U)) (V U)) (V U)
def C2:KK (A140 [1,1,1]) aJH (sM B):=λ_ r h=>ie h (λc0 h=>let zA:SE:=[dz c0];ie h (λc1 h=>let zB:SE:=dx zA [aZ c1];ie h (λc2 h=>let zC:SE:=dx zB [bl c2];ie h (λc3 h=>let zD:SE:=dx zC [bl c3];ie h (λc4 h=>let zE:SE:=dx zD [bl c4];ie h (λc5 h=>let zF:SE:=dx zE [bN c5];ie h (λc6 h=>let zG:SE:=dx zF [bN c6];ie h (λc7 h=>let zH:SE:=dx zG [bl c7];ie h (λc8 h=>ie h (λc9 h=>ie h (λa0 h=>bt h zH [bN c8,bl c9,bN a0]) λa0 h=>bt h zH [bN c8,bl c9,bN a0]) λc9 h=>bt h zH [bN c8,bl c9]) λc8 h=>bt h zH [bN c8]) λc7 h=>bt h zG [bl c7]) λc6 h=>bt h zF [bN c6]) λc5 h=>bt h zE [bN c5]) λc4 h=>bt h zD [bl c4]) λc3 h=>bt h zC [bl c3]) λc2 h=>bt h zB [bl c2]) λc1 h=>bt h zA [aZ c1]) λc0 h=>rr h [dz c0]
def Xu:G Bool:=
 ite (ce.aQ==1) (sM B (aF.mk ce.aQ 0 ce.bc ce.kY I' 0 pr ce.cg ce.bu)) (ite (ce.aQ==2) (sM B (aF.mk ce.aQ 0 0 ce.kY ce.aK ce.aB pr ce.cg ce.bu)) (ite (ce.aQ==3) (sM B (aF.mk ce.aQ 0 0 0 ce.aK ce.aB ce.bp ce.cg ce.bu)) (ite (ce.aQ==4) (sM B (aF.mk ce.aQ 0 0 ce.kY I' ce.aB ce.bp ce.cg ce.bu)) (ite (ce.aQ==5) (sM B (aF.mk ce.aQ 0 ce.bc ce.kY I' ce.aB ce.bp ce.cg ce.bu)) (ite (ce.aQ==6) (sM B (aF.mk ce.aQ ce.aq ce.bc ce.kY ce.aK ce.aB ce.bp ce.cg (ah.mk I' [] 0 [] []))) (ite (ce.aQ==7) (sM B (aF.mk ce.aQ 0 ce.bc ce.kY ce.aK ce.aB ce.bp ce.cg ce.bu)) (ite (ce.aQ==8) (sM B (aF.mk ce.aQ 0 0 ce.kY ce.aK ce.aB ce.bp [] ce.bu)) (V U))))))))
def aPJ:KK (A140 []) PS (Xu B):=λ_ r h=>ie h (λc0 h=>ra (C2 B h) [hI c0]) λc0 h=>ie h (λc1 h=>ra (C2 B h) [hI c0,aX c1]) λc1 h=>let zA:SE:=[hI c0,aX c1];ie h (λc2 h=>cD (C2 B h) zA [aX c2]) λc2 h=>let zB:SE:=dx zA [aX c2];ie h (λc3 h=>cD (C2 B h) zB [aX c3]) λc3 h=>let zC:SE:=dx zB [aX c3];ie h (λc4 h=>cD (C2 B h) zC [aX c4]) λc4 h=>let zD:SE:=dx zC [aX c4];ie h (λc5 h=>cD (C2 B h) zD [aX c5]) λc5 h=>ie h (λc6 h=>cD (C2 B h) zD [aX c5,aX c6]) λc6 h=>ie h (λc7 h=>cD (C2 B h) zD [aX c5,aX c6,aX c7]) λc7 h=>bt h zD [aX c5,aX c6,aX c7]
def RL:=Xu
def aHR:KK (Cx E0 140 dj bE) PS (RL B):=λ_ _ h=>ca (X:=x140) (aPJ B h)
def Uy:AV:=.agg (fw vQ (.ms vi 2 0 (O vQ.L)) (.ms 201003 2 0 (O vQ.ar)) (.ms 201004 13 0 (O vQ.aM)))
def P9:List (Nat×Bx):= (q19_ vi vQ 201003 201004)
def x141:=fx E0 Tryz.f141 []
def TN:=Ax x141 Uy P9
def aeq:LS:=⟨[aV 1,aV 2,(3,.ms 500003 2 0 (O dp)),(12,.slice 121 2 (O bb) (eK bb)),(13,iI bg),(14,iI bV)],[(1,iJ (abI b9 (.ms 6 2 0 (O d8)))),(2,iJ (fw cr .bY .bY .bY)),(6,yu d8),(500003,DE dp)]⟩
def aer:LS:=⟨[aV 1,aV 2,(3,.ms 500003 2 0 (O dp))],[(1,iJ (abI vQ (.ms 6 2 0 (O d8)))),(2,iJ (fw b9 .bY .bY .bY)),(6,yu d8),(500003,DE dp)]⟩
def PR:LS:=⟨[(0,.agg (jO vQ))],[]⟩
def Xt (aH:Wf13) (f7:bR->Int->Int->ah->ah->dr->bR->G ah) (n:Nat) (a0:bR) (a3 a4:Int) (b1 b2:ah) (b6:dr) (b3:bR):G ah:=
 ite (A' (a4<a3)) (M (idx a0 a4) λx2=>M (app [] x2.L) λdG=>M (app b3 [(br.mk dG x2.aq)]) λjh=>M (setAt jh (O b3) (br.mk dG x2.aq)) λa5=>f7 a0 a3 (ba (a4+1)) (ah.mk b1.aK b6 b1.av b1.ar b1.aM) (ah.mk b2.aK [] b2.av [] []) b6 a5) (aH (ah.mk b1.aK b6 b1.av b1.ar b1.aM) (ah.mk b2.aK [] b2.av [] []) b6 b3)
def aPI {aH} (aY:KK (TN (aI 31)) aer aH) {f7} (aL:KK (TN (aI 87)) aeq f7) (n:Nat):KK (TN (aI 87)) aeq (Xt aH f7 n):=λ_ _ _ _ _ _ b3 r h=>ie h (λc0 h=>be h λx2 dq h=>be h λdG fR h=>be h λ_ iX h=>be h λ_ Lp h=>ra (aL h) [aD c0,(0,fT.idx dq),(7,R3.app fR),(4,fT.Nn iX),(1,.beq 500003 (bH (λq_=>Bx.tree 121 2 UR q_ [(O b3*2+0,.ms 19 1 0 (O dG))]) (fT.apS (r:= (qZ x2.aq)) iX))),(0,fT.jf R3 (r:= (qZ x2.aq)) 500003 19 0 U 3 1 dG Lp),(2,.seq 3 (bH (AV.ms 500003 2 0) (((fT.apL iX).trans (eB Lp)))))]) λc0 h=>ra (aY h) [aD c0]
def J7 (aH:Wf13):Nat->bR->Int->Int->ah->ah->dr->bR->G ah
 |0=>dK.z
 |n+1=>Xt aH (J7 aH n) n
def azG {aH} (aY:KK (TN (aI 31)) aer aH):∀n:Nat,KK (TN (aI 87)) aeq (J7 aH n)
 |0=>KC.h
 |n+1=>aPI aY (azG aY n) n
def Xs (n:Nat) (b1 b2:ah) (b6:dr) (b3:bR):G ah:=
 M (app [] b1.aM) λx7=>V (ah.mk b1.aK b6 b1.av b3 x7)
def aPH:KK (TN (aI 31)) aer (Xs B):=λ_ _ _ _ r h=>be h λ_ j7 h=>rr h [(6,fE.app j7),(4,.iS 6 vi),(0,.iS 500003 201003),(0,.iS 31 201004)]
def amv:G ah:=
 M (app [] vQ.L) λx6=>J7 (Xs B) B vQ.ar (O vQ.ar:Int) 0 (ah.mk vQ.aK x6 vQ.av vQ.ar vQ.aM) (ah.mk I' [] 0 [] []) x6 []
def aPG:KK (TN []) PR (amv B):=λ_ r h=>be h λ_ km h=>ra (azG (aPH B) B h) [(5,fI.app km),(7,.born [3] [] 500003 I 121 2)]
def Dj:=amv
def aHQ:KK (Cx E0 141 Uy P9) PR (Dj B):=λ_ _ h=>ca (X:=x141) (aPG B h)
end Go.Proofs.YtbnkhmoelnfjoaaGreat
end
