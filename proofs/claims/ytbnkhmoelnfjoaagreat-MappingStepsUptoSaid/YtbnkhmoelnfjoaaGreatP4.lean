/- Part. -/
import Derived.Shelf.Sort.Plain
import Derived.Shelf.Slices.CompactI
import Derived.Shelf.Slices.In.SortNone
import Derived.Ground.NamesProg
import Derived.Ground.Names2Prog
import Derived.Test.YtbnkhmoelnfjoaaGreatProg
import Derived.Test.YtbnkhmoelnfjoaaGreatP3
import Derived.Test.YtbnkhmoelnfjoaaGreatP2
import Derived.KernelRfl
import Derived.WalkKit
import Derived.Deep.LoopGhost
import Derived.Deep.RegionLaw
import Derived.Lib.SliceRun
import Derived.Lib.Overlaps
import Derived.Lib.AppendZeros
import Derived.Lib.AppendZerosOnto
import Derived.Laws.Externs
import Derived.Laws.NewBlocks
import Derived.Deep.AppendSrc
set_option linter.all false
set_option maxRecDepth 100000
open Option renaming some->V,none->G
open Bool renaming false->I,true->M
open Decidable renaming decide->iL
open ByteArray renaming mk->Bk,empty->A'
open Go renaming Value->C',TypeId->pJ,callsIn_wide->ab8,Code->P'
open Nat renaming beq->ku,ble->kQ,mul->B',add->wW,succ->LJ
open Go.Builtin renaming zeroCells->aa6,copy_->aa5,append_->aa8,firstCells->ab7
open Go.Addr renaming add_lit->ab1
open Go.World renaming frozen?->ac3,frozen?_setCells->ac9,cell?_setCells_out->ad1
open Go.CallsIn renaming mono->aa4
open List renaming replicate->V',length->aa9
open Go.Lib renaming compareBytes->aa2
noncomputable section
namespace Go.Proofs.YtbnkhmoelnfjoaaGreat
open Go.Shelf
def akJ:Go.Shelf.Ren:=⟨fun|189=>165|125=>191|257=>190|128=>213|129=>214|294=>204|295=>205|296=>206|297=>207|298=>208|299=>209|216=>210|300=>211|301=>212|328=>222|329=>223|330=>224|331=>225|332=>226|215=>187|343=>236|n=>n,fun|28=>102|3=>3|46=>237|0=>0|51=>271|53=>273|4=>4|183=>264|182=>263|131=>218|5=>5|9=>9|218=>279|222=>191|228=>291|229=>292|n=>n,fun|n=>n⟩
def amI:Go.Proofs.Lays.n189 Tryz.prog akJ:={
 mixed:=by kernel_rfl
 f125:=Tryz.func191.trans (congrArg V (by kernel_rfl))
 f128:=Tryz.func213.trans (congrArg V (by kernel_rfl))
 f129:=Tryz.func214.trans (congrArg V (by kernel_rfl))
 f189:=Tryz.func165.trans (congrArg V (by kernel_rfl))
 f215:=Tryz.func187.trans (congrArg V (by kernel_rfl))
 f216:=Tryz.func210.trans (congrArg V (by kernel_rfl))
 f257:=Tryz.func190.trans (congrArg V (by kernel_rfl))
 f294:=Tryz.func204.trans (congrArg V (by kernel_rfl))
 f295:=Tryz.func205.trans (congrArg V (by kernel_rfl))
 f296:=Tryz.func206.trans (congrArg V (by kernel_rfl))
 f297:=Tryz.func207.trans (congrArg V (by kernel_rfl))
 f298:=Tryz.func208.trans (congrArg V (by kernel_rfl))
 f299:=Tryz.func209.trans (congrArg V (by kernel_rfl))
 f300:=Tryz.func211.trans (congrArg V (by kernel_rfl))
 f301:=Tryz.func212.trans (congrArg V (by kernel_rfl))
 f328:=Tryz.func222.trans (congrArg V (by kernel_rfl))
 f329:=Tryz.func223.trans (congrArg V (by kernel_rfl))
 f330:=Tryz.func224.trans (congrArg V (by kernel_rfl))
 f331:=Tryz.func225.trans (congrArg V (by kernel_rfl))
 f332:=Tryz.func226.trans (congrArg V (by kernel_rfl))
 f343:=Tryz.func236.trans (congrArg V (by kernel_rfl))
 t0:=Tryz.underlying0
 a0:=Tryz.isAgg0
 z0:=Tryz.sizeOf0
 v0:=Tryz.zeroValue0
 t3:=Tryz.underlying3
 a3:=Tryz.isAgg3
 z3:=Tryz.sizeOf3
 v3:=Tryz.zeroValue3
 t4:=Tryz.underlying4
 a4:=Tryz.isAgg4
 z4:=Tryz.sizeOf4
 v4:=Tryz.zeroValue4
 t5:=Tryz.underlying5
 a5:=Tryz.isAgg5
 z5:=Tryz.sizeOf5
 v5:=Tryz.zeroValue5
 t9:=Tryz.underlying9
 a9:=Tryz.isAgg9
 z9:=Tryz.sizeOf9
 v9:=Tryz.zeroValue9
 t28:=Tryz.underlying102
 a28:=Tryz.isAgg102
 z28:=Tryz.sizeOf102
 v28:=Tryz.zeroValue102
 t46:=Tryz.underlying237
 a46:=Tryz.isAgg237
 z46:=Tryz.sizeOf237
 v46:=Tryz.zeroValue237
 t51:=Tryz.underlying271
 a51:=Tryz.isAgg271
 z51:=Tryz.sizeOf271
 v51:=Tryz.zeroValue271
 t53:=Tryz.underlying273
 a53:=Tryz.isAgg273
 z53:=Tryz.sizeOf273
 v53:=Tryz.zeroValue273
 t131:=Tryz.underlying218
 a131:=Tryz.isAgg218
 z131:=Tryz.sizeOf218
 v131:=Tryz.zeroValue218
 t182:=Tryz.underlying263
 a182:=Tryz.isAgg263
 z182:=Tryz.sizeOf263
 v182:=Tryz.zeroValue263
 t183:=Tryz.underlying264
 a183:=Tryz.isAgg264
 z183:=Tryz.sizeOf264
 v183:=Tryz.zeroValue264
 t218:=Tryz.underlying279
 a218:=Tryz.isAgg279
 z218:=Tryz.sizeOf279
 v218:=Tryz.zeroValue279
 t222:=Tryz.underlying191
 a222:=Tryz.isAgg191
 z222:=Tryz.sizeOf191
 v222:=Tryz.zeroValue191
 t228:=Tryz.underlying291
 a228:=Tryz.isAgg291
 z228:=Tryz.sizeOf291
 v228:=Tryz.zeroValue291
 t229:=Tryz.underlying292
 a229:=Tryz.isAgg292
 z229:=Tryz.sizeOf292
 v229:=Tryz.zeroValue292}
def apF:Go.Shelf.Ren:=⟨fun|20=>219|n=>n,fun|22=>102|3=>3|4=>4|0=>0|n=>n,fun|n=>n⟩
def awc:Go.Proofs.Lays2.n20 Tryz.prog apF:={
 mixed:=by kernel_rfl
 f20:=Tryz.func219.trans (congrArg V (by kernel_rfl))
 t0:=Tryz.underlying0
 a0:=Tryz.isAgg0
 z0:=Tryz.sizeOf0
 v0:=Tryz.zeroValue0
 t3:=Tryz.underlying3
 a3:=Tryz.isAgg3
 z3:=Tryz.sizeOf3
 v3:=Tryz.zeroValue3
 t4:=Tryz.underlying4
 a4:=Tryz.isAgg4
 z4:=Tryz.sizeOf4
 v4:=Tryz.zeroValue4
 t22:=Tryz.underlying102
 a22:=Tryz.isAgg102
 z22:=Tryz.sizeOf102
 v22:=Tryz.zeroValue102
 i3:=by kernel_rfl}
end Go.Proofs.YtbnkhmoelnfjoaaGreat
namespace Go.Proofs.YtbnkhmoelnfjoaaGreat
open Go.bM Go.Sort
variable {w:World} {off:Nat} {d:Array Int} {cur:Array C'} {e:pJ} {xs:List Int}
def L8 (x:Int):∀ys:List Int,(B4 x ys).Perm (x::ys)
 | []=>by simp[B4]
 |y::ys=>by
  unfold B4;split
  ·exact .refl _
  ·exact ((L8 x ys).cons y).trans (.swap _ _ _)
def wg:∀xs:List Int,(eX xs).Perm xs
 | []=>.nil
 |x::xs=>(L8 x _).trans ((wg xs).cons x)
def Qb (x:Int):∀ys:List Int,ys.Pairwise (· <= ·)->(B4 x ys).Pairwise (· <= ·)
 | [],_=>by simp[B4]
 |y::ys,h=>by
  unfold B4;split
  ·rename_i HH;refine nK.2 ⟨λz hz=> ?_,h⟩
   rcases da.1 hz with rfl|hz
   ·exact HH
   ·exact Int.le_trans HH ((nK.1 h).1 z hz)
  ·rename_i HH;refine nK.2 ⟨λz hz=> ?_,Qb x ys (nK.1 h).2⟩
   rcases da.1 ((L8 x ys).mem_iff.1 hz) with rfl|hz
   ·omega
   ·exact (nK.1 h).1 z hz
def yC:∀xs:List Int,(eX xs).Pairwise (· <= ·)
 | []=>.nil
 |x::xs=>Qb x _ (yC xs)
def BU:∀{xs ys:List Int},xs.Pairwise (· <= ·)->ys.Pairwise (· <= ·)->xs.Perm ys->xs=ys
 | [],ys,_,_,h=>by simpa using h.symm
 |x::xs,[],_,_,h=>by simp at h
 |x::xs,y::ys,hx,hy,h=>by
  have h1:=nK.1 hx;have h2:=nK.1 hy;have e:x=y:=by
   have a:x∈y::ys:=h.mem_iff.1 (by simp)
   have b:y∈x::xs:=h.mem_iff.2 (by simp)
   rcases da.1 a with rfl|a
   ·rfl
   ·rcases da.1 b with rfl|b
    ·rfl
    ·have:=h2.1 x a;have:=h1.1 y b;omega
  subst e;rw[BU h1.2 h2.2 (List.Perm.cons_inv h)]
def SK (xs:List Int):(xs.mergeSort λx y=>iL (x<=y))=eX xs:=by
 refine BU ?_ (yC xs) ((List.mergeSort_perm xs _).trans (wg xs).symm);have:=List.pairwise_mergeSort (le:=λx y:Int=>iL (x<=y)) (λa b c=>by simp;omega) (λa b=>by simp;omega) xs
 exact this.imp (by simp)
def tlI:Int->List Int->List Int
 |_,[]=> []
 |x,y::l=>if y=x then tlI y l else y::tlI y l
def aCH:∀(l:List Int) (x:Int),((List.range l.length).filter (λj=>Lib.keeps (x::l).toArray (j+1))).map (λj=>(x::l).toArray[j+1]!)=tlI x l
 | [],x=>rfl
 |y::l,x=>by
  have ih:=aCH l y;rw[iu,atN,jc,List.filter_map];have e1:((λj=>Lib.keeps (x::y::l).toArray (j+1)) ∘ LJ)=λj=>Lib.keeps (y::l).toArray (j+1):=by
   funext j;simp[Lib.keeps]
  have e2:((λj=>(x::y::l).toArray[j+1]!) ∘ LJ)=λj=>(y::l).toArray[j+1]! :=by
   funext j;simp
  have e3:Lib.keeps (x::y::l).toArray (0+1)= !iL (y=x):=by simp[Lib.keeps]
  rw[e1,e3];show _=(if y=x then tlI y l else y::tlI y l)
  by_cases h:y=x
  ·rw[aG h,tT h,aC (by decide),tS,e2]
   exact ih
  ·rw[aC h,Dt h,aG (by decide),jX,tS,e2,ih]
   rfl
def MM (x:Int) (l:List Int):Lib.compact (x::l)=x::tlI x l:=by
 unfold Lib.compact Lib.compactUpTo;rw[iu,atN,jc,aG (by simp[Lib.keeps]),List.filter_map,jX,tS]
 have:=aCH l x;rw[<-this];rfl
def Tp:∀xs:List Int,Lib.compact xs=lP xs
 | []=>rfl
 | [x]=>by rw[MM];rfl
 |x::y::l=>by
  have ih:=Tp (y::l);rw[MM] at ih ⊢;show x::(if y=x then tlI y l else y::tlI y l)=(if x=y then lP (y::l) else x::lP (y::l))
  rw[<-ih];by_cases h:y=x
  ·subst h;rw[aG rfl,aG rfl]
  ·rw[aC h,aC (λe=>h e.symm)]
def avo {b n:Nat} (h:w.heap[b]? =V (Obj.cells cur e (0,0))):Wr w (putRow (Value.int .i64) (Sort.ahead w n) b off d) b e (putCells (Value.int .i64) off d cur):=by
 have dq:b<w.heap.size:=(oj.1 h).1;refine ⟨?_,?_,λk hk=> ?_,rfl,rfl,rfl⟩
 ·show (w.heap.modify b (onCells (putCells (Value.int .i64) off d)))[b]? =_;rw[Li,aG rfl,h];rfl
 ·show (w.heap.modify b _).size=_;rw[Array.size_modify]
 ·show (w.heap.modify b _)[k]? =_;rw[Li,aC (wO hk)]
def alW {d:List Int} (hl:off+d.length<=cur.size):(putCells (Value.int .i64) off d.toArray cur).size=cur.size/\(∀t,(t<off\/off+d.length<=t)->(putCells (Value.int .i64) off d.toArray cur)[t]? =cur[t]?)/\∀t x,d[t]? =V x->(putCells (Value.int .i64) off d.toArray cur)[off+t]? =V (.int .i64 x):=by
 refine ⟨by simp[putCells],λt ht=> ?_,λt x hx=> ?_⟩
 ·simp only[putCells,Array.getElem?_mapIdx];have hn:¬(off<=t/\t<off+d.toArray.size):=by simp;omega
  simp only[aC hn];simp
 ·have dq:=(bO.1 hx).1;simp only[putCells,Array.getElem?_mapIdx];rw[A8 (by omega),Lh,aG ⟨by omega,by simp;omega⟩]
  have:d.toArray[off+t-off]! =x:=by
   rw[show off+t-off=t by omega,getElem!_pos _ _ (by simpa using dq)]
   simpa[dq] using hx
  rw[this]
def akM (w:World) (os:Array Obj):TK w (Sort.grow w os):=by
 refine ⟨rfl,rfl,rfl,by simp[Sort.grow],λb hb=> ?_⟩
 simp[Sort.grow,Array.getElem?_append,hb]
def holds_of {b:Nat} (h:w.heap[b]? =V (.cells cur e (0,0))) (hx:∀t x,xs[t]? =V x->cur[off+t]? =V (.int .i64 x)):Holds (Value.int .i64) w b off xs.toArray:=λj hj=>by
 have hj:j<xs.length:=by simpa using hj
 have:=hx j xs[j] (cZ hj);refine ⟨?_,by simp[ac3,h]⟩
 rw[show w.cell? ⟨b,off+j,G⟩=cur[off+j]? by simp[World.cell?,h],this,getElem!_pos _ _ (by simpa using hj)]
 simp
def agU (h0:0<xs.length) (hx:∀t x,xs[t]? =V x->cur[off+t]? =V (.int .i64 x)):off+xs.length<=cur.size:=by
 have:=hx (xs.length-1) _ (cZ (by omega))
 have:=(oj.1 this).1;omega
def auR:TP Tryz.prog 165 M:=by
 refine ⟨⟨_,Tryz.func165,by kernel_rfl,by rw[show Tryz.f165.name= "slices.Sort[[]int,int]" by kernel_rfl];decide⟩,λm w p c=> ?_,λm w b off c xs cur e hb h0 h6 hc hx=> ?_⟩
 ·refine aa4 (ab8.2 (Any.slices_Sort_int_none amI p c w)) ?_;rintro e w' ⟨rfl,rfl⟩;exact ⟨rfl,rfl,rfl,rfl,rfl⟩
 ·have dq:b<w.heap.size:=(oj.1 hb).1;refine aa4 (ab8.2 (Any.slices_Sort_int amI b off c xs w (holds_of hb hx) dq (by omega))) ?_
  rintro e' w' ⟨rfl,n,os,rfl⟩;rw[SK];have hl:(eX xs).length=xs.length:=(wg xs).length_eq;obtain ⟨a1,a2,a3⟩:=alW (d:=eX xs) (by rw[hl];exact agU h0 hx)
  rw[hl] at a2;exact ⟨rfl,_,_,avo hb,akM _ os,a1,a2,a3⟩
def agW:TP Tryz.prog 219 I:=by
 refine ⟨⟨_,Tryz.func219,by kernel_rfl,by rw[show Tryz.f219.name= "slices.Compact[[]int,int]" by kernel_rfl];decide⟩,λm w p c=> ?_,λm w b off c xs cur e hb h0 h6 hc hx=> ?_⟩
 ·refine aa4 (ab8.2 (Any.slices_Compact_int_empty awc p c w)) ?_;rintro e w' ⟨rfl,rfl⟩;exact ⟨rfl,rfl,rfl,rfl,rfl⟩
 ·refine aa4 (ab8.2 (Any.slices_Compact_int awc b off c xs w (holds_of hb hx) (by omega) hc)) ?_
  rintro e' w' ⟨rfl,n,rfl⟩;rw[Tp];have hle:=MI xs;have hl:(lP xs++V' (xs.length-(lP xs).length) 0).length=xs.length:=by simp;omega
  obtain ⟨a1,a2,a3⟩:=alW (d:=lP xs++V' (xs.length-(lP xs).length) 0) (by rw[hl];exact agU h0 hx)
  rw[hl] at a2;exact ⟨rfl,_,_,avo hb,⟨rfl,rfl,rfl,de _,λ_ _=>rfl⟩,a1,a2,a3⟩
end Go.Proofs.YtbnkhmoelnfjoaaGreat
namespace Go.Proofs.YtbnkhmoelnfjoaaGreat
open Go.Lib Go.RowKit Go.bM
variable {P:Program} {ops:Array Oper} {rest:List Oper} {o:Oper} {a:Act} {Q:Exit->Act->World->Prop} {v':C'} {w' w:World} {K:Act->World->Prop} {E:Prop} {J:Type} {k:Nat}
def Qh (w:World) (t e:pJ) (z:C') (sz:Nat) (ht:P.underlying t=V (.slice e)) (hv:∀w,(zeroValue e).run P w= .ok z w) (hz:z.cells.size=sz) (h1:∀v∈z.cells.toList,v.oneCell'=M) (b o n c:Nat) (hn:0<n) (hc:∀j,j<n*sz->(w.cell? ⟨b,o+j,G⟩).isSome=M) (hf:∀j,j<n*sz->w.frozen? ⟨b,o+j,G⟩=I):
  ∃zs:List C',zs.length=n*sz/\(∀v∈zs,v.oneCell'=M)/\∀ty,(Builtin.clear_ #[t] ty #[.slice (V ⟨b,o,G⟩) n c]).run P w= .ok (.tuple #[]) (w.setCells b o zs):=by
 have hl:(aa6 z.cells n).toList.length=n*sz:=by simp[aa6,hz]
 have u9:∀v∈(aa6 z.cells n).toList,v.oneCell'=M:=λv wY=>by
  simp only[aa6,Array.toList_map,dM] at wY;obtain ⟨i,hi,rfl⟩:=wY;have hi:i<n*z.cells.size:=by simpa using hi
  have hz0:0<z.cells.size:=by
   rcases RS z.cells.size with e|e
   ·rw[e] at hi;simp at hi
   ·exact e
  have dq:i % z.cells.size<z.cells.size:=Nat.mod_lt _ hz0;rw[getElem!_pos z.cells _ dq];exact h1 _ (Array.getElem_mem_toList dq)
 refine ⟨(aa6 z.cells n).toList,hl,u9,λty=> ?_⟩
 have kH:=run_storeCells_cells (P:=P) b o (aa6 z.cells n).toList 0 w (by rw[hl];simpa using hc) (by rw[hl];simpa using hf) u9
 simp only[nH] at kH;obtain ⟨m,rfl⟩:∃m,n=m+1:=⟨n-1,by omega⟩
 simp[Builtin.clear_,run_underlying ht,hv,kH]
def AL (b:Nat) (vs:List C') (o:Nat) (w:World) (h:∀j,j<vs.length->(w.cell? ⟨b,o+j,G⟩).isSome=M) (k:Nat) (hk:(w.cell? ⟨b,k,G⟩).isSome=M):((w.setCells b o vs).cell? ⟨b,k,G⟩).isSome=M:=by
 by_cases jq:o<=k/\k<o+vs.length
 ·have:=World.cell?_setCells_in b vs o w h (k-o) (by omega)
  rw[show o+(k-o)=k by omega] at this
  rw[this];rfl
 ·rw[ad1 b vs o w ⟨b,k,G⟩ (λ_ _=>by show k<o\/o+vs.length<=k;omega)]
  exact hk
def mJ {b:Nat} {e:pJ}:∀(vs:List C') (o:Nat) (w:World) (cur:Array C'),w.heap[b]? =V (.cells cur e (0,0))->o+vs.length<=cur.size->∃jP,Wr w (w.setCells b o vs) b e jP/\jP.size=cur.size/\∀k,jP[k]? =if o<=k/\k<o+vs.length then vs[k-o]? else cur[k]?
 | [],o,w,cur,hb,hl=>⟨cur,⟨hb,rfl,λ_ _=>rfl,rfl,rfl,rfl⟩,rfl,λk=>by rw[aC (λh=>absurd h.2 (by have:=h.1;show ¬k<o+0;omega))]⟩
 |v::vs,o,w,cur,hb,hl=>by
  have hl:o+(vs.length+1)<=cur.size:=hl;have dq:b<w.heap.size:=(oj.1 hb).1;have h1:(w.setCell ⟨b,o,G⟩ v).heap[b]? =V (.cells (cur.setIfInBounds o v) e (0,0)):=by
   simp[World.setCell,Li,hb]
  let ⟨jP,a1,a2,a3⟩:=mJ vs (o+1) (w.setCell ⟨b,o,G⟩ v) _ h1 (by simp;omega)
  refine ⟨jP,⟨a1.heap,a1.size.trans (by simp[World.setCell]),λk hk=>(a1.KV k hk).trans ?_,a1.os,a1.tape,a1.output⟩,by rw[a2];simp,λk=> ?_⟩
  ·simp[World.setCell,Li,wO hk]
  ·rw[a3,acJ,iu];by_cases hk:o=k
   ·subst hk;rw[aC (by omega),aG rfl,aG (by omega),aG (by omega),qX];rfl
   ·rw[aC hk];by_cases yk:o+1<=k/\k<o+1+vs.length
    ·rw[aG yk,aG (by omega),show k-o=(k-(o+1))+1 by omega,tR]
    ·rw[aC yk,aC (by omega)]
def avQ (z:C') (h:(z.cells.toList.all λv=>v.oneCell')=M):∀v∈z.cells.toList,v.oneCell'=M:=λv hv=>(jJ.1 h) v hv
def i73:TypeInfo:=(Tryz.prog.info? 73).get (by kernel_rfl)
def Mk:Tryz.prog.info? 73=V i73:=by kernel_rfl
def Ah:i73.size=2:=by kernel_rfl
set_option maxHeartbeats 4000000 in
set_option maxRecDepth 1000000 in
def aKg (mm off n cap i j:Nat) (cs:List C') (w:World) (hcs:cs.length=n*2) (hc:∀t v,cs[t]? =V v->w.cell? ⟨mm,off+t,G⟩=V v) (hf:∀t,t<n*2->w.frozen? ⟨mm,off+t,G⟩=I) (h1:∀v∈cs,v.oneCell'=M) (jr:n<=cap) (hij:i<j) (hj:j<=n):
  Calls Tryz.prog 182 #[.slice (V ⟨mm,off,G⟩) n cap,.int .i64 i,.int .i64 j] w λe w'=>e= .returned (.slice (V ⟨mm,off,G⟩) (n-(j-i)) cap)/\∃zs:List C',zs.length=(j-i)*2/\(∀v∈zs,v.oneCell'=M)/\w'=(w.drew.setCells mm (off+i*2) (cs.drop (j*2))).setCells mm (off+(i+(n-j))*2) zs:=by
 have heq:¬(i=j):=by omega
 have heq':((i:Int)==(j:Int))=I:=by simp;omega
 obtain ⟨news,uW⟩:∃news,news=cs.drop (j*2):=⟨_,rfl⟩;have hlen:news.length=(n-j)*2:=by rw[uW,jx,hcs,A7]
 obtain ⟨A,hA,Mf⟩:∃A:Addr,(if cap=j then V (⟨mm,off,G⟩:Addr) else V ⟨mm,off+j*2,G⟩)=V A/\Hid (∀t u,news[t]? =V u->w.drew.cell? (A.add t)=V u):=by
  by_cases h:cap=j
  ·refine ⟨⟨mm,off,G⟩,by simp[h],λt u hu=> ?_⟩
   have h0:news.length=0:=by rw[hlen];omega
   rw[vk.1 h0] at hu;simp at hu
  ·refine ⟨⟨mm,off+j*2,G⟩,by simp[h],λt u hu=> ?_⟩
   rw[uW,fp] at hu;rw[ab1,show off+j*2+t=off+(j*2+t) by omega]
   exact hc _ _ hu
 have s1:Hid (news.length=(n-j)*2):=hlen;have s2:Hid (∀u∈news,u.oneCell'=M):=λu hu=>h1 u (nG (by rw[<-uW];exact hu))
 have Je:∀t,t<n*2->(w.cell? ⟨mm,off+t,G⟩).isSome=M:=λt ht=>by
  rw[hc t cs[t] (by rw[cZ])];rfl
 have s3:Hid (∀t,t<news.length->(w.drew.cell? ⟨mm,off+i*2+t,G⟩).isSome=M/\w.drew.frozen? ⟨mm,off+i*2+t,G⟩=I):=λt ht=>by
  rw[hlen] at ht;rw[gD];exact ⟨Je (i*2+t) (by omega),hf (i*2+t) (by omega)⟩
 obtain ⟨W1,uZ⟩:∃W1,W1=w.drew.setCells mm (off+i*2) news:=⟨_,rfl⟩;have Si:∀t,t<n*2->(W1.cell? ⟨mm,off+t,G⟩).isSome=M:=λt ht=>by
  rw[uZ];exact AL mm _ _ _ (λk hk=>(s3 k hk).1) _ (Je t ht)
 have fz1:∀t,t<n*2->W1.frozen? ⟨mm,off+t,G⟩=I:=λt ht=>by
  rw[uZ,ac9];exact hf t ht
 let ⟨zs,zq,nj,eY⟩:=Qh (P:=Tryz.prog) W1 40 73 _ 2 Tryz.underlying40 Tryz.zeroValue73 (by kernel_rfl) (avQ _ (by kernel_rfl)) mm (off+(i+(n-j))*2) (n-(i+(n-j))) (cap-(i+(n-j))) (by omega)
  (λt ht=>by rw[gD];exact Si _ (by omega)) (λt ht=>by rw[gD];exact fz1 _ (by omega))
 have hic:i<=cap:=by omega
 have hjc:j<=cap:=by omega
 have hW:Hid (W1=w.drew.setCells mm (off+i*2) news):=uZ;have hNW:Hid (news=cs.drop (j*2)):=uW;clear uZ uW hlen Je Si fz1 hc hf h1;go_enter Tryz.func182,Tryz.ntmps182;go_wp2_with fail;go_region_law (refine step_append_room rfl (.tmp 22) (.tmp 25) 40 rfl 73 i73 2 Tryz.underlying40 Mk Ah mm off i cap (by simp[Act.eval,Act.put]) A (n-j) (cap-j) news (by simp[Act.eval,Act.put,hA]) s1.out Mf.out s2.out (by omega) s3.out ?_;rw[<-hW.out])
 go_wp2;go_ret;refine ⟨?_,zs,by rw[zq];congr 1;omega,nj,?_⟩
 ·rw[show n-(j-i)=i+(n-j) by omega];rfl
 ·rw[hW.out,hNW.out]
def aBG:asF Tryz.prog 182 2:=by
 refine ⟨⟨_,Tryz.func182,by kernel_rfl,by rw[show Tryz.f182.name= "slices.Delete[[]partsync/api.Column,partsync/api.Column]" by kernel_rfl];decide⟩,λm w b off n c i j cur e hb hl h1 hij hj vE=>ab8.2 ?_⟩
 have OQ:∀t,w.cell? ⟨b,t,G⟩=cur[t]? :=λt=>vM hb
 have hlen:((cur.toList.drop off).take (n*2)).length=n*2:=by simp;omega
 have nU:∀t,t<n*2->((cur.toList.drop off).take (n*2))[t]? =cur[off+t]? :=λt ht=>by
  rw[eZ,aG ht,fp,l5]
 refine (aKg b off n c i j ((cur.toList.drop off).take (n*2)) w hlen (λt v hv=> ?_) (λt ht=> ?_) (λv hv=> ?_) vE hij hj).mono ?_
 ·have ht:t<n*2:=by have:=(bO.1 hv).1;rwa[hlen] at this
  rw[OQ,<-nU t ht];exact hv
 ·simp[ac3,hb]
 ·let ⟨t,ht,e⟩:=GW hv;rw[hlen] at ht;refine h1 t ht v ?_;rw[<-nU t ht,<-e];exact cZ _
 ·rintro r w' ⟨rfl,zs,zq,nj,rfl⟩;refine ⟨rfl,?_⟩;have rB:(((cur.toList.drop off).take (n*2)).drop (j*2)).length=(n-j)*2:=by rw[jx,hlen,A7]
  let ⟨c1,a1,a2,a3⟩:=mJ (((cur.toList.drop off).take (n*2)).drop (j*2)) (off+i*2) w.drew cur hb (by rw[rB];omega)
  let ⟨c2,b1,b2,b3⟩:=mJ zs (off+(i+(n-j))*2) _ c1 a1.heap (by rw[a2,zq];omega)
  refine ⟨c2,⟨b1.heap,b1.size.trans a1.size,λk hk=>(b1.KV k hk).trans (a1.KV k hk),b1.os.trans a1.os,b1.tape.trans a1.tape,b1.output.trans a1.output⟩,b2.trans a2,λk hk=> ?_,λt ht=> ?_,λt ht=> ?_⟩
  ·rw[b3,aC (by rw[zq];omega),a3,aC (by rw[rB];omega)]
  ·rw[b3,aC (by omega),a3,aG (by rw[rB];omega),show off+i*2+t-(off+i*2)=t by omega,fp,nU _ (by omega),gD]
  ·refine ⟨zs[t]'(by rw[zq];omega),?_,nj _ (p6 _)⟩
   rw[b3,aG (by rw[zq];omega),show off+i*2+(n*2-j*2)+t-(off+(i+(n-j))*2)=t by omega]
   exact cZ _
def i44:TypeInfo:=(Tryz.prog.info? 44).get (by kernel_rfl)
def hi44:Tryz.prog.info? 44=V i44:=by kernel_rfl
def hs44:i44.size=5:=by kernel_rfl
set_option maxHeartbeats 4000000 in
set_option maxRecDepth 1000000 in
def aKf (mm off n cap i j:Nat) (cs:List C') (w:World) (hcs:cs.length=n*5) (hc:∀t v,cs[t]? =V v->w.cell? ⟨mm,off+t,G⟩=V v) (hf:∀t,t<n*5->w.frozen? ⟨mm,off+t,G⟩=I) (h1:∀v∈cs,v.oneCell'=M) (jr:n<=cap) (hij:i<j) (hj:j<=n):
  Calls Tryz.prog 185 #[.slice (V ⟨mm,off,G⟩) n cap,.int .i64 i,.int .i64 j] w λe w'=>e= .returned (.slice (V ⟨mm,off,G⟩) (n-(j-i)) cap)/\∃zs:List C',zs.length=(j-i)*5/\(∀v∈zs,v.oneCell'=M)/\w'=(w.drew.setCells mm (off+i*5) (cs.drop (j*5))).setCells mm (off+(i+(n-j))*5) zs:=by
 have heq:¬(i=j):=by omega
 have heq':((i:Int)==(j:Int))=I:=by simp;omega
 obtain ⟨news,uW⟩:∃news,news=cs.drop (j*5):=⟨_,rfl⟩;have hlen:news.length=(n-j)*5:=by rw[uW,jx,hcs,A7]
 obtain ⟨A,hA,Mf⟩:∃A:Addr,(if cap=j then V (⟨mm,off,G⟩:Addr) else V ⟨mm,off+j*5,G⟩)=V A/\Hid (∀t u,news[t]? =V u->w.drew.cell? (A.add t)=V u):=by
  by_cases h:cap=j
  ·refine ⟨⟨mm,off,G⟩,by simp[h],λt u hu=> ?_⟩
   have h0:news.length=0:=by rw[hlen];omega
   rw[vk.1 h0] at hu;simp at hu
  ·refine ⟨⟨mm,off+j*5,G⟩,by simp[h],λt u hu=> ?_⟩
   rw[uW,fp] at hu;rw[ab1,show off+j*5+t=off+(j*5+t) by omega]
   exact hc _ _ hu
 have s1:Hid (news.length=(n-j)*5):=hlen;have s2:Hid (∀u∈news,u.oneCell'=M):=λu hu=>h1 u (nG (by rw[<-uW];exact hu))
 have Je:∀t,t<n*5->(w.cell? ⟨mm,off+t,G⟩).isSome=M:=λt ht=>by
  rw[hc t cs[t] (by rw[cZ])];rfl
 have s3:Hid (∀t,t<news.length->(w.drew.cell? ⟨mm,off+i*5+t,G⟩).isSome=M/\w.drew.frozen? ⟨mm,off+i*5+t,G⟩=I):=λt ht=>by
  rw[hlen] at ht;rw[gD];exact ⟨Je (i*5+t) (by omega),hf (i*5+t) (by omega)⟩
 obtain ⟨W1,uZ⟩:∃W1,W1=w.drew.setCells mm (off+i*5) news:=⟨_,rfl⟩;have Si:∀t,t<n*5->(W1.cell? ⟨mm,off+t,G⟩).isSome=M:=λt ht=>by
  rw[uZ];exact AL mm _ _ _ (λk hk=>(s3 k hk).1) _ (Je t ht)
 have fz1:∀t,t<n*5->W1.frozen? ⟨mm,off+t,G⟩=I:=λt ht=>by
  rw[uZ,ac9];exact hf t ht
 let ⟨zs,zq,nj,eY⟩:=Qh (P:=Tryz.prog) W1 23 44 _ 5 Tryz.underlying23 Tryz.zeroValue44 (by kernel_rfl) (avQ _ (by kernel_rfl)) mm (off+(i+(n-j))*5) (n-(i+(n-j))) (cap-(i+(n-j))) (by omega)
  (λt ht=>by rw[gD];exact Si _ (by omega)) (λt ht=>by rw[gD];exact fz1 _ (by omega))
 have hic:i<=cap:=by omega
 have hjc:j<=cap:=by omega
 have hW:Hid (W1=w.drew.setCells mm (off+i*5) news):=uZ;have hNW:Hid (news=cs.drop (j*5)):=uW;clear uZ uW hlen Je Si fz1 hc hf h1;go_enter Tryz.func185,Tryz.ntmps185;go_wp2_with fail;go_region_law (refine step_append_room rfl (.tmp 22) (.tmp 25) 23 rfl 44 i44 5 Tryz.underlying23 hi44 hs44 mm off i cap (by simp[Act.eval,Act.put]) A (n-j) (cap-j) news (by simp[Act.eval,Act.put,hA]) s1.out Mf.out s2.out (by omega) s3.out ?_;rw[<-hW.out])
 go_wp2;go_ret;refine ⟨?_,zs,by rw[zq];congr 1;omega,nj,?_⟩
 ·rw[show n-(j-i)=i+(n-j) by omega];rfl
 ·rw[hW.out,hNW.out]
def aBF:asF Tryz.prog 185 5:=by
 refine ⟨⟨_,Tryz.func185,by kernel_rfl,by rw[show Tryz.f185.name= "slices.Delete[[]partsync/api.Table,partsync/api.Table]" by kernel_rfl];decide⟩,λm w b off n c i j cur e hb hl h1 hij hj vE=>ab8.2 ?_⟩
 have OQ:∀t,w.cell? ⟨b,t,G⟩=cur[t]? :=λt=>vM hb
 have hlen:((cur.toList.drop off).take (n*5)).length=n*5:=by simp;omega
 have nU:∀t,t<n*5->((cur.toList.drop off).take (n*5))[t]? =cur[off+t]? :=λt ht=>by
  rw[eZ,aG ht,fp,l5]
 refine (aKf b off n c i j ((cur.toList.drop off).take (n*5)) w hlen (λt v hv=> ?_) (λt ht=> ?_) (λv hv=> ?_) vE hij hj).mono ?_
 ·have ht:t<n*5:=by have:=(bO.1 hv).1;rwa[hlen] at this
  rw[OQ,<-nU t ht];exact hv
 ·simp[ac3,hb]
 ·let ⟨t,ht,e⟩:=GW hv;rw[hlen] at ht;refine h1 t ht v ?_;rw[<-nU t ht,<-e];exact cZ _
 ·rintro r w' ⟨rfl,zs,zq,nj,rfl⟩;refine ⟨rfl,?_⟩;have rB:(((cur.toList.drop off).take (n*5)).drop (j*5)).length=(n-j)*5:=by rw[jx,hlen,A7]
  let ⟨c1,a1,a2,a3⟩:=mJ (((cur.toList.drop off).take (n*5)).drop (j*5)) (off+i*5) w.drew cur hb (by rw[rB];omega)
  let ⟨c2,b1,b2,b3⟩:=mJ zs (off+(i+(n-j))*5) _ c1 a1.heap (by rw[a2,zq];omega)
  refine ⟨c2,⟨b1.heap,b1.size.trans a1.size,λk hk=>(b1.KV k hk).trans (a1.KV k hk),b1.os.trans a1.os,b1.tape.trans a1.tape,b1.output.trans a1.output⟩,b2.trans a2,λk hk=> ?_,λt ht=> ?_,λt ht=> ?_⟩
  ·rw[b3,aC (by rw[zq];omega),a3,aC (by rw[rB];omega)]
  ·rw[b3,aC (by omega),a3,aG (by rw[rB];omega),show off+i*5+t-(off+i*5)=t by omega,fp,nU _ (by omega),gD]
  ·refine ⟨zs[t]'(by rw[zq];omega),?_,nj _ (p6 _)⟩
   rw[b3,aG (by rw[zq];omega),show off+i*5+(n*5-j*5)+t-(off+(i+(n-j))*5)=t by omega]
   exact cZ _
def OP (w:World) (dT sT ty elem:pJ) (i:TypeInfo) (sz:Nat) (b o dLen dCap:Nat) (a:Addr) (azR sCap k:Nat) (cs:List C') (hu:P.underlying dT=V (.slice elem)) (hi:P.info? elem=V i) (hs:i.size=sz) (hk:Nat.min azR dLen=k) (hn:cs.length=k*sz) (Mf:∀j v,cs[j]? =V v->w.cell? (a.add j)=V v) (hc:∀j,j<cs.length->(w.cell? ⟨b,o+j,G⟩).isSome=M) (hf:∀j,j<cs.length->w.frozen? ⟨b,o+j,G⟩=I) (h1:∀v∈cs,v.oneCell'=M):
  (aa5 #[dT,sT] ty #[.slice (V ⟨b,o,G⟩) dLen dCap,.slice (V a) azR sCap]).run P w= .ok (goInt k) (w.setCells b o cs):=by
 subst hs;have hfc:=run_firstCells_some (P:=P) w i.size k a azR sCap cs hn Mf;have kH:=run_storeCells_cells (P:=P) b o cs 0 w (by simpa using hc) (by simpa using hf) h1
 simp only[nH] at kH;simp[aa5,run_underlying hu,Builtin.lenOf,sizeOf,typeInfo,hi,hk,hfc,kH]
def wpC (w:World) (hgd:o.guard=G) (d s:Operand) (t t':pJ) (ho:o.op= .call {callee:=.builtin .copy,args:= #[d,s],argTypes:= #[t,t']}) (v u:C') (hd:a.eval d=v) (hs:a.eval s=u) (hr:(aa5 #[t,t'] o.type #[v,u]).run P w= .ok v' w') (h:wpList P ops Q rest (a.put o.dst v') w'):wpList P ops Q (o::rest) a w:=
 wpList_plain hgd λ_ hK=>by
  unfold Oper.wp execOp;simp only[ho,resolve,invoke,builtin,Sem.run_bind,Sem.run_pure,Result.andThen_ok,List.map_toArray,jX,wM,hd,hs,hr];exact hK _ _ h
def aCJ (hg:o.guard=G) (d x:Operand) (dT sT:pJ) (gu:o.op=Op.call {callee:=Callee.builtin Builtin.copy,args:= #[d,x],argTypes:= #[dT,sT]}) (v u:C') (hd:a.eval d=v) (hx:a.eval x=u) (hr:(aa5 #[dT,sT] o.type #[v,u]).run P w= .ok v' w') (hK:K (a.put o.dst v') w'):
  if Region.wanted o (yielded ops a.tmps)=M then Oper.wp P o a w K Q else E:=by
 have hw:Region.wanted o (yielded ops a.tmps)=M:=by simp[Region.wanted,hg]
 rw[aG hw];unfold Oper.wp;simp[execOp,gu,resolve,invoke,builtin,hd,hx,hr,Result.andThen];exact hK
structure ahY (w:World) (b off n c vb kb q vc:Nat) (cs vs:List C'):Prop where
 cl:cs.length=n*2
 vl:vs.length=q*2
 hc:∀j v,cs[j]? =V v->w.cell? ⟨b,off+j,G⟩=V v
 hv:∀j v,vs[j]? =V v->w.cell? ⟨vb,kb+j,G⟩=V v
 sp:∀j,j<c*2->(w.cell? ⟨b,off+j,G⟩).isSome=M
 fz:∀j,j<c*2->w.frozen? ⟨b,off+j,G⟩=I
 h1:∀v∈cs,v.oneCell'=M
 h2:∀v∈vs,v.oneCell'=M
set_option maxHeartbeats 4000000 in
set_option maxRecDepth 1000000 in
def afW (b off n c vb kb q vc:Nat) (cs vs:List C') (w:World) (ge:ahY w b off n c vb kb q vc cs vs) (hq:0<q) (nv:n+q<=c):
  Calls Tryz.prog 184 #[.slice (V ⟨b,off,G⟩) n c,.int .i64 n,.slice (V ⟨vb,kb,G⟩) q vc] w λe w'=>e= .returned (.slice (V ⟨b,off,G⟩) (n+q) c)/\w'=w.setCells b (off+n*2) vs:=by
 have zq:¬((q:Int)=0):=by omega
 have qK:∀ty,(aa8 #[40,40] ty #[.slice (V ⟨b,off,G⟩) n c,.slice (V ⟨vb,kb,G⟩) q vc]).run Tryz.prog w= .ok (.slice (V ⟨b,off,G⟩) (n+q) c) (w.setCells b (off+n*2) vs):=λty=>by
  have h:=run_append_room_cells (P:=Tryz.prog) w 40 ty 73 i73 Tryz.underlying40 Mk b off n c ⟨vb,kb,G⟩ q vc vs (by rw[ge.vl,Ah]) (λj u hj=>by rw[ab1];exact ge.hv j u hj) ge.h2 nv
   (λj hj=>by rw[Ah,gD];rw[ge.vl] at hj;exact ge.sp _ (by omega)) (λj hj=>by rw[Ah,gD];rw[ge.vl] at hj;exact ge.fz _ (by omega))
  rw[Ah] at h;exact h
 clear ge;go_enter Tryz.func184,Tryz.ntmps184;go_wp2_with (at_builtin;refine Lib.wpList_append_run _ rfl _ _ _ _ rfl _ _ rfl rfl _ _ (qK _) ?_);go_ret;exact ⟨rfl,rfl⟩
def z73:i73.zero=V i73.zero.get! :=by kernel_rfl
def b73:i73.bytes=24:=by kernel_rfl
def azw:(i73.zero.get!).cells.size=2:=by kernel_rfl
set_option maxHeartbeats 4000000 in
set_option maxRecDepth 1000000 in
def afX (b off n c vb kb q vc:Nat) (cs vs:List C') (w:World) (ge:ahY w b off n c vb kb q vc cs vs) (hq:0<q) (nv:c<n+q) (zr:n<=1000000) (hq6:q<=1000000) (vE:n<=c):
  Calls Tryz.prog 184 #[.slice (V ⟨b,off,G⟩) n c,.int .i64 n,.slice (V ⟨vb,kb,G⟩) q vc] w λe w'=>∃f9,e= .returned (.slice (V ⟨w.heap.size,0,G⟩) (n+q) f9)/\n+q<=f9/\∃jP:Array C',f9*2<=jP.size/\(∀t,t<(n+q)*2->jP[t]? =(cs++vs)[t]?)/\Nw w w' 73 jP:=by
 have zq:¬((q:Int)=0):=by omega
 have Mf:Src Tryz.prog i73.size 40 (.slice (V ⟨vb,kb,G⟩) q vc) q vs w:=by
  rw[Ah];exact Src.ofSlice w Tryz.underlying40 ⟨vb,kb,G⟩ q vc vs ge.vl (λj u hj=>by rw[ab1];exact ge.hv j u hj) ge.h2
 have hold:(ab7 i73.size n (.slice (V ⟨b,off,G⟩) n c)).run Tryz.prog w.drew= .ok cs.toArray w.drew:=by
  rw[Ah];exact run_firstCells_some w.drew 2 n ⟨b,off,G⟩ n c cs ge.cl (λj v hj=>by rw[ab1];exact ge.hc j v hj)
 obtain ⟨f9,hG⟩:∃f9,f9=grownCap w (n+q) c 73:=⟨_,rfl⟩;obtain ⟨cur,GA⟩:∃cur:Array C',cur=(cs++vs).toArray++aa6 (i73.zero.get!).cells (f9-(n+q)):=⟨_,rfl⟩;have hGe:n+q<=f9:=by rw[hG];exact grownCap_ge w _ _ _
 have oA:cur.size=f9*2:=by
  rw[GA];simp[aa6,azw,ge.cl,ge.vl];omega
 have nU:∀t,t<(n+q)*2->cur[t]? =(cs++vs)[t]? :=λt ht=>by
  rw[GA,Lf (by simp[ge.cl,ge.vl];omega),Ld]
 have qK:∀ty,(aa8 #[40,40] ty #[.slice (V ⟨b,off,G⟩) n c,.slice (V ⟨vb,kb,G⟩) q vc]).run Tryz.prog w= .ok (.slice (V ⟨w.heap.size,0,G⟩) (n+q) f9) (w.drew.alloc (.cells cur 73)):=λty=>by
  have h:=run_append_grow_src w 40 40 ty 73 i73 _ Tryz.underlying40 Mk z73 (V ⟨b,off,G⟩) n c cs hold _ q vs Mf nv (by omega) (growslice_fits nv (by rw[b73];omega))
  rw[<-hG,<-GA] at h;exact h
 clear ge hold Mf hG GA;go_enter Tryz.func184,Tryz.ntmps184;go_wp2_with (at_builtin;refine Lib.wpList_append_run _ rfl _ _ _ _ rfl _ _ rfl rfl _ _ (qK _) ?_);all_goals (go_ret;exact ⟨f9,rfl,hGe,cur,by omega,nU,⟨rfl,rfl,rfl,rfl⟩⟩)
set_option maxHeartbeats 4000000 in
set_option maxRecDepth 1000000 in
def axw (b off n c i vb kb q vc:Nat) (cs vs:List C') (w:World) (ge:ahY w b off n c vb kb q vc cs vs) (hi:i<n) (hq:0<q) (nv:n+q<=c) (hvb:vb≠b) (zr:n<=1000000) (hq6:q<=1000000)
  (tA tB:pJ) (kA kB:Nat) (hsa:w.shape? vb=V (tA,kA)) (hsb:w.shape? b=V (tB,kB)) (hkB:kB≠0) (hfa:w.frozen? ⟨vb,kb,G⟩=I) (hfe:w.frozen? ⟨vb,kA,G⟩=I):
  Calls Tryz.prog 184 #[.slice (V ⟨b,off,G⟩) n c,.int .i64 i,.slice (V ⟨vb,kb,G⟩) q vc] w λe w'=>e= .returned (.slice (V ⟨b,off,G⟩) (n+q) c)/\w'=(w.drew.setCells b (off+(i+q)*2) (cs.drop (i*2))).setCells b (off+i*2) vs:=by
 have zq:¬((q:Int)=0):=by omega
 have nj:¬((i:Int)=(n:Int)):=by omega
 have hz3:¬((c:Int)<(n:Int)+(q:Int)):=by omega
 have hov:∀lb cb,(callFunc 199 #[.slice (V ⟨vb,kb,G⟩) q vc,.slice (V ⟨b,off+(i+q)*2,G⟩) lb cb]).run Tryz.prog w= .ok (.value (.bool I)) w:=λlb cb=>by
  rw[run_callFunc_extern Tryz.func199 (by kernel_rfl) (by kernel_rfl) (by kernel_rfl) (e:=Extern.SlicesOverlaps.overlaps #[40,40] #[4]) (by kernel_rfl),
   Lib.run_overlaps_apart w 40 4 73 Tryz.underlying40 2 Tryz.sizeOf73 ⟨vb,kb,G⟩ ⟨b,off+(i+q)*2,G⟩ q vc lb cb hvb tA tB kA kB hsa hsb hkB hfa hfe]
  rfl
 have rB:(cs.drop (i*2)).length=(n-i)*2:=by rw[jx,ge.cl,A7]
 have hw1:IntKind.i64.wrap ((i:Int)+(q:Int))=(i:Int)+(q:Int):=by rw[IntKind.wrap_i64];omega
 have hw2:IntKind.i64.wrap ((n:Int)+(q:Int))=(n:Int)+(q:Int):=by rw[IntKind.wrap_i64];omega
 have hb1:(0:Int)<=(i:Int)+(q:Int):=by omega
 have jq:i<=n:=by omega
 have htn:((i:Int)+(q:Int)).toNat=i+q:=by omega
 have hb2:¬(c=i+q):=by omega
 have hb3:(i:Int)<=(n:Int)+(q:Int):=by omega
 have hb4:¬(c=i):=by omega
 have hcp1:∀ty dc sc,(aa5 #[40,40] ty #[.slice (V ⟨b,off+(i+q)*2,G⟩) (n+q-(i+q)) dc,.slice (V ⟨b,off+i*2,G⟩) (n+q-i) sc]).run Tryz.prog w.drew= .ok (goInt (n-i:Nat)) (w.drew.setCells b (off+(i+q)*2) (cs.drop (i*2))):=λty dc sc=>
  OP w.drew 40 40 ty 73 i73 2 b (off+(i+q)*2) (n+q-(i+q)) dc ⟨b,off+i*2,G⟩ (n+q-i) sc (n-i) (cs.drop (i*2)) Tryz.underlying40 Mk Ah (by simp only[RR];split<;>omega) rB
   (λj v hj=>by rw[ab1,gD];exact ge.hc (i*2+j) v (by rwa[fp] at hj))
   (λj hj=>by rw[rB] at hj;rw[gD];exact ge.sp _ (by omega)) (λj hj=>by rw[rB] at hj;rw[gD];exact ge.fz _ (by omega)) (λv hv=>ge.h1 v (nG hv))
 obtain ⟨W1,uZ⟩:∃W1,W1=w.drew.setCells b (off+(i+q)*2) (cs.drop (i*2)):=⟨_,rfl⟩;have hsp1:∀k,k<c*2->(W1.cell? ⟨b,off+k,G⟩).isSome=M:=λk hk=>by
  rw[uZ];exact AL b _ _ _ (λj hj=>by rw[rB] at hj;rw[gD];exact ge.sp _ (by omega)) _ (ge.sp k hk)
 have hcp2:∀ty dc,(aa5 #[40,40] ty #[.slice (V ⟨b,off+i*2,G⟩) (n+q-i) dc,.slice (V ⟨vb,kb,G⟩) q vc]).run Tryz.prog W1= .ok (goInt (q:Nat)) (W1.setCells b (off+i*2) vs):=λty dc=>
  OP W1 40 40 ty 73 i73 2 b (off+i*2) (n+q-i) dc ⟨vb,kb,G⟩ q vc q vs Tryz.underlying40 Mk Ah (by simp only[RR];split<;>omega) ge.vl
   (λj v hj=>by
    rw[ab1,uZ,ad1 b _ _ _ _ (λh _=>absurd h hvb)]
    exact ge.hv j v hj)
   (λj hj=>by rw[ge.vl] at hj;rw[gD];exact hsp1 _ (by omega)) (λj hj=>by rw[ge.vl] at hj;rw[uZ,ac9,gD];exact ge.fz _ (by omega)) ge.h2
 rw[<-uZ] at hcp1;have hW:Hid (W1=w.drew.setCells b (off+(i+q)*2) (cs.drop (i*2))):=uZ;clear ge hsp1 rB uZ;go_enter Tryz.func184,Tryz.ntmps184;go_wp2_with (simp only[hov]);go_region_law (refine aCJ rfl _ _ 40 40 rfl _ _ (by simp[Act.eval,Act.put]) (by simp[Act.eval,Act.put]) (hcp1 _ _ _) ?_)
 go_wp2_with (at_builtin;refine wpC _ rfl _ _ 40 40 rfl _ _ rfl rfl (hcp2 _ _) ?_);go_ret;exact ⟨rfl,by rw[hW.out]⟩
set_option maxHeartbeats 4000000 in
set_option maxRecDepth 1000000 in
def aAw (b off n c i vb kb q vc:Nat) (cs vs:List C') (w:World) (ge:ahY w b off n c vb kb q vc cs vs) (hi:i<n) (hq:0<q) (nv:c<n+q) (zr:n<=1000000) (hq6:q<=1000000) (vE:n<=c) (hbw:b<w.heap.size) (hvw:vb<w.heap.size):
  Calls Tryz.prog 184 #[.slice (V ⟨b,off,G⟩) n c,.int .i64 i,.slice (V ⟨vb,kb,G⟩) q vc] w λe w'=>∃f9,e= .returned (.slice (V ⟨w.heap.size,0,G⟩) (n+q) f9)/\n+q<=f9/\∃za:Array C',za.size=f9*2/\(∀t,t<i*2->za[t]? =cs[t]?)/\w'=((w.drew.alloc (.cells za 73)).setCells w.heap.size (i*2) vs).drew.setCells w.heap.size ((i+q)*2) (cs.drop (i*2)):=by
 have zq:¬((q:Int)=0):=by omega
 have nj:¬((i:Int)=(n:Int)):=by omega
 have hz3:(c:Int)<(n:Int)+(q:Int):=by omega
 have hkk:(n:Int)+(q:Int)-(i:Int)=((n+q-i:Nat):Int):=by omega
 have hik:i+(n+q-i)=n+q:=by omega
 have hold:(ab7 i73.size i (.slice (V ⟨b,off,G⟩) i c)).run Tryz.prog w.drew= .ok (cs.take (i*2)).toArray w.drew:=by
  rw[Ah];exact run_firstCells_some w.drew 2 i ⟨b,off,G⟩ i c (cs.take (i*2)) (by rw[dz,ge.cl];omega) (λj v hj=>by
   rw[ab1];rw[eZ] at hj;split at hj
   ·exact ge.hc j v hj
   ·cases hj)
 obtain ⟨f9,hG⟩:∃f9,f9=grownCap w (n+q) c 73:=⟨_,rfl⟩;obtain ⟨za,aql⟩:∃za:Array C',za=(cs.take (i*2)).toArray++aa6 (i73.zero.get!).cells (n+q-i)++aa6 (i73.zero.get!).cells (f9-(n+q)):=⟨_,rfl⟩;have hrz:∀ty,(aa8 #[40,3] ty #[.slice (V ⟨b,off,G⟩) i c,.int .i64 ((n:Int)+(q:Int)-(i:Int))]).run Tryz.prog w= .ok (.slice (V ⟨w.heap.size,0,G⟩) (n+q) f9) (w.drew.alloc (.cells za 73)):=λty=>by
  have h:=Lib.run_append_grow_zeros w 40 3 ty 73 i73 _ .i64 .i64 Tryz.underlying40 Tryz.underlying3 Mk z73 (V ⟨b,off,G⟩) i c (cs.take (i*2)) hold (n+q-i) (by omega) (by rw[Ah];omega) (by omega) (by omega) (by rw[b73];omega) (by rw[b73,hik];exact growslice_fits nv (by omega))
  rw[hik,<-hG,<-aql] at h;rw[hkk];exact h
 have hGn:n+q<=f9:=by rw[hG];exact grownCap_ge w _ _ _
 have hRl:za.size=f9*2:=by
  rw[aql];simp[aa6,azw,ge.cl];omega
 have hRg:∀t,t<i*2->za[t]? =cs[t]? :=λt ht=>by
  rw[aql,Lf (by simp[aa6,azw,ge.cl];omega),Lf (by simp[ge.cl];omega),Ld,eZ,aG ht]
 obtain ⟨W1,uZ⟩:∃W1,W1=w.drew.alloc (.cells za 73):=⟨_,rfl⟩;have hN:∀j,j<f9*2->(W1.cell? ⟨w.heap.size,j,G⟩).isSome=M:=λj hj=>by
  rw[uZ,World.cell?_alloc_at (w:=w.drew) za _ w.heap.size j rfl,A8 (by omega)];rfl
 have hNf:∀j,W1.frozen? ⟨w.heap.size,j,G⟩=I:=λj=>by rw[uZ];exact World.frozen?_alloc_at (w:=w.drew) za _ w.heap.size j rfl
 have hOb:∀j v,w.cell? ⟨b,j,G⟩=V v->W1.cell? ⟨b,j,G⟩=V v:=λj v h=>by rw[uZ,World.cell?_alloc_past (w:=w.drew) _ b j hbw];exact h
 have hOv:∀j v,w.cell? ⟨vb,j,G⟩=V v->W1.cell? ⟨vb,j,G⟩=V v:=λj v h=>by rw[uZ,World.cell?_alloc_past (w:=w.drew) _ vb j hvw];exact h
 have hG63:f9<=9223372036854775807:=by
  have:=grownCap_le_maxLen w (n+q) c 73 (by unfold maxLen;omega)
  rw[<-hG] at this;unfold maxLen at this;omega
 have hcpA:∀(W:World),(∀x,W.cell? x=W1.cell? x)->(∀x,W.frozen? x=W1.frozen? x)->∀ty dc,(aa5 #[40,40] ty #[.slice (V ⟨w.heap.size,i*2,G⟩) (n+q-i) dc,.slice (V ⟨vb,kb,G⟩) q vc]).run Tryz.prog W= .ok (goInt (q:Nat)) (W.setCells w.heap.size (i*2) vs):=λW hWc hWf ty dc=>
  OP W 40 40 ty 73 i73 2 w.heap.size (i*2) (n+q-i) dc ⟨vb,kb,G⟩ q vc q vs Tryz.underlying40 Mk Ah (by simp only[RR];split<;>omega) ge.vl
   (λj v hj=>by rw[ab1,hWc];exact hOv _ v (ge.hv j v hj))
   (λj hj=>by rw[hWc];rw[ge.vl] at hj;exact hN _ (by omega)) (λj hj=>by rw[hWf];exact hNf _) ge.h2
 have hbN:b≠w.heap.size:=by omega
 have rB:(cs.drop (i*2)).length=(n-i)*2:=by rw[jx,ge.cl,A7]
 have hcpB:∀(W:World),(∀x,W.cell? x=(W1.setCells w.heap.size (i*2) vs).cell? x)->(∀x,W.frozen? x=(W1.setCells w.heap.size (i*2) vs).frozen? x)->∀ty dc sc,(aa5 #[40,40] ty #[.slice (V ⟨w.heap.size,(i+q)*2,G⟩) (n+q-(i+q)) dc,.slice (V ⟨b,off+i*2,G⟩) (n-i) sc]).run Tryz.prog W= .ok (goInt (n-i:Nat)) (W.setCells w.heap.size ((i+q)*2) (cs.drop (i*2))):=λW hWc hWf ty dc sc=>
  OP W 40 40 ty 73 i73 2 w.heap.size ((i+q)*2) (n+q-(i+q)) dc ⟨b,off+i*2,G⟩ (n-i) sc (n-i) (cs.drop (i*2)) Tryz.underlying40 Mk Ah (by simp only[RR];split<;>omega) rB
   (λj v hj=>by
    rw[ab1,hWc,ad1 _ _ _ _ _ (λh _=>absurd h hbN),gD]
    exact hOb _ v (ge.hc (i*2+j) v (by rwa[fp] at hj)))
   (λj hj=>by rw[rB] at hj;rw[hWc];exact AL _ _ _ _ (λt ht=>by rw[ge.vl] at ht;exact hN _ (by omega)) _ (hN _ (by omega)))
   (λj hj=>by rw[hWf,ac9];exact hNf _) (λv hv=>ge.h1 v (nG hv))
 have hGi:¬(f9=i):=by omega
 have hGim:¬(f9=i+q):=by omega
 have hci:¬(c=i):=by omega
 have hw1:IntKind.i64.wrap ((i:Int)+(q:Int))=(i:Int)+(q:Int):=by rw[IntKind.wrap_i64];omega
 have hb1:(0:Int)<=(i:Int)+(q:Int):=by omega
 have jq:i<=n:=by omega
 have htn:((i:Int)+(q:Int)).toNat=i+q:=by omega
 have hb3:(i:Int)<=(n:Int):=by omega
 rw[<-uZ] at hrz;have hW:Hid (W1=w.drew.alloc (.cells za 73)):=uZ;have hA:=λty dc=>hcpA W1 (λ_=>rfl) (λ_=>rfl) ty dc
 obtain ⟨W2,hW2⟩:∃W2,W2=W1.setCells w.heap.size (i*2) vs:=⟨_,rfl⟩;rw[<-hW2] at hA;have hB:=λty dc sc=>hcpB W2.drew (λ_=>by rw[hW2];rfl) (λ_=>by rw[hW2];rfl) ty dc sc
 have hW2':Hid (W2=W1.setCells w.heap.size (i*2) vs):=hW2;clear hkk hik hold aql hG ge hN hNf hOb hOv hcpA hcpB rB uZ hW2 hbw hvw;go_enter Tryz.func184,Tryz.ntmps184;go_wp2_with (first
  |(at_builtin;refine Lib.wpList_append_run _ rfl _ _ _ _ rfl _ _ rfl rfl _ _ (hrz _) ?_)
  |(at_builtin;refine wpC _ rfl _ _ 40 40 rfl _ _ rfl rfl (hA _ _) ?_))
 go_region_law (refine aCJ rfl _ _ 40 40 rfl (.slice (V ⟨w.heap.size,(i+q)*2,G⟩) (n+q-(i+q)) (f9-(i+q))) (.slice (V ⟨b,off+i*2,G⟩) (n-i) (c-i)) (by simp[Act.eval,Act.put]) (by simp[Act.eval,Act.put]) (hB 3 (f9-(i+q)) (c-i)) ?_)
 go_wp2;go_ret;exact ⟨f9,rfl,hGn,za,hRl,hRg,by rw[hW2'.out,hW.out]⟩
def aHQ {xs ys:List J} (hk:k<=xs.length) (t:Nat):(B5 xs k ys)[t]? =if t<k then xs[t]? else if t<k+ys.length then ys[t-k]? else xs[t-ys.length]? :=by
 show (xs.take k++(ys++xs.drop k))[t]? =_;rw[sj,dz,fo hk];by_cases q1:t<k
 ·rw[aG q1,aG q1,eZ,aG q1]
 ·rw[aC q1,aC q1,sj];by_cases q2:t<k+ys.length
  ·rw[aG (by omega),aG q2]
  ·rw[aC (by omega),aC q2,fp]
   congr 1;omega
def aAy:aGe Tryz.prog 184 73 2:=by
 refine ⟨⟨_,Tryz.func184,by kernel_rfl,by rw[show Tryz.f184.name= "slices.Insert[[]partsync/api.Column,partsync/api.Column]" by kernel_rfl];decide⟩,λm w b off n c i vb kb q vc cur J4 ev hb hvb cQ hcs yi h1 h2 vE zr hq hq6 jq=>ab8.2 ?_⟩
 have OQ:∀t,w.cell? ⟨b,t,G⟩=cur[t]? :=λt=>vM hb
 have aQL:∀t,w.cell? ⟨vb,t,G⟩=J4[t]? :=λt=>vM hvb
 obtain ⟨cs,aAX⟩:∃cs,cs=(cur.toList.drop off).take (n*2):=⟨_,rfl⟩;obtain ⟨vs,aAO⟩:∃vs,vs=(J4.toList.drop kb).take (q*2):=⟨_,rfl⟩;have lc:cs.length=n*2:=by rw[aAX];simp;omega
 have lv:vs.length=q*2:=by rw[aAO];simp;omega
 have gc:∀t,t<n*2->cs[t]? =cur[off+t]? :=λt ht=>by rw[aAX,eZ,aG ht,fp,l5]
 have gv:∀t,t<q*2->vs[t]? =J4[kb+t]? :=λt ht=>by rw[aAO,eZ,aG ht,fp,l5]
 have ge:ahY w b off n c vb kb q vc cs vs:=by
  refine ⟨lc,lv,λt v hv=> ?_,λt v hv=> ?_,λt ht=> ?_,λt ht=> ?_,λv hv=> ?_,λv hv=> ?_⟩
  ·have ht:t<n*2:=by have:=(bO.1 hv).1;rwa[lc] at this
   rw[OQ,<-gc t ht];exact hv
  ·have ht:t<q*2:=by have:=(bO.1 hv).1;rwa[lv] at this
   rw[aQL,<-gv t ht];exact hv
  ·rw[OQ,A8 (by omega)];rfl
  ·simp[ac3,hb]
  ·let ⟨t,ht,e⟩:=GW hv;rw[lc] at ht;refine h1 t ht v ?_;rw[<-gc t ht,<-e];exact cZ _
  ·let ⟨t,ht,e⟩:=GW hv;rw[lv] at ht;refine h2 t ht v ?_;rw[<-gv t ht,<-e];exact cZ _
 rw[<-aAX,<-aAO];have f9:∀t,(B5 cs (i*2) vs)[t]? =if t<i*2 then cs[t]? else if t<i*2+q*2 then vs[t-i*2]? else cs[t-q*2]? :=λt=>by
  rw[aHQ (by rw[lc];omega),lv]
 rcases Nat.eq_or_lt_of_le jq with rfl|dq
 ·by_cases nv:i+q<=c
  ·refine (afW b off i c vb kb q vc cs vs w ge hq nv).mono ?_;rintro r w' ⟨rfl,rfl⟩;let ⟨c1,a1,a2,a3⟩:=mJ vs (off+i*2) w cur hb (by rw[lv];omega)
   refine ⟨b,off,c,c1,rfl,nv,by rw[a2];exact hcs,λt ht=> ?_,.inl ⟨rfl,rfl,a1⟩⟩
   rw[f9,a3,lv];by_cases q1:t<i*2
   ·rw[aC (by omega),aG q1,gc t q1]
   ·rw[aG (by omega),aC q1,aG (by omega),show off+t-(off+i*2)=t-i*2 by omega]
  ·refine (afX b off i c vb kb q vc cs vs w ge hq (by omega) zr hq6 vE).mono ?_
   rintro r w' ⟨G',rfl,hG,c1,oA,nU,hw⟩;refine ⟨w.heap.size,0,G',c1,rfl,hG,by omega,λt ht=> ?_,.inr ⟨rfl,rfl,hw⟩⟩
   rw[f9,cg,nU t ht,sj,lc];by_cases q1:t<i*2
   ·rw[aG q1,aG q1]
   ·rw[aC q1,aC q1,aG (by omega)]
 ·have hld:(cs.drop (i*2)).length=(n-i)*2:=by rw[jx,lc,A7]
  by_cases nv:n+q<=c
  ·refine (axw b off n c i vb kb q vc cs vs w ge dq hq nv cQ zr hq6 ev 73 J4.size cur.size (by simp[World.shape?,hvb]) (by simp[World.shape?,hb]) (by omega) (by simp[ac3,hvb]) (by simp[ac3,hvb])).mono ?_
   rintro r w' ⟨rfl,rfl⟩;let ⟨c1,a1,a2,a3⟩:=mJ (cs.drop (i*2)) (off+(i+q)*2) w.drew cur hb (by rw[hld];omega)
   let ⟨c2,b1,b2,b3⟩:=mJ vs (off+i*2) _ c1 a1.heap (by rw[lv,a2];omega)
   refine ⟨b,off,c,c2,rfl,nv,by rw[b2,a2];exact hcs,λt ht=> ?_,.inl ⟨rfl,rfl,⟨b1.heap,b1.size.trans a1.size,λk hk=>(b1.KV k hk).trans (a1.KV k hk),b1.os.trans a1.os,b1.tape.trans a1.tape,b1.output.trans a1.output⟩⟩⟩
   rw[f9,b3,lv];by_cases q1:t<i*2
   ·rw[aC (by omega),aG q1,a3,aC (by omega),gc t (by omega)]
   ·rw[aC q1];by_cases q2:t<i*2+q*2
    ·rw[aG (by omega),aG q2,show off+t-(off+i*2)=t-i*2 by omega]
    ·rw[aC (by omega),aC q2,a3,aG (by rw[hld];omega),fp]
     congr 1;omega
  ·have hbw:=(oj.1 hb).1;have hvw:=(oj.1 hvb).1;refine (aAw b off n c i vb kb q vc cs vs w ge dq hq (by omega) zr hq6 vE hbw hvw).mono ?_
   rintro r w' ⟨G',rfl,hG,za,oA,nU,rfl⟩;have hW:(w.drew.alloc (.cells za 73)).heap[w.heap.size]? =V (.cells za 73 (0,0)):=heap_alloc_new w.drew _;let ⟨c1,a1,a2,a3⟩:=mJ vs (i*2) _ za hW (by rw[lv];omega)
   let ⟨c2,b1,b2,b3⟩:=mJ (cs.drop (i*2)) ((i+q)*2) (World.drew _) c1 a1.heap (by rw[hld,a2];omega)
   refine ⟨w.heap.size,0,G',c2,rfl,hG,by omega,λt ht=> ?_,.inr ⟨rfl,rfl,?_,b1.os.trans a1.os,b1.tape.trans a1.tape,b1.output.trans a1.output⟩⟩
   ·rw[f9,cg,b3,hld];by_cases q1:t<i*2
    ·rw[aC (by omega),aG q1,a3,aC (by omega),nU t q1]
    ·rw[aC q1];by_cases q2:t<i*2+q*2
     ·rw[aC (by omega),aG q2,a3,aG (by rw[lv];omega)]
     ·rw[aG (by omega),aC q2,fp]
      congr 1;omega
   ·have hs:((w.drew.alloc (.cells za 73))).heap.size=w.heap.size+1:=by simp
    apply Array.ext_getElem?;intro k;rw[Array.getElem?_push];by_cases hk:k=w.heap.size
    ·subst hk;rw[aG rfl];exact b1.heap
    ·rw[aC hk,b1.KV k hk];refine (a1.KV k hk).trans ?_;by_cases yk:k<w.heap.size
     ·exact heap_alloc_old w.drew _ yk
     ·rw[GV (by rw[hs];omega),GV (by omega)]
end Go.Proofs.YtbnkhmoelnfjoaaGreat
namespace Go.Proofs.YtbnkhmoelnfjoaaGreat
open Go.RowKit Go.bM
variable {E:Env}
def aPd (hP:E.P=Tryz.prog) (hT:E.ty=tyT) (h:E.aoG= [(182,146),(184,147),(185,88),(165,1048576),(219,1048577)]):∀k c,Js k E.aoG=V c->Ke E k c:=λk c hc=>by
 rw[h] at hc;have hc:aT (ku 182 k) (V 146) (Js k _)=V c:=hc;rw[cE] at hc;split at hc
 ·rename_i e;obtain rfl:=(beq_iff _ _).1 e;cases hc;exact ⟨λh=>absurd h (by decide),λ_ ie hie=>⟨λ_=>by rw[hT] at hie;rw[hP,show ie.size=2 from by rw[show ie=_ from (kR (hie.symm.trans (show tyT.get 73=V _ from rfl)))];kernel_rfl];exact aBG,λh=>absurd rfl h⟩⟩
 have hc:aT (ku 184 k) (V 147) (Js k _)=V c:=hc;rw[cE] at hc;split at hc
 ·rename_i e;obtain rfl:=(beq_iff _ _).1 e;cases hc;exact ⟨λh=>absurd h (by decide),λ_ ie hie=>⟨λh=>absurd h (by decide),λ_=>by rw[hT] at hie;rw[hP,show ie.size=2 from by rw[show ie=_ from (kR (hie.symm.trans (show tyT.get 73=V _ from rfl)))];kernel_rfl];exact aAy⟩⟩
 have hc:aT (ku 185 k) (V 88) (Js k _)=V c:=hc;rw[cE] at hc;split at hc
 ·rename_i e;obtain rfl:=(beq_iff _ _).1 e;cases hc;exact ⟨λh=>absurd h (by decide),λ_ ie hie=>⟨λ_=>by rw[hT] at hie;rw[hP,show ie.size=5 from by rw[show ie=_ from (kR (hie.symm.trans (show tyT.get 44=V _ from rfl)))];kernel_rfl];exact aBF,λh=>absurd rfl h⟩⟩
 have hc:aT (ku 165 k) (V 1048576) (Js k _)=V c:=hc;rw[cE] at hc;split at hc
 ·rename_i e;obtain rfl:=(beq_iff _ _).1 e;cases hc;exact ⟨λ_=>by rw[hP];exact auR,λh=>absurd h (by decide)⟩
 have hc:aT (ku 219 k) (V 1048577) G=V c:=hc;rw[cE] at hc;split at hc
 ·rename_i e;obtain rfl:=(beq_iff _ _).1 e;cases hc;exact ⟨λ_=>by rw[hP];exact agW,λh=>absurd h (by decide)⟩
 cases hc
end Go.Proofs.YtbnkhmoelnfjoaaGreat
namespace Go.Proofs.YtbnkhmoelnfjoaaGreat
open Go.bM
variable {J f8:Type} {s:SV} {r:SV×gO} {new nx' K:Nat} {svs vs as':bc} {z:Int} {rest:P'} {e:Ex} {y:AV} {gI:cT}
def E0:Env:=⟨Tryz.prog,tyT,aBj,[],[],[],[],[],[],[]⟩
instance:Kv E0:=⟨λk fn h=>have ⟨h1,h2,_⟩:=tN.get aoI.fn k fn h;⟨h1,h2⟩⟩
def aBA (x:Int):List AV:= [.int .i64 x]
def dJ (xs:List Int):List (List AV):=xs.map aBA
def ava (xs:List Int):dJ xs=xs.map aBA:=rfl
def R3:RowsK aBA dJ:=⟨ava⟩
def agP (x:Int):List AV:= [.int .u8 x]
def AF (xs:List Int):List (List AV):=xs.map agP
def Zq (xs:List Int):AF xs=xs.map agP:=rfl
def R5:RowsK agP AF:=⟨Zq⟩
structure cA where
 aM:ByteArray
 aD:Int
def J0 (x:cA):List AV:= [.str x.aM,.int .i64 x.aD]
def eD (xs:List cA):List (List AV):=xs.map J0
def aoS (xs:List cA):eD xs=xs.map J0:=rfl
def eW:RowsK J0 eD:=⟨aoS⟩
structure bl where
 ag:(List Int)
 av:Int
def Eo (x:bl):List AV:= [.slice 3 1 x.ag.length (dJ x.ag),.int .i64 x.av]
def eo (xs:List bl):List (List AV):=xs.map Eo
def akv (xs:List bl):eo xs=xs.map Eo:=rfl
def fj:RowsK Eo eo:=⟨akv⟩
structure aS where
 aD:Int
 dh:Int
 cG:ByteArray
def gV (x:aS):List AV:= [.int .i64 x.aD,.int .i64 x.dh,.str x.cG]
def dm (xs:List aS):List (List AV):=xs.map gV
def aoY (xs:List aS):dm xs=xs.map gV:=rfl
def jm:RowsK gV dm:=⟨aoY⟩
structure bI where
 aD:Int
 dj:Int
 bj:aS
def rE (x:bI):List AV:= [.int .i64 x.aD,.int .i64 x.dj,.int .i64 x.bj.aD,.int .i64 x.bj.dh,.str x.bj.cG]
def On (xs:List bI):List (List AV):=xs.map rE
def akz (xs:List bI):On xs=xs.map rE:=rfl
def arT:RowsK rE On:=⟨akz⟩
structure aj where
 bf:Int
 fA:Int
 cO:bI
 cj:bI
 fArgs:(List aj)
mutual
def YE:aj->List AV
 |⟨bf,fA,cO,cj,fArgs⟩=> [.int .i64 bf,.int .i64 fA,.int .i64 cO.aD,.int .i64 cO.dj,.int .i64 cO.bj.aD,.int .i64 cO.bj.dh,.str cO.bj.cG,.int .i64 cj.aD,.int .i64 cj.dj,.int .i64 cj.bj.aD,.int .i64 cj.bj.dh,.str cj.bj.cG,.slice 107 13 fArgs.length (dP fArgs)]
def dP:List aj->List (List AV)
 | []=> []
 |x::xs=>YE x::dP xs
end
def fR (x:aj):List AV:= [.int .i64 x.bf,.int .i64 x.fA,.int .i64 x.cO.aD,.int .i64 x.cO.dj,.int .i64 x.cO.bj.aD,.int .i64 x.cO.bj.dh,.str x.cO.bj.cG,.int .i64 x.cj.aD,.int .i64 x.cj.dj,.int .i64 x.cj.bj.aD,.int .i64 x.cj.bj.dh,.str x.cj.bj.cG,.slice 107 13 x.fArgs.length (dP x.fArgs)]
def aqH (x:aj):YE x=fR x:=by cases x;simp[YE,fR]
def aky (xs:List aj):dP xs=xs.map fR:=by
 induction xs with
 |nil=>simp[dP]
 |cons x xs ih=>simp[dP,ih,aqH]
def eR:RowsK fR dP:=⟨aky⟩
structure ai where
 aM:ByteArray
 ag:(List cA)
 aH:Int
 ar:(List bl)
 aL:(List aj)
def jv (x:ai):List AV:= [.str x.aM,.slice 73 2 x.ag.length (eD x.ag),.int .i64 x.aH,.slice 121 2 x.ar.length (eo x.ar),.slice 107 13 x.aL.length (dP x.aL)]
def dF (xs:List ai):List (List AV):=xs.map jv
def aoW (xs:List ai):dF xs=xs.map jv:=rfl
def cm:RowsK jv dF:=⟨aoW⟩
structure ae where
 ay:Int
 ah:(List ai)
def cI (x:ae):List AV:= [.int .i64 x.ay,.slice 44 5 x.ah.length (dF x.ah)]
def Sl (xs:List ae):List (List AV):=xs.map cI
def aoZ (xs:List ae):Sl xs=xs.map cI:=rfl
def BI:RowsK cI Sl:=⟨aoZ⟩
structure iq where
 f0:aS
 f1:aS
def BC (x:iq):List AV:= [.int .i64 x.f0.aD,.int .i64 x.f0.dh,.str x.f0.cG,.int .i64 x.f1.aD,.int .i64 x.f1.dh,.str x.f1.cG]
def j1 (xs:List iq):List (List AV):=xs.map BC
def akx (xs:List iq):j1 xs=xs.map BC:=rfl
def ED:RowsK BC j1:=⟨akx⟩
def aqK (x:(List iq)):List AV:= [.slice 110 6 x.length (j1 x)]
def Hn (xs:List (List iq)):List (List AV):=xs.map aqK
def aoX (xs:List (List iq)):Hn xs=xs.map aqK:=rfl
def R39:RowsK aqK Hn:=⟨aoX⟩
structure aE where
 bf:Int
 av:Int
 aY:Int
 kr:Int
 aM:ByteArray
 aD:Int
 bj:aS
 ck:(List iq)
 bp:ai
def ny (x:aE):List AV:= [.int .i64 x.bf,.int .i64 x.av,.int .i64 x.aY,.int .i64 x.kr,.str x.aM,.int .i64 x.aD,.int .i64 x.bj.aD,.int .i64 x.bj.dh,.str x.bj.cG,.slice 110 6 x.ck.length (j1 x.ck),.str x.bp.aM,.slice 73 2 x.bp.ag.length (eD x.bp.ag),.int .i64 x.bp.aH,.slice 121 2 x.bp.ar.length (eo x.bp.ar),.slice 107 13 x.bp.aL.length (dP x.bp.aL)]
def ot (xs:List aE):List (List AV):=xs.map ny
def aoV (xs:List aE):ot xs=xs.map ny:=rfl
def H6:RowsK ny ot:=⟨aoV⟩
structure aN where
 qh:(List Int)
 Cq:Int
def fg (x:aN):List AV:= [.rY 5 1 x.qh.length (AF x.qh),.int .i64 x.Cq]
def aqI (x:(List aS)):List AV:= [.slice 38 3 x.length (dm x)]
def l9 (xs:List (List aS)):List (List AV):=xs.map aqI
def aoT (xs:List (List aS)):l9 xs=xs.map aqI:=rfl
def na:RowsK aqI l9:=⟨aoT⟩
def aqJ (x:(List (List aS))):List AV:= [.slice 70 1 x.length (l9 x)]
def re (xs:List (List (List aS))):List (List AV):=xs.map aqJ
def aoU (xs:List (List (List aS))):re xs=xs.map aqJ:=rfl
def vh:RowsK aqJ re:=⟨aoU⟩
structure aF where
 ah:(List (List (List aS)))
def rD (x:aF):List AV:= [.slice 68 1 x.ah.length (re x.ah)]
structure cy where
 bf:Int
 av:Int
 aH:(List aS)
 ag:(List Int)
 xb:(List aS)
def oC (x:cy):List AV:= [.int .i64 x.bf,.int .i64 x.av,.slice 38 3 x.aH.length (dm x.aH),.slice 3 1 x.ag.length (dJ x.ag),.slice 38 3 x.xb.length (dm x.xb)]
def sF (xs:List cy):List (List AV):=xs.map oC
def akw (xs:List cy):sF xs=xs.map oC:=rfl
def MY:RowsK oC sF:=⟨akw⟩
structure cr where
 av:Int
 dY:(List aS)
 eH:(List aS)
def px (x:cr):List AV:= [.int .i64 x.av,.slice 38 3 x.dY.length (dm x.dY),.slice 38 3 x.eH.length (dm x.eH)]
def lj (xs:List cr):List (List AV):=xs.map px
def akt (xs:List cr):lj xs=xs.map px:=rfl
def lR:RowsK px lj:=⟨akt⟩
structure eE where
 Ak:(List ae)
 BA:(List aE)
def qk (x:eE):List AV:= [.rY 25 2 x.Ak.length (Sl x.Ak),.rY 46 15 x.BA.length (ot x.BA)]
structure dL where
 gM:Int
 fP:Int
 dI:Bool
 fO:aS
 cR:(List (List iq))
def HU (x:dL):List AV:= [.int .i64 x.gM,.int .i64 x.fP,.bool x.dI,.int .i64 x.fO.aD,.int .i64 x.fO.dh,.str x.fO.cG,.slice 39 1 x.cR.length (Hn x.cR)]
def uC (xs:List dL):List (List AV):=xs.map HU
def aku (xs:List dL):uC xs=xs.map HU:=rfl
def ahr:RowsK HU uC:=⟨aku⟩
def agQ (x:Nat):List AV:= [(aQJ x)]
def Om (xs:List Nat):List (List AV):=xs.map agQ
def aks (xs:List Nat):Om xs=xs.map agQ:=rfl
def MX:RowsK agQ Om:=⟨aks⟩
structure aJ where
 bW:ae
 fm:aE
def En (x:aJ):List AV:= [.int .i64 x.bW.ay,.slice 44 5 x.bW.ah.length (dF x.bW.ah),.int .i64 x.fm.bf,.int .i64 x.fm.av,.int .i64 x.fm.aY,.int .i64 x.fm.kr,.str x.fm.aM,.int .i64 x.fm.aD,.int .i64 x.fm.bj.aD,.int .i64 x.fm.bj.dh,.str x.fm.bj.cG,.slice 110 6 x.fm.ck.length (j1 x.fm.ck),.str x.fm.bp.aM,.slice 73 2 x.fm.bp.ag.length (eD x.fm.bp.ag),.int .i64 x.fm.bp.aH,.slice 121 2 x.fm.bp.ar.length (eo x.fm.bp.ar),.slice 107 13 x.fm.bp.aL.length (dP x.fm.bp.aL)]
structure mo where
 l3:(List Int)
 nV:(List Int)
def MD (x:mo):List AV:= [.slice 3 1 x.l3.length (dJ x.l3),.slice 3 1 x.nV.length (dJ x.nV)]
def Tm (x:(List dL)):List AV:= [.slice 140 7 x.length (uC x)]
structure GL where
 f0:(List aS)
 f1:(List aS)
def axK (x:GL):List AV:= [.slice 38 3 x.f0.length (dm x.f0),.slice 38 3 x.f1.length (dm x.f1)]
structure lF where
 f0:bI
 f1:bI
def Tl (x:lF):List AV:= [.int .i64 x.f0.aD,.int .i64 x.f0.dj,.int .i64 x.f0.bj.aD,.int .i64 x.f0.bj.dh,.str x.f0.bj.cG,.int .i64 x.f1.aD,.int .i64 x.f1.dj,.int .i64 x.f1.bj.aD,.int .i64 x.f1.bj.dh,.str x.f1.bj.cG]
abbrev aP:=List Int
abbrev gf:=List iq
abbrev kJ:=List dL
abbrev bw:=List ai
abbrev bt:=List aS
abbrev qH:=List cy
abbrev bu:=List cr
abbrev fU:=List ae
abbrev cY:=List cA
abbrev vf:=List bI
abbrev bX:=List aE
abbrev bL:=List bl
abbrev br:=List aj
abbrev sW:=List (List iq)
abbrev bK:=List (List aS)
abbrev cJ:=List (List (List aS))
abbrev Wf0:=aP->Z aP
abbrev Wf1:=U->aN->Z (U×aN)
abbrev Wf2:=U->Int->aN->Z (U×aN)
abbrev Wf3:=aP->Int->aN->bI->vf->Z (bI×aN)
abbrev Wf4:=Int->aN->bI->vf->Z (bI×aN)
abbrev Wf5:=aN->aj->aj->br->Z (aj×aN)
abbrev Wf6:=Int->Z Int
abbrev Wf7:=Int->Int->cY->Int->cA->cA->Int->Bool->ai->Z Bool
abbrev Wf8:=bL->Int->Int->Int->bw->Int->aP->Int->bw->Int->ai->ai->Int->ae->ai->bl->Z Bool
abbrev Wf9:=bL->Int->Int->ae->ai->Z Bool
abbrev MV:=ae->Z Int
abbrev YO:=bw->Int->Int->ae->Z Int
abbrev YN:=Int->Int->ae->Z Int
abbrev Wf13:=ai->ai->cY->bL->Z ai
abbrev aCd:=aP->Int->Int->Z aP
abbrev arQ:=aP->aj->Z aP
abbrev arP:=Int->bL->Int->Int->ai->Z Bool
abbrev arO:=Int->br->Int->Int->Z Bool
abbrev arN:=aj->aj->br->Z aj
abbrev ahp:=Int->Int->Int->Int->cY->br->ai->ai->bL->Z (ai×cY×bL×br)
abbrev Wf20:=Int->Int->cY->br->ai->ai->bL->Z (ai×cY×bL×br)
abbrev Wf21:=cY->br->ai->ai->bL->Z (ai×cY×bL×br)
abbrev Wf22:=gf->Int->Int->Int->gf->Int->Int->Int->Int->gf->Int->Int->iq->Z Bool
abbrev Wf23:=gf->Int->Int->Int->gf->Int->Int->Int->Int->iq->Z Bool
abbrev Wf24:=gf->Int->gf->Int->Int->Z Bool
abbrev Wf25:=ae->aE->ae->ae->bw->Z (ae×Bool)
abbrev Wf26:=Nat->aE->ae->ae->cY->bw->Z (ae×Bool)
abbrev Wf27:=ae->ae->bw->Z (ae×Bool)
abbrev Wf28:=Int->Int->ae->aE->ae->ae->ai->cY->br->bw->bw->ai->Nat->Nat->bL->Z (ae×Bool)
abbrev aCc:=Int->Int->ae->aE->ae->ae->bw->bw->Nat->Z (ae×Bool)
abbrev Wf30:=ae->ae->bw->bw->Nat->Z (ae×Bool)
abbrev YM:=Int->aN->ae->bX->Z (bX×aN)
abbrev Wf32:=aN->bX->Z (bX×aN)
abbrev Wf33:=bw->Int->Int->bL->Int->Int->Int->bw->Int->ae->ai->bl->Z Bool
abbrev Wf34:=bw->Int->Int->bL->Int->Int->ae->ai->Z Bool
abbrev arM:=bw->Int->Int->ae->Z Bool
abbrev Wf36:=br->Int->Int->mo->Z Bool
abbrev aCb:=Int->bt->Int->Int->ai->Z Bool
abbrev arL:=bt->bt->Z Int
abbrev arK:=Int->cJ->Int->Int->ae->Z Int
abbrev Wf40:=aJ->aj->aj->br->Z aj
abbrev Wf41:=ai->ai->ai->cY->bL->Z ai
abbrev Wf42:=ai->ai->cY->br->bL->Z ai
abbrev Wf43:=ae->ae->bw->Z ae
abbrev Wf44:=lF->Int->aP->aj->Z (aP×aP)
abbrev Wf45:=aP->aj->Z (aP×aP)
abbrev Wf46:=lF->Int->aP->aj->Z aP
abbrev arJ:=Nat->Int->Int->aJ->bw->ai->bL->Z aJ
abbrev MU:=Int->Int->aJ->bw->Z (Bool×aJ)
abbrev arI:=aJ->bw->Z (Bool×aJ)
abbrev arH:=Int->Int->Int->bK->Z bK
abbrev Wf51:=Int->gf->Int->Int->aS->aS->Z aS
abbrev YL:=aS->aS->Z aS
abbrev aCa:=bX->Int->Int->dL->dL->sW->Z dL
abbrev Wf54:=dL->dL->sW->Z dL
abbrev Wf55:=bt->kJ->Int->Int->bt->Z bt
abbrev arG:=Int->Int->aF->aF->eE->aF->cJ->Z (aF×Int)
abbrev Wf57:=aF->aF->cJ->Z (aF×Int)
abbrev Wf58:=cy->cy->cy->aP->bt->bt->Z (cy×Bool)
abbrev aBZ:=Int->Int->aP->Int->Int->aN->bt->Z (bt×aN)
abbrev Wf60:=Int->bt->bt->Bool->bK->Int->Int->cJ->ae->aF->aF->bK->Z (aF×cJ)
abbrev Wf61:=Int->bt->Bool->cJ->aF->aF->bK->Z (aF×cJ)
abbrev arF:=Int->Int->Int->aN->ae->aF->aF->cJ->Z (aF×aN)
abbrev Wf63:=aN->aF->aF->cJ->Z (aF×aN)
abbrev Wf64:=cJ->Int->Int->aF->aF->bK->cJ->Z aF
abbrev Wf65:=cJ->Int->Int->aF->aF->cJ->Z aF
abbrev Wf66:=aF->aF->cJ->Z aF
abbrev aBY:=Int->Int->aN->ae->aF->aF->bu->cJ->Z (bu×aF×aN)
abbrev Wf68:=aN->aF->aF->bu->cJ->Z (bu×aF×aN)
abbrev Wf69:=Int->GL->Int->ae->cr->Z Bool
abbrev Wf70:=ae->Int->Z (Int×ae×Int)
abbrev Rn:=Int->Int->Int->bu->ae->Z (bu×ae)
abbrev Wf72:=Int->Int->Int->Int->bu->ae->Z (bu×ae)
abbrev arE:=Int->Int->bu->ae->Z (bu×ae)
abbrev aBX:=Int->Int->bu->ae->bu->cr->cr->Z (bu×Int)
abbrev Wf75:=Int->Int->bu->ae->bu->Z (bu×Int)
abbrev arD:=Int->Int->eE->bu->bu->Z (bu×Int)
abbrev Wf77:=bX->Int->Int->bu->bu->ae->fU->aF->aF->Z Bool
def bg (x:aJ) (a1:AV):List AV:= [.int .i64 x.bW.ay,a1,.int .i64 x.fm.bf,.int .i64 x.fm.av,.int .i64 x.fm.aY,.int .i64 x.fm.kr,.str x.fm.aM,.int .i64 x.fm.aD,.int .i64 x.fm.bj.aD,.int .i64 x.fm.bj.dh,.str x.fm.bj.cG,.slice 110 6 x.fm.ck.length (j1 x.fm.ck),.str x.fm.bp.aM,.slice 73 2 x.fm.bp.ag.length (eD x.fm.bp.ag),.int .i64 x.fm.bp.aH,.slice 121 2 x.fm.bp.ar.length (eo x.fm.bp.ar),.slice 107 13 x.fm.bp.aL.length (dP x.fm.bp.aL)]
def bV (x:ai):List AV:= [.str x.aM,.undef,.int .i64 x.aH,.slice 121 2 x.ar.length (eo x.ar),.slice 107 13 x.aL.length (dP x.aL)]
def eJ (x:ai):List AV:= [.str x.aM,.undef,.int .i64 x.aH,.undef,.slice 107 13 x.aL.length (dP x.aL)]
def fa (x:aj) (a12:AV):List AV:= [.int .i64 x.bf,.int .i64 x.fA,.int .i64 x.cO.aD,.int .i64 x.cO.dj,.int .i64 x.cO.bj.aD,.int .i64 x.cO.bj.dh,.str x.cO.bj.cG,.int .i64 x.cj.aD,.int .i64 x.cj.dj,.int .i64 x.cj.bj.aD,.int .i64 x.cj.bj.dh,.str x.cj.bj.cG,a12]
def cN (x:ai):List AV:= [.str x.aM,.undef,.int .i64 x.aH,.undef,.undef]
def ni (x:ai):List AV:= [.str x.aM,.slice 73 2 x.ag.length (eD x.ag),.int .i64 x.aH,.slice 121 2 x.ar.length (eo x.ar),.undef]
def oq (x:dL) (a6:AV):List AV:= [.int .i64 x.gM,.int .i64 x.fP,.bool x.dI,.int .i64 x.fO.aD,.int .i64 x.fO.dh,.str x.fO.cG,a6]
def Bb (x:ai):List AV:= [.str x.aM,.slice 73 2 x.ag.length (eD x.ag),.int .i64 x.aH,.undef,.slice 107 13 x.aL.length (dP x.aL)]
def ta (x:ai):List AV:= [.str x.aM,.slice 73 2 x.ag.length (eD x.ag),.int .i64 x.aH,.undef,.undef]
def eK (x:ai) (a1 a3 a4:AV):List AV:= [.str x.aM,a1,.int .i64 x.aH,a3,a4]
def zl (x:aE) (a2 a3 a4 a5 a6 a7 a8 FV a12:AV):List AV:= [.int .i64 x.bf,.int .i64 x.av,a2,a3,a4,a5,a6,a7,a8,.slice 110 6 x.ck.length (j1 x.ck),FV,.slice 73 2 x.bp.ag.length (eD x.bp.ag),a12,.slice 121 2 x.bp.ar.length (eo x.bp.ar),.slice 107 13 x.bp.aL.length (dP x.bp.aL)]
def kE (x:cy) (a2 a3 a4:AV):List AV:= [.int .i64 x.bf,.int .i64 x.av,a2,a3,a4]
def Zd (x:ai) (a1:AV):List AV:= [.str x.aM,a1,.int .i64 x.aH,.slice 121 2 x.ar.length (eo x.ar),.slice 107 13 x.aL.length (dP x.aL)]
def xR (x:ai) (a4:AV):List AV:= [.str x.aM,.undef,.int .i64 x.aH,.undef,a4]
def xT (x:ai) (a1:AV):List AV:= [.str x.aM,a1,.int .i64 x.aH,.undef,.undef]
def xS (x:ai) (a3 a4:AV):List AV:= [.str x.aM,.undef,.int .i64 x.aH,a3,a4]
def xU (x:ai) (a1 a3:AV):List AV:= [.str x.aM,a1,.int .i64 x.aH,a3,.undef]
noncomputable section
def oa:List Sh:= [.d,.o I [.d,.d],.d,.o I [.o I [.d],.d],.o I [.d,.d,.d,.d,.d,.d,.d,.d,.d,.d,.d,.d,.d]]
def bH (a:Int):AV:= .int .i64 a
def q2_:Bx:= .flat 107 [.int .i64 0,.int .i64 0,.int .i64 0,.int .i64 0,.int .i64 0,.int .i64 0,.str A',.int .i64 0,.int .i64 0,.int .i64 0,.int .i64 0,.str A',.cq]
def sH (a:ae) (b c:Nat):Bx:= .flat 25 [.int .i64 a.ay,.ms b 5 0 c]
def q4_ (a:ae):AV:= .int .i64 a.ay
def Ci (a:bL):Bx:= .tree 121 2 [.o I [.d],.d] (eo a) []
def q6_ (a:List AV) (b:Nat) (c:aJ):List (Nat×Bx):= [(0,.flat 184 a),(b,.tree 44 5 oa (dF c.bW.ah) [])]
def Hw (a:bu) (b:Nat) (c:List AV):List (Nat×Bx):= [(0,.rows I 156 3 (lj a)),(b,.flat 25 c)]
def zn (a:bw):Bx:= .tree 44 5 oa (dF a) []
def iU (a:List AV):Bx:= .flat 25 a
def wF (a:aP):Bx:= .rows I 3 1 (dJ a)
def xy (a:cY):Bx:= .rows I 73 2 (eD a)
def xx (a:cJ):Bx:= .rows I 68 1 (re a)
def Aa (a:bu):Bx:= .rows M 156 3 (lj a)
def BW (a:bt):Bx:= .rows M 38 3 (dm a)
def xw (a:bK):Bx:= .rows M 70 1 (l9 a)
def Gt (a:List (List AV)) (b c d e f g h i j:Nat):Bx:= .tree 44 5 oa a [(b,.ms c 13 0 d),(e,.ms f 2 0 g),(h,.ms i 2 0 j)]
def mD (a:List AV):Bx:= .flat 97 a
def gP (a:List AV):Bx:= .flat 44 a
def DO (a:br):Bx:= .rows I 107 13 (dP a)
def lK (a:List AV):Bx:= .flat 184 a
def q21_ (a:Nat) (b:ai) (c d:Nat):List (Nat×Bx):= [(a,.rows I 73 2 (eD b.ag)),(c,.tree 121 2 [.o I [.d],.d] (eo b.ar) []),(d,.rows I 107 13 (dP b.aL))]
def DN (a:bX):Bx:= .rows I 46 15 (ot a)
def vt:Bx:= .flat 51 [.cq]
def Jq (a:bK):Bx:= .rows I 70 1 (l9 a)
def Gs (a:br):Bx:= .rows M 107 13 (dP a)
def kM (a:List AV):Bx:= .flat 107 a
def qa (a:Int):List AV:= [.undef,bH a]
def apk (a b:Nat) (c:ai) (d e f g:Nat):List (Nat×AV):= [(a,.ms b 2 0 c.ag.length),(d,.ms e 2 0 c.ar.length),(f,.ms g 13 0 c.aL.length)]
def LH (a:fU):Bx:= .rows I 25 2 (Sl a)
def z6 (a:ae):Bx:= .flat 25 [q4_ a,.cq]
def DM (a b:Nat):Bx:= .flat 51 [.ms a 1 0 b]
def Gr (a:Nat):AV:= .fn 90 [] [.loc a 0]
def LG (a:aP):Bx:= .rows M 3 1 (dJ a)
def q34_ (a:List AV) (b:aJ):List AV:= [.kh a,.int .i64 b.fm.aY]
def apj (a b:List AV) (c:vf):List (Nat×Bx):= [(0,mD a),(8,.flat 105 b),(29,.rows M 105 5 (On c))]
def afd:Bx:= .flat 25 [.int .i64 0,.cq]
def tv (a b:Nat):AV:= .ms a 1 0 b
def Gq (a b:List AV):List (Nat×AV):= [(0,.agg a),(1,.agg b)]
def afc:Bx:= .flat 182 [.loc 9000 0]
def Yb (a:ae) (b:Nat):Bx:= .flat 25 [q4_ a,.ms 32 5 0 b]
def Gn (a:Int):Bx:= .flat 3 [bH a]
def sG (a:List AV):List (Nat×Bx):= [(0,mD a)]
def Ya:List Sh:= [.o I [.d],.d]
def uH (a:List AV):Bx:= .flat 46 a
def api:List (Nat×AV):= [(2,.loc 2 0),(3,.loc 3 0)]
def aph (a:bu):Bx:= .rows I 156 3 (lj a)
def azY (a b:List AV) (c:sW):List (Nat×Bx):= [(6,.flat 140 a),(7,.flat 140 b),(44,.rows M 39 1 (Hn c))]
def X9 (a:List (List AV)) (b c d:Nat):Bx:= .tree 44 5 oa a [(b,.ms c 2 0 d)]
def azX (a:cJ):Bx:= .tree 68 1 [.o I [.d]] (re a) []
def apg:AV:= .fn 198 [] [.loc 1 0]
def xv (a:List AV):Bx:= .flat 38 a
def apf:Bx:= .flat 182 [.loc 0 0]
def ape (a:cY):Bx:= .rows M 73 2 (eD a)
def apd (a:cJ):Bx:= .rows M 68 1 (re a)
def X8:AV:= .fn 67 [] []
def azW (a:aF):Bx:= .rows I 68 1 (re a.ah)
def Jp (a:Nat):AV:= .ms 32 1 0 a
def LF:AV:= .loc 12 0
end
abbrev pE:Nat:=100001
abbrev lT:Nat:=100003
abbrev pD:Nat:=100004
abbrev ju:Nat:=1000611
abbrev mu:Nat:=1000613
abbrev mr:Nat:=1000614
abbrev eQ:Nat:=100100
abbrev AK:Nat:=100101
abbrev rn:Nat:=100200
abbrev yL:Nat:=100300
abbrev gE:Nat:=1120986464256
abbrev fu:Nat:=1138166333440
abbrev kF:Nat:=1146756268032
abbrev DZ:Nat:=1152921504607355976
abbrev DY:Nat:=12885001891
abbrev pt:Nat:=145698175582208
abbrev bA:Nat:=200000
abbrev ub:Nat:=201001
abbrev qe:Nat:=330200000
abbrev jg:Nat:=4294967296
abbrev vB:Nat:=520031
abbrev sL:Nat:=520033
abbrev bZ:Nat:=520061
abbrev pr:Nat:=600601
abbrev bD:Nat:=8589934592
def ey {J:Type} {xs zs:List J} {j:Nat} {x:J} (h:setAt xs j x=V zs):=(l8 h).symm
abbrev SE:=Sc E0
def bC {J:Type} (_:J):List (Nat×Bx):= []
def dk {E:Env} (a b:Sc E):Sc E:=a++b
def vD {E:Env} {ro:Bool} {f:Nat} {bs ds:List (Nat×Bx)} {xs:List AV} {y:AV} (h:kL ro E f bs xs y ds):It E:=.call h [] []
def aB {a b:Bool} (h:a=b):Nat×It E0:=(0,eb h)
def aV {a b:Bool} (h:a=b):Nat×It E0:=(1,eb h)
def aQ {a b:Bool} (h:a=b):Nat×It E0:=(2,eb h)
def aZ {a b:Bool} (h:a=b):Nat×It E0:=(3,eb h)
def bk {a b:Bool} (h:a=b):Nat×It E0:=(4,eb h)
def bP {a b:Bool} (h:a=b):Nat×It E0:=(5,eb h)
def dg {a b:Bool} (h:a=b):Nat×It E0:=(6,eb h)
def iO {a b:Bool} (h:a=b):Nat×It E0:=(7,eb h)
def iG {a b:Bool} (h:a=b):Nat×It E0:=(8,eb h)
def Tn {a b:Bool} (h:a=b):Nat×It E0:=(9,eb h)
def iX {ro:Bool} {f:Nat} {bs ds:List (Nat×Bx)} {xs:List AV} {y:AV} (h:kL ro E0 f bs xs y ds):Nat×It E0:=(0,vD h)
def sf {ro:Bool} {f:Nat} {bs ds:List (Nat×Bx)} {xs:List AV} {y:AV} (h:kL ro E0 f bs xs y ds):Nat×It E0:=(1,vD h)
def im {ro:Bool} {f:Nat} {bs ds:List (Nat×Bx)} {xs:List AV} {y:AV} (h:kL ro E0 f bs xs y ds):Nat×It E0:=(2,vD h)
def j3 {ro:Bool} {f:Nat} {bs ds:List (Nat×Bx)} {xs:List AV} {y:AV} (h:kL ro E0 f bs xs y ds):Nat×It E0:=(3,vD h)
def j2 {ro:Bool} {f:Nat} {bs ds:List (Nat×Bx)} {xs:List AV} {y:AV} (h:kL ro E0 f bs xs y ds):Nat×It E0:=(4,vD h)
def mw {ro:Bool} {f:Nat} {bs ds:List (Nat×Bx)} {xs:List AV} {y:AV} (h:kL ro E0 f bs xs y ds):Nat×It E0:=(5,vD h)
def AM {ro:Bool} {f:Nat} {bs ds:List (Nat×Bx)} {xs:List AV} {y:AV} (h:kL ro E0 f bs xs y ds):Nat×It E0:=(6,vD h)
def yM {ro:Bool} {f:Nat} {bs ds:List (Nat×Bx)} {xs:List AV} {y:AV} (h:kL ro E0 f bs xs y ds):Nat×It E0:=(7,vD h)
def aPC {ro:Bool} {f:Nat} {bs ds:List (Nat×Bx)} {xs:List AV} {y:AV} (h:kL ro E0 f bs xs y ds):Nat×It E0:=(8,vD h)
abbrev om:aS:=aS.mk 0 0 A'
abbrev zTO:bI:=bI.mk 0 0 om
abbrev rV:aj:=aj.mk 0 0 zTO zTO []
def aX (k:Nat):Nat×AV:=(k,.loc k 0)
def y6:Nat->List AV->List AV
 |0,l=>l
 |n+1,l=>.bool M::y6 n l
def iI (n:Int):AV:=.int .i64 n
def bnG_:Nat->Nat->List Nat->List Nat
 |0,_,l=>l
 |k+1,n,l=>cond (kQ n 1) l (bnG_ k (n/2) (n%2::l))
def aI (n:Nat):List Nat:=bnG_ 64 n []
def aJK (r:(List Int)):AV:=.dr []
def aHB (r:(List Int)):List (Nat×Bx):= [(0,.rows I 3 1 (dJ r))]
def C165:=Cx E0 165 aJK aHB
def aGZ (Ct:(List Int)):LS:=⟨[(0,.ms 0 1 0 Ct.length)],[(0,.rows I 3 1 (dJ Ct))]⟩
def aJJ (r:((List cA)×(List cA))):AV:=.ms 0 2 0 r.2.length
def aHA (r:((List cA)×(List cA))):List (Nat×Bx):= [(0,.rows I 73 2 (eD r.2))]
def C182:=Cx E0 182 aJJ aHA
def aGW (Ct:(List cA)) (a1_:Int) (a2_:Int):LS:=⟨[(0,.ms 0 2 0 Ct.length),(1,.int .i64 a1_),(2,.int .i64 a2_)],[(0,.rows I 73 2 (eD Ct))]⟩
def aJI (r:((List cA)×(List cA))):AV:=.ms 4294967296 2 0 r.2.length
def aHz (r:((List cA)×(List cA))):List (Nat×Bx):= [(4294967296,.rows I 73 2 (eD r.2))]
def C184:=CxS E0 184 [2] aJI aHz
def aGV (Ct:(List cA)) (a1_:Int) (a2_:(List cA)):LS:=⟨[(0,.ms 4294967296 2 0 Ct.length),(1,.int .i64 a1_),(2,.ms 2 2 0 a2_.length)],[(2,.rows I 73 2 (eD a2_)),(4294967296,.rows I 73 2 (eD Ct))]⟩
def aJH (r:((List ai)×(List ai))):AV:=.ms 0 5 0 r.2.length
def aHy (r:((List ai)×(List ai))):List (Nat×Bx):= [(0,.tree 44 5 [.d,.o I [.d,.d],.d,.o I [.o I [.d],.d],.o I [.d,.d,.d,.d,.d,.d,.d,.d,.d,.d,.d,.d,.d]] (dF r.2) [])]
def C185:=Cx E0 185 aJH aHy
def aGU (Ct:(List ai)) (a1_:Int) (a2_:Int):LS:=⟨[(0,.ms 0 5 0 Ct.length),(1,.int .i64 a1_),(2,.int .i64 a2_)],[(0,.tree 44 5 [.d,.o I [.d,.d],.d,.o I [.o I [.d],.d],.o I [.d,.d,.d,.d,.d,.d,.d,.d,.d,.d,.d,.d,.d]] (dF Ct) [])]⟩
def aeV (r:Int):AV:=.int .i64 r
def aHx (r:Int):List (Nat×Bx):= []
def C203:=Cx E0 203 aeV aHx
def aGS (Ct:U) (a1_:U):LS:=⟨[(0,.str Ct),(1,.str a1_)],[]⟩
def aJG (r:((List Int)×(List Int))):AV:=.ms 0 1 0 r.2.length
def aHw (r:((List Int)×(List Int))):List (Nat×Bx):= [(0,.rows I 3 1 (dJ r.2))]
def C219:=Cx E0 219 aJG aHw
def aGQ (Ct:(List Int)):LS:=⟨[(0,.ms 0 1 0 Ct.length)],[(0,.rows I 3 1 (dJ Ct))]⟩
def asi (_n:Nat) (a b:U):Z Int:=V (aa2 a.data.toList b.data.toList)
def pk0:∀k c,Js k [(182,146),(184,147),(185,88),(165,1048576),(219,1048577)]=V c->Ke E0 k c:=aPd (E:=⟨Tryz.prog,tyT,aBj,[],[],[],[],[(182,146),(184,147),(185,88),(165,1048576),(219,1048577)],[],[]⟩) rfl rfl rfl
def aPW (n:Nat):KK C203 aGS (asi n):=λa b r h=>by
 have e:=kR h;subst e;show iy E0 203 [] [.str a,.str b] (aeV (aa2 a.data.toList b.data.toList)) [];rw[show aeV (aa2 a.data.toList b.data.toList)= .int .i64 (MN a b) from bF (AV.int .i64) (ZK a b)];have hz:Hx Tryz.f203=I:=by kernel_rfl
 obtain ⟨_,_,h3⟩:=tN.get aoI.fn 203 Tryz.f203 (by kernel_rfl)
 rcases h3 with h3|⟨h1,h2⟩
 ·exact absurd (show Hx Tryz.f203=M from h3) (by rw[hz];exact G7)
 exact iy.cmp (fn:=Tryz.f203) Tryz.func203 (by kernel_rfl) (by kernel_rfl) h1 h2
def YG {J:Type} (s:List J) (i j:Int):Z (List J×List J):=if 0<=i/\i<j/\j<=s.length then V (s.take i.toNat++s.drop j.toNat,s.take i.toNat++s.drop j.toNat) else G
def afY {J:Type} (s:List J) (i:Int) (v:List J):Z (List J×List J):=if 0<=i/\i<=s.length/\0<s.length/\0<v.length/\s.length<=1000000/\v.length<=1000000 then V (s.take i.toNat++v++s.drop i.toNat,s.take i.toNat++v++s.drop i.toNat) else G
def ZJ {s:List J} {i j:Int} {r:List J×List J} (h:YG s i j=V r):∃a b:Nat,i=a/\j=b/\a<b/\b<=s.length/\r=(s.take a++s.drop b,s.take a++s.drop b)/\(s.take a++s.drop b).length=s.length-(b-a):=by
 unfold YG at h;split at h
 ·rename_i c;refine ⟨i.toNat,j.toNat,by omega,by omega,by omega,by omega,(kR h).symm,?_⟩
  simp;omega
 ·cases h
def axy {s v:List J} {i:Int} {r:List J×List J} (h:afY s i v=V r):∃a:Nat,i=a/\a<=s.length/\0<s.length/\0<v.length/\s.length<=1000000/\v.length<=1000000/\r=(s.take a++v++s.drop a,s.take a++v++s.drop a)/\(s.take a++v++s.drop a).length=s.length+v.length:=by
 unfold afY at h;split at h
 ·rename_i c;refine ⟨i.toNat,by omega,by omega,by omega,by omega,by omega,by omega,(kR h).symm,?_⟩
  simp;omega
 ·cases h
def ain (_n:Nat) (xs:List Int):Z (List Int):=if xs.length<=4294967295 then V (eX xs) else G
def aQf (n:Nat):KK C165 aGZ (ain n):=λxs r h=>by
 unfold ain at h;split at h
 ·rename_i c;cases h;exact iy.ints (E:=E0) (k:=165) (c:=1048576) (z:=M) (e:=3) (xs:=xs) (pk0 165 1048576 (by kernel_rfl)) (by kernel_rfl) (by kernel_rfl) rfl c
 ·cases h
def aib (_n:Nat) (xs:List Int):Z (List Int×List Int):=if xs.length<=4294967295 then V (lP xs,lP xs) else G
def aPS (n:Nat):KK C219 aGQ (aib n):=λxs r h=>by
 unfold aib at h;split at h
 ·rename_i c;cases h;exact iy.ints (E:=E0) (k:=219) (c:=1048577) (z:=I) (e:=3) (xs:=xs) (pk0 219 1048577 (by kernel_rfl)) (by kernel_rfl) (by kernel_rfl) rfl c
 ·cases h
def aih (_n:Nat) (s:List cA) (i j:Int):Z (List cA×List cA):=YG s i j
def aEQ (n:Nat):KK C182 aGW (aih n):=λs i j r h=>by
 obtain ⟨a,b,rfl,rfl,h1,h2,rfl,hl⟩:=ZJ h;have key:=iy.del (E:=E0) (k:=182) (c:=146) (sz:=2) (e:=73) (l:= []) (n:=s.length) (Q:=eD s) (pk0 182 146 (by kernel_rfl)) (h9:=by kernel_rfl) (h0:=by kernel_rfl) (h1:=by kernel_rfl) (hie:=rfl) (hs:=by kernel_rfl) (hn:=eW.len s) h1 h2
 rw[<-hl] at key;have e:(eD s).take a++(eD s).drop b=eD (s.take a++s.drop b):=by simp[eD,vm,A9]
 rw[e] at key;exact key
def aCr (_n:Nat) (s:List ai) (i j:Int):Z (List ai×List ai):=YG s i j
def aQc (n:Nat):KK C185 aGU (aCr n):=λs i j r h=>by
 obtain ⟨a,b,rfl,rfl,h1,h2,rfl,hl⟩:=ZJ h;have key:=iy.del (E:=E0) (k:=185) (c:=88) (sz:=5) (e:=44) (n:=s.length) (Q:=dF s) (l:= [.d,.o I [.d,.d],.d,.o I [.o I [.d],.d],.o I [.d,.d,.d,.d,.d,.d,.d,.d,.d,.d,.d,.d,.d]]) (pk0 185 88 (by kernel_rfl)) (h9:=by kernel_rfl) (h0:=by kernel_rfl) (h1:=by kernel_rfl) (hie:=rfl) (hs:=by kernel_rfl) (hn:=cm.len s) h1 h2
 rw[<-hl] at key;have e:(dF s).take a++(dF s).drop b=dF (s.take a++s.drop b):=by simp[dF,vm,A9]
 rw[e] at key;exact key
def aCs (_n:Nat) (s:List cA) (i:Int) (v:List cA):Z (List cA×List cA):=afY s i v
def aQd (n:Nat):KK C184 aGV (aCs n):=λs i v r h=>by
 obtain ⟨a,rfl,h1,h2,h3,h4,h5,rfl,hl⟩:=axy h;have key:=iy.ins (E:=E0) (k:=184) (c:=147) (sz:=2) (e:=73) (e2:=73) (z:=I) (n:=s.length) (q:=v.length) (Q:=eD s) (ex:=eD v) (pk0 184 147 (by kernel_rfl)) (h9:=by kernel_rfl) (h0:=by kernel_rfl) (h1:=by kernel_rfl) (hie:=rfl) (hs:=by kernel_rfl) (hn:=eW.len s) (hq:=eW.len v) h1 h2 h3 h4 h5
 rw[<-hl] at key;have e:(eD s).take a++eD v++(eD s).drop a=eD (s.take a++v++s.drop a):=by simp[eD,vm,A9]
 rw[e] at key;exact key
section
def qq (ops:eP) (i:Nat) (d:cD) (op:Op):Prop:=∃o,ops[i]? =V o/\o.dst=d/\o.op=op/\o.guard=G
section
variable {E:Env} {nt:Nat} {m m':MS} {ops:eP} {i:Nat} {d:cD} {op:Op} {v:SV} {us:gO}
def qq.go (h:qq ops i d op) (hd:mX nt d=M) (ho:vu E op m.T m.H new=V (v,us)) (hH:m.H new=G) (h1:m.nx<=new) (h2:us≠ []->new<nx') (h3:m.nx<=nx') (k:lG E nt ops (i+1) ⟨eG m.T d v,gY m.H us,nx'⟩ m'):lG E nt ops i m m':=by
 obtain ⟨o,a1,rfl,rfl,a4⟩:=h;exact lG.cons a1 (qA.op a1 (by unfold j0;rw[a4]) hd ho hH h3) (λx hx=>by have hx:x=new:=hx;omega) (λx hx=>by
  obtain ⟨hx,hu⟩:=(show x=new/\us≠ [] from hx);have:=h2 hu;exact ⟨by omega,by show x<nx';omega⟩) k
def qq.go0 (h:qq ops i d op) (hd:mX nt d=M) (ho:vu E op m.T m.H m.nx=V (v,[])) (hH:m.H m.nx=G) (k:lG E nt ops (i+1) ⟨eG m.T d v,m.H,m.nx⟩ m'):lG E nt ops i m m':=
 h.go hd ho hH (de _) (λh=>absurd rfl h) (de _) k
def yf (h:ops.size=i):lG E nt ops i m m:=h ▸ lG.nil
def ZB:∀{es:ig} {e:SV×SV×Nat},e∈es->(es.map (·.2.2)).Nodup->FA e.2.2 es=V (.dr [e.1,e.2.1])
 | [],_,h,_=>by cases h
 |x::es,e,h,nd=>by
  rw[jX,pj] at nd;unfold FA;rw[cE];rcases da.1 h with rfl|h
  ·rw[aG ((beq_iff _ _).2 rfl)]
  ·rw[aC λhb=>nd.1 (by rw[(beq_iff _ _).1 hb];exact GX h)]
   exact ZB h nd.2
def SZ:∀(l:bJ) (b:Nat),OD (l++ [b])=V b
 | [],_=>rfl
 | [_],_=>rfl
 |_::y::l,b=>SZ (y::l) b
def Zu:∀{l:ig} {e:SV×SV×Nat},e∈l->(l.map (·.2.2)).Nodup->l.Perm (e::l.filter λx=>iL (x.2.2≠e.2.2))
 | [],_,h,_=>by cases h
 |x::l,e,h,nd=>by
  rw[jX,pj] at nd;rcases da.1 h with rfl|h
  ·rw[jc,aC (by simp)]
   refine .cons _ (.of_eq (yy.2 λy hy=> ?_).symm)
   simp only[jA];exact λe=>nd.1 (e ▸ GX hy)
  ·rw[jc,aG (by simp only[jA];exact λe2=>nd.1 (e2 ▸ GX h))]
   exact ((Zu h nd.2).cons x).trans (.swap _ _ _)
def apE (seen:bJ) (b:Nat) (es:ig):qw (seen++ [b]) es=(qw seen es).filter λx=>iL (x.2.2≠b):=by
 unfold qw;rw[List.filter_filter];refine RT λx _=> ?_
 rw[nJ];simp only[acM,bG,jA,<-acL,LP,eV,gL];exact ⟨λh=>⟨λe=>h (.inr e),λe=>h (.inl e)⟩,λh e=>e.elim h.2 h.1⟩
end
def DW (c:P'):eP:=match c with| .region _ o _=>o|_=> #[]
def Rg (b:Nat):Nat->SV
 |0=>.cq
 |k+1=>.sl (b+2*(k+1)) 0 (k+1) (.u 3)
def Tq (T:Tf) (c it:fV):Tf:=λx=>if x=14 then c else if x=86 then it else if x=15\/(84<x/\x<97) then G else T x
def Hq (H:Hf) (b:Nat) (it:Z SO) (k:Nat) (svs:bc):Hf:=λx=>if x=b then it else if x=b+2*k/\0<k then V (.cells 3 svs) else if b<=x then G else H x
section
variable (T:Tf) (H:Hf) (b jf cl:Nat)
def mq (gm:ig):MS:=⟨Tq T (V (Rg b gm.length)) (V (.ptr b 0)),Hq H b (V (.mapIter (V jf) cl (gm.map (·.2.2)) cl)) gm.length (gm.map (·.1)),b+2*gm.length+1⟩
end
variable {T T' T2:Tf} {H H':Hf} {b jf cl k n:Nat} {gm ms:ig} {c it:fV} {x v:SV} {xs:bc}
def aoF (h14:T2 14=c) (h86:it≠G->T2 86=it) (h:∀x,x≠14->x≠86->x≠15->(x<=84\/97<=x)->T2 x=T x):∀x v,Tq T c it x=V v->T2 x=V v:=λx v hv=>by
 unfold Tq at hv;split at hv
 ·rename_i e;rw[e,h14];exact hv
 split at hv
 ·rename_i e;rw[e,h86 (by rw[hv];simp)];exact hv
 split at hv
 ·cases hv
 ·rename_i e1 e2 e3;rw[h x e1 e2 (by omega) (by omega)];exact hv
def aEz (hb:∀x,b<=x->H x=G) {it:Z SO}:∀x,b+2*k+1<=x->Hq H b it k svs x=G:=λx hx=>by
 unfold Hq;rw[aC (by omega),aC (by omega),aG (by omega)]
def aDo:Op:=.call {callee:=.builtin .append,args:= #[.tmp 91,.tmp 93],argTypes:= #[102,102]}
def i102:TI:=(tyT.get 102).getD default
def i3:TI:=(tyT.get 3).getD default
def aBh:E0.ty.get 102=V i102:=by kernel_rfl
def g3:E0.ty.get 3=V i3:=by kernel_rfl
def s102:po i102.desc=V 3:=by kernel_rfl
def r102:Jk i102.desc=M:=by kernel_rfl
def e3:nN i3=M:=by kernel_rfl
def z3:i3.size=1:=by kernel_rfl
def z0:i3.zero= [.int .i64 (.lit 0)]:=by kernel_rfl
def aOv {n1:Nat} (h1:T' 91=V s) (h2:T' 93=V (.sl n1 0 1 (.k 1))) (h3:H' n1=V (.cells 3 [x])) (h4:si s H' new 3 1 1 [x]=V r):vu E0 aDo T' H' new=V r:=by
 show az (gA T' [.tmp 91,.tmp 93]) (λl=>pM E0 H' new .append l [102,102])=_
 rw[show gA T' [.tmp 91,.tmp 93]=V [s,.sl n1 0 1 (.k 1)] from by show cC (T' 91) (cC (T' 93) (V []) λv l=>V (v::l)) (λv l=>V (v::l))=_;rw[h1,h2];rfl]
 show az (E0.ty.get 102) (λi=>aT (Jk i.desc) (pZ E0 H' new 102 s (.sl n1 0 1 (.k 1))) G)=_
 rw[gb aBh,r102];show az (E0.ty.get 102) (λi=>az (po i.desc) λe=>OW E0 H' new e s (.sl n1 0 1 (.k 1)))=_
 rw[gb aBh,gb s102];show az (E0.ty.get 3) (λie=>aT (nN ie) (az (oK H' ie.size (.sl n1 0 1 (.k 1))) λq=>aT (kQ q.1 1000000) (aT (ku q.1 0) (aT (L6 s) (V (s,[])) G) (si s H' new 3 ie.size q.1 q.2)) G) G)=_
 rw[gb g3,e3,z3];have e:oK H' 1 (.sl n1 0 1 (.k 1))=V (1,[x]):=by
  show cC (V 1) (az (jD (H' n1) 0 (B' 1 1)) λp=>aT (kQ (wW 0 (B' 1 1)) p.2.length) (V ((p.2.drop 0).take (B' 1 1))) G) (λn xs=>V (n,xs))=_
  rw[h3];rfl
 show az (oK H' 1 (.sl n1 0 1 (.k 1))) (λq=>aT (kQ q.1 1000000) (aT (ku q.1 0) (aT (L6 s) (V (s,[])) G) (si s H' new 3 1 q.1 q.2)) G)=_
 rw[gb e];exact h4
def aIu (hk:k<=1000000) (hl:xs.length=k) (h:0<k->H' (b+2*k)=V (.cells 3 xs)):si (Rg b k) H' new 3 1 1 [x]=V (.sl new 0 (k+1) (.u 3),(if k=0 then [] else [(b+2*k,G)])++ [(new,V (.cells 3 (xs++ [x])))]):=by
 cases k with
 |zero=>rw[vk.1 hl];rfl
 |succ k=>
  have h:=h (Nat.succ_pos k);show aT (kQ (k+1) 1000000) (cC (mh (H' (b+2*(k+1)))) (mj H' (b+2*(k+1)) 0 (B' (k+1) 1)) λp old=>aT (kQ (wW 0 (B' (k+1) 1)) p.2.length&&ku 3 p.1) (CD new 3 (wW (k+1) 1) (old++ [x]) [(b+2*(k+1),G)]) G) G=_
  have hb:kQ (wW 0 (B' (k+1) 1)) xs.length=M:=(bR _ _).2 (by show 0+(k+1)*1<=_;omega)
  have e:mj H' (b+2*(k+1)) 0 (B' (k+1) 1)=V xs:=by
   show az (jD (H' (b+2*(k+1))) 0 (B' (k+1) 1)) (λp=>aT (kQ (wW 0 (B' (k+1) 1)) p.2.length) (V ((p.2.drop 0).take (B' (k+1) 1))) G)=_
   rw[h];show aT (kQ (wW 0 (B' (k+1) 1)) xs.length) (V ((xs.drop 0).take (B' (k+1) 1))) G=_;rw[hb,ph,jz (by show _<=(k+1)*1;omega)]
  rw[(bR _ _).2 hk,e,h];show aT (kQ (wW 0 (B' (k+1) 1)) xs.length&&ku 3 3) _ G=_;rw[hb];rfl
def axY (h:T' 92=V (.int .i64 (.lit z))):vu E0 (.buildSlice 102 1 #[(0,.tmp 92)]) T' H' new=V (.sl new 0 1 (.k 1),[(new,V (.cells 3 [.int .i64 (.lit z)]))]):=by
 show az (az (T' 92) λv=>cC v.cells (V []) λcs l=>V ((0,cs)::l)) (λjo=>qb E0 new 102 1 jo)=_
 rw[h];show qb E0 new 102 1 [(0,[.int .i64 (.lit z)])]=_;unfold qb;rw[gb aBh,gb s102,gb g3,e3,z3,z0];rfl
def HX:P':=Tryz.f74.body.getD .skip
def Ch:bJ:=V' 9 1
def rg (p:bJ):eP:=DW (rJ HX (p++Ch))
def apy:P':=.seq (.region 25 (rg [0,0,0,1,0,1]) I) (.seq (.cond (.tmp 88) .skip (.exit 2)) (.block 3 (.seq (.region 26 (rg [0,0,1,1,0,0,1,0,1]) I) (.region 27 (rg [1,0,1,1,0,0,1,0,1]) I))))
def aKk:rJ HX Ch= .seq (.region 23 (rg [0]) I) (.seq (.seq (.region 24 (rg [0,0,1]) I) (.block 2 (.loop apy))) (.seq (.region 28 (rg [0,1,1]) I) (rJ HX ([1,1,1]++Ch)))):=by kernel_rfl
def aPs:qq (rg [0]) 0 (V 14) (.assign (.const (.slice G 0 0))):=⟨(rg [0])[0]!,by kernel_rfl,by kernel_rfl,by kernel_rfl,by kernel_rfl⟩
def aPr:qq (rg [0,0,1]) 0 (V 85) (.move (.tmp 9)):=⟨(rg [0,0,1])[0]!,by kernel_rfl,by kernel_rfl,by kernel_rfl,by kernel_rfl⟩
def aPq:qq (rg [0,0,1]) 1 (V 86) (.range 210 (.tmp 85)):=⟨(rg [0,0,1])[1]!,by kernel_rfl,by kernel_rfl,by kernel_rfl,by kernel_rfl⟩
def aPp:qq (rg [0,0,0,1,0,1]) 0 (V 87) (.next (.tmp 86) I):=⟨(rg [0,0,0,1,0,1])[0]!,by kernel_rfl,by kernel_rfl,by kernel_rfl,by kernel_rfl⟩
def aDp:qq (rg [0,0,0,1,0,1]) 1 (V 88) (.extract (.tmp 87) 0):=⟨(rg [0,0,0,1,0,1])[1]!,by kernel_rfl,by kernel_rfl,by kernel_rfl,by kernel_rfl⟩
def aPo:qq (rg [0,0,1,1,0,0,1,0,1]) 0 (V 89) (.entry (.tmp 86)):=⟨(rg [0,0,1,1,0,0,1,0,1])[0]!,by kernel_rfl,by kernel_rfl,by kernel_rfl,by kernel_rfl⟩
def aPn:qq (rg [0,0,1,1,0,0,1,0,1]) 1 (V 90) (.extract (.tmp 89) 0):=⟨(rg [0,0,1,1,0,0,1,0,1])[1]!,by kernel_rfl,by kernel_rfl,by kernel_rfl,by kernel_rfl⟩
def aPm:qq (rg [0,0,1,1,0,0,1,0,1]) 2 (V 15) (.assign (.tmp 90)):=⟨(rg [0,0,1,1,0,0,1,0,1])[2]!,by kernel_rfl,by kernel_rfl,by kernel_rfl,by kernel_rfl⟩
def aPl:qq (rg [1,0,1,1,0,0,1,0,1]) 0 (V 91) (.move (.tmp 14)):=⟨(rg [1,0,1,1,0,0,1,0,1])[0]!,by kernel_rfl,by kernel_rfl,by kernel_rfl,by kernel_rfl⟩
def aPk:qq (rg [1,0,1,1,0,0,1,0,1]) 1 (V 92) (.move (.tmp 15)):=⟨(rg [1,0,1,1,0,0,1,0,1])[1]!,by kernel_rfl,by kernel_rfl,by kernel_rfl,by kernel_rfl⟩
def aPj:qq (rg [1,0,1,1,0,0,1,0,1]) 2 (V 93) (.buildSlice 102 1 #[(0,.tmp 92)]):=⟨(rg [1,0,1,1,0,0,1,0,1])[2]!,by kernel_rfl,by kernel_rfl,by kernel_rfl,by kernel_rfl⟩
def aPi:qq (rg [1,0,1,1,0,0,1,0,1]) 3 (V 94) aDo:=⟨(rg [1,0,1,1,0,0,1,0,1])[3]!,by kernel_rfl,by kernel_rfl,by kernel_rfl,by kernel_rfl⟩
def aPh:qq (rg [1,0,1,1,0,0,1,0,1]) 4 (V 14) (.assign (.tmp 94)):=⟨(rg [1,0,1,1,0,0,1,0,1])[4]!,by kernel_rfl,by kernel_rfl,by kernel_rfl,by kernel_rfl⟩
abbrev wE:Nat:=Tryz.f74.ntmps
section
variable {i:Nat} {o:cD} {m m':MS} {ops:eP} {d:Nat}
def qq.mv {x:Nat} (h:qq ops i (V d) (.move (.tmp x))) (hd:mX wE (V d)=M) (hv:m.T x=V v) (hH:m.H m.nx=G) (k:lG E0 wE ops (i+1) ⟨eG m.T (V d) v,m.H,m.nx⟩ m'):lG E0 wE ops i m m':=
 h.go0 hd (show az (m.T x) (λv=>V (v,[]))=_ by rw[hv];rfl) hH k
def qq.asg {x:Nat} (h:qq ops i (V d) (.assign (.tmp x))) (hd:mX wE (V d)=M) (hv:m.T x=V v) (hH:m.H m.nx=G) (k:lG E0 wE ops (i+1) ⟨eG m.T (V d) v,m.H,m.nx⟩ m'):lG E0 wE ops i m m':=
 h.go0 hd (show az (m.T x) (λv=>V (v,[]))=_ by rw[hv];rfl) hH k
def qq.ext {x:Nat} (h:qq ops i (V d) (.extract (.tmp x) 0)) (hd:mX wE (V d)=M) (hv:m.T x=V (.dr (v::vs))) (hH:m.H m.nx=G) (k:lG E0 wE ops (i+1) ⟨eG m.T (V d) v,m.H,m.nx⟩ m'):lG E0 wE ops i m m':=
 h.go0 hd (show az (m.T x) (λv=>az (RW v) λvs=>same (vs[0]?))=_ by rw[hv];rfl) hH k
def qq.yS {x iid:Nat} (h:qq ops i (V d) (.entry (.tmp x))) (hd:mX wE (V d)=M) (hx:m.T x=V (.ptr iid 0)) (hv:MC m.H iid=V v) (k:lG E0 wE ops (i+1) ⟨eG m.T (V d) v,m.H,m.nx⟩ m'):lG E0 wE ops i m m':=by
 obtain ⟨o,a1,a2,a3,a4⟩:=h;rw[<-a2] at hd k;exact qA.entry a1 a3 (by unfold j0;rw[a4]) hd hx hv k
end
def ll {T:Tf} {d x:Nat} (h:d≠x):eG T (V d) v x=T x:=by unfold eG;rw[aC (λe=>h (kR e))]
def avX (agt:jf<b) (hm:H jf=V (.map ms cl)) (hw:Au ms cl) (AN:∀e∈ms,∃z:Int,e.1= .int .i64 (.lit z)) (hb:∀x,b<=x->H x=G) (hl:gm.length<=1000000):
  mC E0 wE apy (mq T H b jf cl gm) λe m'=>(e= .normal/\∃x∈qw (gm.map (·.2.2)) ms,m'=mq T H b jf cl (gm++ [x]))\/(e= .exit 2/\qw (gm.map (·.2.2)) ms= []/\m'=mq T H b jf cl gm):=by
 let m0:=mq T H b jf cl gm;let mA:=λx:SV×SV×Nat=>(⟨eG (eG m0.T (V 87) (.dr [.bool M,x.1,x.2.1])) (V 88) (.bool M),jn m0.H (b,V (.mapIter (V jf) cl (gm.map (·.2.2)++ [x.2.2]) cl)),m0.nx⟩:MS)
 let mB:MS:=⟨eG (eG m0.T (V 87) (.dr [.bool I])) (V 88) (.bool I),m0.H,m0.nx⟩;have nn:∀x,m0.nx<=x->m0.H x=G:=aEz hb;have Mo:∀{o:Z SO} x,m0.nx<=x->jn m0.H (b,o) x=G:=λ{o} x hx=>by
  show (if x=b then o else m0.H x)=G
  rw[aC (by have:b+2*gm.length+1<=x:=hx;omega)]
  exact nn x hx
 have h86:m0.T 86=V (.ptr b 0):=rfl;have ji:m0.H b=V (.mapIter (V jf) cl (gm.map (·.2.2)) cl):=aG rfl
 have hmm:m0.H jf=V (.map ms cl):=by
  show Hq H b _ _ _ jf=_;unfold Hq;rw[aC (by omega),aC (by omega),aC (by omega)]
  exact hm
 have hit:iterM cl (gm.map (·.2.2)) cl cl ms=M:=by
  unfold iterM;rw[bG];exact ⟨jJ.2 λe he=>(bR _ _).2 (hw.1 _ (GX he)),(bR _ _).2 (de _)⟩
 obtain ⟨o,p1,p2,p3,p4⟩:=aPp;refine mC.seq (P1:=λe m1=>e= .normal/\((∃x∈qw (gm.map (·.2.2)) ms,m1=mA x)\/(qw (gm.map (·.2.2)) ms= []/\m1=mB))) (mC.next p1 p3 (by unfold j0;rw[p4]) (by rw[p2];kernel_rfl) h86 ji hmm hit (λhn=>⟨mB,?_,rfl,.inr ⟨hn,rfl⟩⟩) λx hx=>⟨mA x,?_,rfl,.inl ⟨x,hx,rfl⟩⟩) λe m1 ⟨he,h⟩=>.inl ⟨he,?_⟩
 ·rw[p2];exact aDp.ext (by kernel_rfl) (v:=.bool I) (vs:= []) rfl (nn _ (de _)) (yf (by kernel_rfl))
 ·rw[p2];exact aDp.ext (by kernel_rfl) (v:=.bool M) (vs:= [x.1,x.2.1]) rfl (Mo _ (de _)) (yf (by kernel_rfl))
 rcases h with ⟨x,hx,rfl⟩|⟨hn,rfl⟩
 ·have hxm:x∈ms:=(nI.1 hx).1;obtain ⟨z,hz⟩:=AN x hxm;have aAW:MC (mA x).H b=V (.dr [x.1,x.2.1]):=by
   unfold MC;rw[show (mA x).H b=V (.mapIter (V jf) cl (gm.map (·.2.2)++ [x.2.2]) cl) from aG rfl]
   show (match (mA x).H jf with
    |some (.map es c)=>aT (ku c cl) (az (OD ((gm.map λ(y:SV×SV×Nat)=>y.2.2)++ [x.2.2])) λb=>FA b es) G
    |_=>G)=_
   rw[show (mA x).H jf=V (.map ms cl) from (aC (show ¬jf=b by omega)).trans hmm]
   show aT (ku cl cl) (az (OD ((gm.map λ(y:SV×SV×Nat)=>y.2.2)++ [x.2.2])) λb=>FA b ms) G=_
   rw[(beq_iff _ _).2 rfl,SZ];exact ZB hxm hw.2
  let n0:=m0.nx;let m1:MS:=⟨eG (eG (eG (mA x).T (V 89) (.dr [x.1,x.2.1])) (V 90) x.1) (V 15) x.1,(mA x).H,n0⟩;let T2:=eG (eG m1.T (V 91) (Rg b gm.length)) (V 92) x.1;let H2:=gY (mA x).H [(n0,V (.cells 3 [x.1]))];let us:gO:=(if gm.length=0 then [] else [(b+2*gm.length,G)])++ [(n0+1,V (.cells 3 (gm.map (·.1)++ [x.1])))]
  let c':SV:=.sl (n0+1) 0 (gm.length+1) (.u 3);let m2:MS:=⟨eG (eG (eG T2 (V 93) (.sl n0 0 1 (.k 1))) (V 94) c') (V 14) c',gY H2 us,n0+2⟩;have h26:lG E0 wE (rg [0,0,1,1,0,0,1,0,1]) 0 (mA x) m1:=
   aPo.yS (by kernel_rfl) (iid:=b) rfl aAW<|
   aPn.ext (by kernel_rfl) (v:=x.1) (vs:= [x.2.1]) rfl (Mo _ (de _))<|
   aPm.asg (by kernel_rfl) (v:=x.1) rfl (Mo _ (de _)) (yf (by kernel_rfl))
  have oc:∀y,gY H2 us y=if y=n0+1 then V (.cells 3 (gm.map (·.1)++ [x.1])) else if 0<gm.length/\y=b+2*gm.length then G else H2 y:=λy=>by
   show gY H2 ((if gm.length=0 then [] else [(b+2*gm.length,G)])++ [(n0+1,V (.cells 3 (gm.map (·.1)++ [x.1])))]) y=_
   by_cases h0:gm.length=0
   ·rw[aG h0];show (if y=n0+1 then _ else H2 y)=_
    split
    ·rfl
    ·rw[aC (by omega)]
   ·rw[aC h0];show (if y=n0+1 then _ else if y=b+2*gm.length then G else H2 y)=_
    split
    ·rfl
    ·by_cases h1:y=b+2*gm.length
     ·rw[aG h1,aG ⟨by omega,h1⟩]
     ·rw[aC h1,aC (by omega)]
  have hH2:H2 (n0+1)=G:=by
   show (if n0+1=n0 then _ else (mA x).H (n0+1))=G
   rw[aC (by omega)]
   exact Mo _ (sm _)
  have h27:lG E0 wE (rg [1,0,1,1,0,0,1,0,1]) 0 m1 m2:=by
   refine aPl.mv (by kernel_rfl) (v:=Rg b gm.length) rfl (Mo _ (de _))<|
    aPk.mv (by kernel_rfl) (v:=x.1) rfl (Mo _ (de _)) ?_
   have hbs:vu E0 (.buildSlice 102 1 #[(0,.tmp 92)]) T2 (mA x).H n0=V (.sl n0 0 1 (.k 1),[(n0,V (.cells 3 [x.1]))]):=by
    rw[hz];exact axY (by rw[<-hz];rfl)
   refine aPj.go (by kernel_rfl) (new:=n0) (nx':=n0+1) hbs (Mo _ (de _)) (de _) (λ_=>Lg _) (sm _) ?_
   refine aPi.go (by kernel_rfl) (new:=n0+1) (nx':=n0+2) (v:=c') (us:=us) (aOv (s:=Rg b gm.length) (n1:=n0) (x:=x.1) rfl rfl (aG rfl) (aIu hl (by simp) λh0=> ?_)) hH2 (de _) (λ_=>Lg _) (sm _) ?_
   ·show (if b+2*gm.length=n0 then _ else (if b+2*gm.length=b then _ else Hq H b _ _ _ (b+2*gm.length)))=_
    rw[aC (by show ¬_=b+2*gm.length+1;omega),aC (by omega)]
    unfold Hq;rw[aC (by omega),aG ⟨rfl,h0⟩]
   ·exact aPh.asg (by kernel_rfl) (v:=c') rfl (by
     show gY H2 us (n0+1+1)=G;rw[oc,aC (by omega),aC (by show ¬(_/\b+2*gm.length+1+1+1=_);omega)]
     show (if n0+1+1=n0 then _ else (mA x).H (n0+1+1))=G
     rw[aC (by omega)]
     exact Mo _ (by omega)) (yf (by kernel_rfl))
  have GB:c'=Rg b (gm++ [x]).length:=by
   rw[gy];show SV.sl (b+2*gm.length+1+1) 0 (gm.length+1) (.u 3)=SV.sl (b+2*(gm.length+1)) 0 (gm.length+1) (.u 3);rw[show b+2*gm.length+1+1=b+2*(gm.length+1) by omega]
  refine .of (m1:=m2) (m2:=mq T H b jf cl (gm++ [x])) (gj.seq (gj.cond (b:=M) (m:=mA x) rfl .skip) (gj.block (id:=3) (e:=.normal) (gj.seq (gj.region h26) (gj.region h27)))) ⟨aoF ?_ (λ_=>rfl) λy h1 h2 h3 h4=> ?_,λy o ho=> ?_,?_⟩ (.inl ⟨rfl,x,hx,rfl⟩)
  ·rw[<-GB];rfl
  ·show eG _ _ _ y=_;rw[ll (by omega),ll (by omega),ll (by omega)]
   show eG _ _ _ y=_;rw[ll (by omega),ll (by omega)]
   show eG _ _ _ y=_;rw[ll (by omega),ll (by omega),ll (by omega)]
   show eG _ _ _ y=_;rw[ll (by omega),ll (by omega)]
   show Tq _ _ _ y=_;unfold Tq;rw[aC h1,aC h2,aC (by omega)]
  ·have ho:Hq H b (V (.mapIter (V jf) cl ((gm++ [x]).map (·.2.2)) cl)) (gm++ [x]).length ((gm++ [x]).map (·.1)) y=V o:=ho
   show gY H2 us y=V o;have hn0:n0=b+2*gm.length+1:=rfl;unfold Hq at ho;rw[gy,List.length_singleton] at ho;rw[oc];split at ho
   ·rename_i e;rw[aC (by omega),aC (by omega)]
    show (if y=n0 then _ else jn m0.H _ y)=_
    rw[aC (by omega),<-ho,e,ka]
    exact aG rfl
   ·split at ho
    ·rename_i e1 e2;rw[aG (by omega),<-ho,ka];rfl
    ·split at ho
     ·cases ho
     ·rename_i e1 e2 e3;rw[aC (by omega),aC (by omega)]
      show (if y=n0 then _ else jn m0.H _ y)=_
      rw[aC (by omega)]
      show (if y=b then _ else Hq H b _ _ _ y)=_
      rw[aC e1];unfold Hq;rw[aC e1,aC (by omega),aC e3]
      exact ho
  ·show b+2*(gm++ [x]).length+1=b+2*gm.length+1+2;simp;omega
 ·refine .of (m1:=mB) (m2:=mq T H b jf cl gm) (gj.auX rfl (gj.cond (b:=I) (m:=mB) rfl .exit)) ⟨?_,λx o h=>h,rfl⟩ (.inr ⟨rfl,hn,rfl⟩)
  intro y v hv;have:y≠87/\y≠88:=by
   constructor<;>(rintro rfl;cases hv)
  show eG (eG _ _ _) _ _ y=_;rw[ll (wO this.2),ll (wO this.1)];exact hv
end
section
variable {T T' T2:Tf} {H H':Hf} {b jf cl k n:Nat} {gm ms:ig} {zs:List Int}
def afG (agt:jf<b) (hm:H jf=V (.map ms cl)) (hw:Au ms cl) (AN:∀e∈ms,∃z:Int,e.1= .int .i64 (.lit z)) (hb:∀x,b<=x->H x=G) (hl:ms.length<=1000000):∀(n:Nat) (gm:ig),(qw (gm.map (·.2.2)) ms).length<n->ms.Perm (gm++qw (gm.map (·.2.2)) ms)->
  mC E0 wE (.loop apy) (mq T H b jf cl gm) λe m'=>e= .exit 2/\∃v:ig,ms.Perm v/\m'=mq T H b jf cl v
 |0,gm,hn,_=>by omega
 |n+1,gm,hn,hp=>by
  have hvl:gm.length<=1000000:=by have:=hp.length_eq;rw[gy] at this;omega
  refine mC.loop (avX agt hm hw AN hb hvl) λe m1 h=> ?_
  rcases h with ⟨rfl,x,hx,rfl⟩|⟨rfl,h0,rfl⟩
  ·have e:qw ((gm++ [x]).map (·.2.2)) ms=(qw (gm.map (·.2.2)) ms).filter λy=>iL (y.2.2≠x.2.2):=by
    rw[ka];exact apE _ _ _
   have nd:((qw (gm.map (·.2.2)) ms).map (·.2.2)).Nodup:=(List.Sublist.map _ List.filter_sublist).nodup hw.2
   have hpk:=Zu hx nd;rw[<-e] at hpk;have dq:=hpk.length_eq;rw[iu] at dq;refine .inl ⟨rfl,afG agt hm hw AN hb hl n (gm++ [x]) (by omega) ?_⟩
   rw[j8];exact hp.trans (hpk.append_left gm)
  ·refine .inr ⟨rfl,rfl,gm,?_,rfl⟩;rw[h0,r4] at hp;exact hp
def qq.call {m m':MS} {ops:eP} {i nt:Nat} {d:cD} {c:Call} {fv v:SV} (h:qq ops i d (.call c)) (hd:mX nt d=M) (hc:Ao m.T c.callee=V fv) (has:gA m.T c.args.toList=V as') (hs:qW E0 I fv as' m.H m.nx v H' nx') (hb:∀x,m.nx<=x->m.H x=G) (hn:m.nx<=nx') (k:lG E0 nt ops (i+1) ⟨eG m.T d v,H',nx'⟩ m'):lG E0 nt ops i m m':=by
 obtain ⟨o,a1,rfl,a3,a4⟩:=h;exact lG.cons a1 (qA.aFz (H2:=H') a1 (by unfold j0;rw[a4]) hd a3 hc has hs (λ_ _ h=>h) hb hn (λ_ _=>rfl) (λ_ h=>h)) (λx hx=>hx) (λx hx=>hx) k
def Dj:P':=Tryz.f124.body.getD .skip
def c124:Tryz.f124.body=V (.region 0 (DW Dj) I):=by kernel_rfl
def q0:qq (DW Dj) 0 (V 2) (.move (.tmp 0)):=⟨(DW Dj)[0]!,by kernel_rfl,by kernel_rfl,by kernel_rfl,by kernel_rfl⟩
def q1:qq (DW Dj) 1 (V 3) (.call {callee:=.value (.func 165),args:= #[.tmp 2],argTypes:= #[102]}):=⟨(DW Dj)[1]!,by kernel_rfl,by kernel_rfl,by kernel_rfl,by kernel_rfl⟩
def aJC {id nx:Nat} {c:Cp} (hz:0<zs.length) (hl:zs.length<=4294967295) (h:H id=V (.cells 3 (fq zs))):qW E0 I (.fn (.func 165) [] []) [.sl id 0 zs.length c] H nx (.dr []) (jn H (id,V (.cells 3 (fq (eX zs))))) (nx+1):=by
 have hlen:(fq zs).length=zs.length:=by simp[fq]
 have ho:xk E0 1048576 H nx [.sl id 0 zs.length c]=V (.dr [],[(id,V (.cells 3 ((fq zs).take 0++(fq (eX zs)++(fq zs).drop (wW 0 zs.length)))))]):=by
  show aT (ku zs.length 0) _ (az (mh (H id)) _)=_;rw[h,show ku zs.length 0=I from acK.2 λh=>by have:=(beq_iff _ _).1 h;omega]
  show az (JC (((fq zs).drop 0).take zs.length)) _=_;rw[ph,jz (by omega),JB]
  show aT (kQ 1 zs.length&&(kQ (wW 0 zs.length) (fq zs).length&&kQ zs.length 4294967295)) _ G=_;rw[py hz,py hl,py (show wW 0 zs.length<=(fq zs).length by show 0+_<=_;omega)]
  rfl
 have e:(fq zs).take 0++(fq (eX zs)++(fq zs).drop (wW 0 zs.length))=fq (eX zs):=by
  rw[yx,jy,p7 (by show _<=0+_;omega),r4]
 rw[e] at ho;exact DP (pk0 165 1048576 (by kernel_rfl)) ho
def aJD {id nx:Nat} {c:Cp} (hz:0<zs.length) (hl:zs.length<=4294967295) (h:H id=V (.cells 3 (fq zs))) (hb:∀x,nx<=x->H x=G):qW E0 I (.fn (.func 124) [] []) [.sl id 0 zs.length c] H nx (.dr []) (jn H (id,V (.cells 3 (fq (eX zs))))) (nx+1):=by
 have ji:id<nx:=yw λhx=>by rw[hb _ hx] at h;cases h
 have hr:gj E0 Tryz.f124.ntmps (.region 0 (DW Dj) I) ⟨(setArgs ([]++ [.sl id 0 zs.length c]++ []) 0 .nil).get,H,nx⟩ .normal ⟨eG (eG (setArgs ([]++ [.sl id 0 zs.length c]++ []) 0 .nil).get (V 2) (.sl id 0 zs.length c)) (V 3) (.dr []),jn H (id,V (.cells 3 (fq (eX zs)))),nx+1⟩:=
  .region (q0.go0 (by kernel_rfl) (show az ((setArgs ([]++ [.sl id 0 zs.length c]++ []) 0 .nil).get 0) (λv=>V (v,[]))=_ from rfl) (hb _ (de _)) (q1.call (by kernel_rfl) rfl rfl (aJC hz hl h) hb (sm _) (yf (by kernel_rfl))))
 exact gj.sem (fi:= []) (ca:= []) (vs:= []) (fn:=Tryz.f124) (by kernel_rfl) c124 (by kernel_rfl) (wN (by kernel_rfl)) rfl hr (by kernel_rfl)
def aPg:qq (rg [0,1,1]) 0 (V 95) (.move (.tmp 14)):=⟨(rg [0,1,1])[0]!,by kernel_rfl,by kernel_rfl,by kernel_rfl,by kernel_rfl⟩
def aPf:qq (rg [0,1,1]) 1 (V 96) (.call {callee:=.value (.func 124),args:= #[.tmp 95],argTypes:= #[102]}):=⟨(rg [0,1,1])[1]!,by kernel_rfl,by kernel_rfl,by kernel_rfl,by kernel_rfl⟩
def i210:TI:=(tyT.get 210).getD default
def g210:E0.ty.get 210=V i210:=by kernel_rfl
def aPb (v:SV) (H:Hf):Hu i210.desc v H=avn v H:=by kernel_rfl
def mz (T:Tf) (H:Hf) (b:Nat) (zs:List Int):MS:=⟨Tq T (V (.sl (b+2*zs.length) 0 zs.length (.u 3))) G,Hq H b G zs.length (fq (eX zs)),b+2*zs.length+2⟩
def azD:∀{l:ig} {zs:List Int},l.map (·.1)=fq zs->∀{v},l.Perm v->∃ys:List Int,v.map (·.1)=fq ys/\zs.Perm ys:=λ{l zs} h v hp=>by
 refine ⟨v.map λe=>(LY e.1).getD 0,?_,?_⟩
 ·have hk:∀e∈v,e.1= .int .i64 (.lit ((LY e.1).getD 0)):=λe he=>by
   have:e.1∈fq zs:=h ▸ GX (hp.mem_iff.2 he);obtain ⟨z,_,hz⟩:=dM.1 this;rw[<-hz];rfl
  unfold fq;rw[tS];exact vj λe he=>hk e he
 ·have e:zs=l.map λe=>(LY e.1).getD 0:=by
   have:=bF (List.map λv=>(LY v).getD 0) h
   rw[tS] at this;refine (this.trans ?_).symm;unfold fq;rw[tS];exact (vj λz _=>rfl).trans (List.map_id _)
  rw[e];exact hp.map _
def akq {xs ys:List Int} (h:xs.Perm ys):eX xs=eX ys:=BU (yC xs) (yC ys) (((wg xs).trans h).trans (wg ys).symm)
def apm {m':MS} (h9:T 9=V (.mp jf)) (hm:H jf=V (.map ms cl)) (hw:Au ms cl) (AN:ms.map (·.1)=fq zs) (hz:0<zs.length) (hl:zs.length<=1000000) (hb:∀x,b<=x->H x=G) (hr:gj E0 wE rest (mz T H b zs) e m'):
  gj E0 wE (.seq (.region 23 (rg [0]) I) (.seq (.seq (.region 24 (rg [0,0,1]) I) (.block 2 (.loop apy))) (.seq (.region 28 (rg [0,1,1]) I) rest))) ⟨T,H,b⟩ e m':=by
 have agt:jf<b:=yw λhx=>by rw[hb _ hx] at hm;cases hm
 have hml:ms.length=zs.length:=by have:=bF aa9 AN;simpa[fq] using this
 have Bw:∀e∈ms,∃z:Int,e.1= .int .i64 (.lit z):=λe he=>by
  have:e.1∈fq zs:=AN ▸ GX he;obtain ⟨z,_,hz⟩:=dM.1 this;exact ⟨z,hz.symm⟩
 let m1:MS:=⟨eG T (V 14) .cq,H,b⟩;have h23:gj E0 wE (.region 23 (rg [0]) I) ⟨T,H,b⟩ .normal m1:=.region (aPs.go0 (by kernel_rfl) (v:=.cq) rfl (hb _ (de _)) (yf (by kernel_rfl)))
 let it:SO:=.mapIter (V jf) cl [] cl;let m2:MS:=⟨eG (eG m1.T (V 85) (.mp jf)) (V 86) (.ptr b 0),gY H [(b,V it)],b+1⟩;have h24:gj E0 wE (.region 24 (rg [0,0,1]) I) m1 .normal m2:=by
  refine .region (aPr.mv (by kernel_rfl) (v:=.mp jf) h9 (hb _ (de _)) ?_)
  refine aPq.go (by kernel_rfl) (new:=b) (nx':=b+1) (v:=.ptr b 0) (us:= [(b,V it)]) ?_ (hb _ (de _)) (de _) (λ_=>Lg _) (sm _) (yf (by kernel_rfl))
  show az (E0.ty.get 210) (λi=>az (Hu i.desc (.mp jf) H) λo=>V (SV.ptr b 0,[(b,V o)]))=_
  rw[gb g210,aPb];show az (az (kN (H jf)) λp=>V (SO.mapIter (V jf) p.2 [] p.2)) (λo=>V (SV.ptr b 0,[(b,V o)]))=_
  rw[hm];rfl
 have hq0:(mq T H b jf cl []).Le m2:=by
  refine ⟨aoF rfl (λ_=>rfl) λy h1 h2 h3 h4=> ?_,λy o ho=> ?_,rfl⟩
  ·show eG _ _ _ y=_;rw[ll (by omega),ll (by omega)]
   show eG _ _ _ y=_;rw[ll (by omega)]
  ·have ho:Hq H b (V it) 0 [] y=V o:=ho;show (if y=b then V it else H y)=V o
   unfold Hq at ho;split at ho
   ·rename_i e1;rw[aG e1];exact ho
   ·rename_i e1;rw[aC e1];rw[aC (by omega)] at ho
    split at ho
    ·cases ho
    ·exact ho
 refine h23.seq (mC.toT (mC.seq (P1:=λe m'=>e= .normal/\∃v:ig,ms.Perm v/\m'=mq T H b jf cl v) (mC.seq (P1:=λx y=>x= .normal/\y=mq T H b jf cl []) (.of h24 hq0 ⟨rfl,rfl⟩) λx y ⟨hx,hy⟩=>.inl ⟨hx,?_⟩) λx y ⟨hx,v,hp,hy⟩=>.inl ⟨hx,?_⟩))
 ·rw[hy];refine mC.block ?_;have:=afG (T:=T) agt hm hw Bw hb (by omega) ((qw [] ms).length+1) [] (Lg _) (.of_eq (yy.2 λ_ _=>rfl).symm)
  exact λok ro k g a w Q hn hq=>this ok ro k g a w Q hn λg' a' w' x e m' ⟨he,h⟩=>hq g' a' w' x e m' ⟨by rw[he];rfl,h⟩
 ·rw[hy];obtain ⟨ys,y1,y2⟩:=azD AN hp;have hyl:ys.length=zs.length:=y2.length_eq.symm;have hvl:v.length=ys.length:=by have:=bF aa9 y1;simpa[fq] using this
  obtain ⟨k,hk⟩:∃k,v.length=k+1:=⟨v.length-1,by omega⟩
  have hT:(mq T H b jf cl v).T 14=V (.sl (b+2*ys.length) 0 ys.length (.u 3)):=by
   show V (Rg b v.length)=_;rw[hk,<-hvl,hk];rfl
  have hH:(mq T H b jf cl v).H (b+2*ys.length)=V (.cells 3 (fq ys)):=by
   show Hq H b _ v.length (v.map (·.1)) _=_
   unfold Hq;rw[aC (by omega),aG ⟨by omega,by omega⟩,y1]
  have nn:∀x,(mq T H b jf cl v).nx<=x->(mq T H b jf cl v).H x=G:=aEz hb;have hs:=aJD (nx:=(mq T H b jf cl v).nx) (c:=.u 3) (show 0<ys.length by omega) (by omega) hH nn
  have h28:gj E0 wE (.region 28 (rg [0,1,1]) I) (mq T H b jf cl v) .normal ⟨eG (eG (mq T H b jf cl v).T (V 95) (.sl (b+2*ys.length) 0 ys.length (.u 3))) (V 96) (.dr []),jn (mq T H b jf cl v).H (b+2*ys.length,V (.cells 3 (fq (eX ys)))),(mq T H b jf cl v).nx+1⟩:=
   .region (aPg.mv (by kernel_rfl) hT (nn _ (de _)) (aPf.call (by kernel_rfl) rfl rfl hs nn (sm _) (yf (by kernel_rfl))))
  refine mC.seq (P1:=λx y=>x= .normal/\y=mz T H b zs) (.of h28 ⟨aoF ?_ (λh=>absurd rfl h) λy h1 h2 h3 h4=> ?_,λy o ho=> ?_,?_⟩ ⟨rfl,rfl⟩) λx y ⟨hx,hy⟩=>.inl ⟨hx,hy ▸ .of hr ⟨λ_ _ h=>h,λ_ _ h=>h,rfl⟩ ⟨rfl,rfl⟩⟩
  ·show eG (eG (mq T H b jf cl v).T (V 95) (.sl (b+2*ys.length) 0 ys.length (.u 3))) (V 96) (.dr []) 14=_;rw[ll (by decide),ll (by decide),hT,hyl]
  ·show eG _ _ _ y=_;rw[ll (by omega),ll (by omega)]
   show Tq _ _ _ y=_;unfold Tq;rw[aC h1,aC h2,aC (by omega)]
  ·have ho:Hq H b G zs.length (fq (eX zs)) y=V o:=ho;show (if y=b+2*ys.length then _ else Hq H b _ v.length (v.map (·.1)) y)=V o
   unfold Hq at ho ⊢;split at ho
   ·cases ho
   ·rename_i e1;split at ho
    ·rename_i e2;rw[aG (by omega),<-ho,akq y2]
    ·rename_i e2;split at ho
     ·cases ho
     ·rename_i e3;rw[aC (by omega),aC e1,aC (by omega),aC e3]
      exact ho
  ·show b+2*zs.length+2=b+2*v.length+1+1;omega
end
def aoQ {f8:Type} (m:List (Int×f8)):Z (List Int):=if m.length=0\/1000000<m.length then G else V (eX (m.map (·.1)))
def aaJ (x:Nat):Bool:= !(ku x 14||(ku x 15||(kQ 85 x&&kQ x 96)))
def Fl:fk->fk
 | []=> []
 |p::l=>aT (aaJ p.1) (p::Fl l) (Fl l)
def Yk {t:Nat} {x:AV}:∀{l:fk},lk t (Fl l)=V x->aaJ t=M/\lk t l=V x
 | [],h=>by cases h
 |p::l,h=>by
  unfold Fl at h;rw[cE] at h;split at h
  ·rename_i hp;rw[show lk t (p::Fl l)=lk t ((p.1,p.2)::Fl l) from rfl,dy] at h;rw[show lk t (p::l)=lk t ((p.1,p.2)::l) from rfl,dy];split at h
   ·rename_i e;rw[aG e];exact ⟨e ▸ hp,h⟩
   ·rename_i e;rw[aC e];exact Yk h
  ·rename_i hp;obtain ⟨h1,h2⟩:=Yk h;rw[show lk t (p::l)=lk t ((p.1,p.2)::l) from rfl,dy,aC (λe:t=p.1=>hp (e ▸ h1))]
   exact ⟨h1,h2⟩
def arh (s:LS) (zs:List Int):LS:=⟨(14,.ms 14 1 0 zs.length)::Fl s.ts,(14,.rows I 3 1 (dJ zs))::s.bs⟩
def fits (s s':LS) (zs:List Int):Z LS:=az (MK (arh s zs).bs s'.bs) λbs=>V ⟨cvT s'.ts (arh s zs).ts,bs⟩
def aHK:kg HX ([1,1,1]++Ch)=kg HX Ch:=by kernel_rfl
def afP {F:Hf} {g:Gb}:∀{l:List Int} {vs:bc},dH F g vs (l.map (AV.int .i64))->vs=fq l
 | [],_,.nil=>rfl
 |x::l,_,.cons h t=>by
  rw[afP t];cases h;rfl
def aAq {x:Nat} (h:aaJ x=M):x≠14/\x≠86/\¬(x=15\/(84<x/\x<97)):=by
 unfold aaJ at h;simp only[acM,acI] at h;obtain ⟨h1,h2,h3⟩:=h;have e1:x≠14:=λe=>by rw[(beq_iff x 14).2 e] at h1;cases h1
 have e2:x≠15:=λe=>by rw[(beq_iff x 15).2 e] at h2;cases h2
 have e3:¬(85<=x/\x<=96):=λe=>by rw[(bR 85 x).2 e.1,(bR x 96).2 e.2] at h3;cases h3
 exact ⟨e1,λe=>e3 (by omega),λe=>by omega⟩
def pc74 {X:Fx E0} {s s':LS} {m:List (Int×f8)} {zs:List Int} {f:f8->AV} (hk:At X ([1,1,1]++Ch) s' y gI) (hx:aoQ m=V zs) (hc:X.code=HX:=by kernel_rfl) (hn:X.fn.ntmps=wE:=by kernel_rfl) (h9:lk 9 s.ts=V (.mp K):=by kernel_rfl) (hK:lk K s.bs=V (.map (ga f m)):=by kernel_rfl) (jj:JR s 14=M:=by kernel_rfl) (hp:yG X 14=I:=by kernel_rfl) (Bs:yG X tW=I:=by kernel_rfl) (hs:fits s s' zs=V s':=by kernel_rfl):At X Ch s y gI:=by
 unfold aoQ at hx;split at hx
 ·cases hx
 rename_i hl;have hx:=(kR hx).symm;subst hx;let zs:=m.map (·.1)
 have hzl:zs.length=m.length:=mL _;have HK:(eX zs).length=zs.length:=yD zs;have yk:Holds X (Fin X y gI) (kg X.code Ch) (arh s (eX zs)) (.yS (rJ X.code ([1,1,1]++Ch)) ([1,1,1]++Ch) I):=by
  obtain ⟨bs,b1,b2⟩:=aq hs;have e:=kR b2;have hk:Holds X (Fin X y gI) (kg X.code ([1,1,1]++Ch)) s' (.yS (rJ X.code ([1,1,1]++Ch)) ([1,1,1]++Ch) I):=hk;rw[hc,aHK,<-hc] at hk;have hsee:kn (yG X) (arh s (eX zs)) s':=by
   have:=kn.cv (pn:=yG X) b1;rw[e] at this;exact this
  exact Holds.Qy hk hsee λh=>by rw[Bs] at h;cases h
 show Holds X (Fin X y gI) (kg X.code Ch) s (.yS (rJ X.code Ch) Ch I);refine yk.lead λw hw=> ?_
 have r:=hw.r;obtain ⟨v9,a1,a2⟩:=r.tm 9 _ h9 (by simp)
 cases a2;obtain ⟨ms,cl,hφ,hH,Bw,yi,hwf⟩:=r.map hK;have AN:ms.map (·.1)=fq zs:=by
  refine afP (F:=w.F) (g:=lH) ?_;rw[show zs.map (AV.int .i64)=(ga f m).map (·.1) from by unfold ga;rw[tS,tS];rfl]
  exact Bw
 let b:=w.m.nx;let z:=mz w.m.T w.m.H b zs;let id:=b+2*zs.length;let g':Gb:=ly w.g 14 ⟨id,.u 3,M⟩;have hzp:0<zs.length:=by omega
 have ji:z.H id=V (.cells 3 (fq (eX zs))):=by
  show Hq _ b G zs.length _ id=_;unfold Hq;rw[aC (by omega),aG ⟨rfl,hzp⟩]
 have hlow:∀i,i<b->z.H i=w.m.H i:=λi hi=>by
  show Hq _ b G zs.length _ i=_;unfold Hq;rw[aC (by omega),aC (by omega),aC (by omega)]
 have j4:dJ (eX zs)=qv (eX zs):=rfl;have qD:(qv (eX zs)).length=(eX zs).length:=mL _;have hvl:(fq (eX zs)).length=(eX zs).length:=mL _;obtain ⟨c',r1,k1,k2,k3⟩:=r.chg (K:=14) (b':=.rows I 3 1 (dJ (eX zs))) (g':=g') (L':= [(id,.cells 3 (fq (eX zs)))]) (H':=z.H)
  (by
   have:=eT.bY (F:=w.F) (g:=g') (K:=14) (z:=I) (e:=3) (s:=1) (l:= []) (Q:=qv (eX zs)) (o:= []) (svs:=fq (eX zs)) (L:= []) (show (ly w.g 14 ⟨id,.u 3,M⟩ 14).b=M from rfl) (λh=>by cases h) (E8 _) (show zf 3 1 (qv (eX zs)).length (fq (eX zs)).length (g' 14).c from ⟨rfl,by rw[qD,hvl];omega⟩) (.vw (E8 _) (by rw[qD,GU,jz (by omega)];exact Qz _)) (λp hp=>by cases hp)
   exact this) (by simp) (λp hp=>by rw[gL.1 hp];exact ⟨ji,.inr (hw.bd _ (by show b<=_;omega))⟩) (λi hi=>by
   by_cases hib:i<b
   ·exact absurd (hlow i hib) hi
   ·exact .inr (hw.bd i (by show b<=i;omega))) (.inr ⟨Am jj,λk hk=>aC hk⟩)
 have nn:∀x,z.nx<=x->z.H x=G:=λx hx=>by
  have hx:b+2*zs.length+2<=x:=hx;show Hq _ b G zs.length _ x=_;unfold Hq;rw[aC (by omega),aC (by omega),aG (by omega)]
 refine ⟨⟨w.F,g',ly w.Y 14 [(id,.cells 3 (fq (eX zs)))],c',z⟩,⟨⟨λt x ht cQ=> ?_,r1.bx,r1.fr,r1.cn⟩,nn⟩,⟨.refl _,λk hk=>aC (λe=>by rw[e,hp] at hk;cases hk),(by show b<=b+_+2;omega),λx hx cQ=>(by rw[<-hlow x hx];exact cQ),λh=>(by rw[Bs] at h;cases h)⟩,?_⟩
 ·have ht:lk t ((14,.ms 14 1 0 (eX zs).length)::Fl s.ts)=V x:=ht;rw[dy] at ht;split at ht
  ·rename_i e;cases ht;subst e;refine ⟨.sl id 0 zs.length (.u 3),rfl,?_⟩;rw[HK];have:=Ox (F:=w.F) (g:=g') (K:=14) (s:=1) (n:=zs.length) rfl;exact this
  ·obtain ⟨t1,t2⟩:=Yk ht;obtain ⟨v,v1,v2⟩:=r1.tm t x t2 cQ;obtain ⟨e1,e2,e3⟩:=aAq t1;refine ⟨v,?_,v2⟩;show Tq w.m.T _ G t=_;unfold Tq;rw[aC e1,aC e2,aC e3];exact v1
 ·intro e m' ⟨e1,m1,h1,h2⟩;refine ⟨e1,m1,?_,h2⟩;rw[hc,aKk,hn];rw[hn,hc] at h1;exact apm a1 hH hwf AN hzp (by omega) hw.bd h1
abbrev Wt0_:=cY->Int->Int->aP->Z aP
abbrev Rm:=aN->aP->aP->Int->Z (aj×aN)
abbrev arC:=aj->Int->Z Int
abbrev arB:=aj->Int->Z Bool
abbrev aho:=aP->aP->aj->Z Bool
abbrev Wt5_:=U->Int->Z Bool
abbrev Wt6_:=Int->Int->ai->Z Bool
abbrev Rl:=aj->aP->Z aP
abbrev YK:=aj->Int->Int->Z aj
abbrev Wt9_:=bX->fU->Z (fU×Int)
abbrev aGb:=U->Nat->Z Bool
abbrev aGa:=bw->Int->Int->U->Int->Int->cY->Int->(List (U×Bool))->ai->Z Bool
abbrev aFZ:=bw->Int->Int->(List (U×Bool))->Z Bool
abbrev abc:=aj->Int->Int->Z (Bool×Int)
abbrev CQ:=mo->aj->Z Bool
abbrev O1:=aj->Z aj
abbrev O0:=aj->aJ->Z aj
abbrev FW:=aP->aj->Z (aP×aP)
abbrev aFY:=aJ->ai->Z Bool
abbrev aFX:=aJ->bK->bK->Z Bool
abbrev aFW:=Int->bt->Int->Int->eE->cy->cy->cy->kJ->(List (Int×aS))->bt->Z (cy×Bool)
abbrev aFV:=Int->eE->cy->cy->cy->(List (Int×aS))->bt->Z (cy×Bool)
abbrev aFU:=qH->qH->Z (qH×Int×Int)
abbrev aFT:=aN->bt->Z (bt×aN)
abbrev aFS:=ae->cr->Z Bool
def aaA (r:(Int×aN)):AV:=.int .i64 r.1
def SD (r:(Int×aN)):List (Nat×Bx):= (sG (fg r.2))
def ja:=fx E0 Tryz.f18 [0]
def A18:=Ax ja aaA SD
def Sf (c0:aN) (n1:Int):LS:=⟨[aX 0,(1,bH n1)],(sG (fg c0))⟩
def atE (n:Nat) (c0:aN) (n1:Int):Z (Int×aN):=
 if !iL (c0.Cq<(c0.qh.length:Int)) then
 V (0,c0)
 else
 if iL (n1<1) then
 V (0,c0)
 else
 (idx c0.qh (aW ((aW (c0.Cq+1))-1))).bind λkC=>(rem (aW (kC)) n1).bind λx38=>V ((Int.tmod (aW (kC)) n1),(aN.mk c0.qh (aW (c0.Cq+1))))
def aTR (n:Nat):KK (A18 []) Sf (atE n):=λ_ _ r h=>ie h (λdu h=>rr h [(10,eb du)]) λdu h=>ie h (λc1 h=>rr h [(10,eb du),aQ c1]) λc1 h=>be h λ_ pI h=>be h λ_ hx38 h=>rr h [(10,eb du),aQ c1,(18,R5.idx pI),(3,.nz (aeY hx38).1)]
def qJ:=atE
def nW (n:Nat):KK (Cx E0 18 aaA SD) Sf (qJ n):=λ_ _ _ h=>ca (X:=ja) (aTR n h)
def AG (r:aP):AV:=.ms bA 1 0 r.length
def avF (r:aP):List (Nat×Bx):= [(bA,LG r)]
def Ha:=fx E0 Tryz.f50 []
def A50:=Ax Ha AG avF
def adQ (t22:cY) (t23 t24:Int) (cS:aP):LS:=⟨[(5,.ms 32 1 0 cS.length),(22,.slice 73 2 t22.length (eD t22)),(23,iI t23),(24,iI t24)],[(32,LG cS)]⟩
def adP (cS:aP):LS:=⟨[(5,Jp cS.length)],[(32,LG cS)]⟩
def Bf (s0:ae) (dt:Int):LS:=⟨[(0,.agg (cI s0)),(1,bH dt)],[]⟩
def abO (aA:Wf0) (back:Wt0_) (n:Nat) (t22:cY) (t23 t24:Int) (cS:aP):Z aP:=
 if iL (t24<t23) then
 (idx t22 t24).bind λx2=>(app cS [x2.aD]).bind λdN=>back t22 t23 (aW (t24+1)) dN
 else
 aA cS
def aSx {aA} (aU:KK (A50 [1,1,1,1]) adP aA) {back} (aK:KK (A50 (aI 87)) adQ back) (n:Nat):KK (A50 (aI 87)) adQ (abO aA back n):=λ_ _ _ _ r h=>ie h (λc0 h=>be h λ_ di h=>be h λ_ fN h=>ra (aK h) [aB c0,(0,eW.idx di),(7,R3.jS fN)]) λc0 h=>ra (aU h) [aB c0]
def Ph (aA:Wf0):Nat->cY->Int->Int->aP->Z aP
 |0=>dv.z
 |n+1=>abO aA (Ph aA n) n
def aDR {aA} (aU:KK (A50 [1,1,1,1]) adP aA):∀n:Nat,KK (A50 (aI 87)) adQ (Ph aA n)
 |0=>KC.h
 |n+1=>aSx aU (aDR aU n) n
def abN (n:Nat) (cS:aP):Z aP:=
 V cS
def aSw (n:Nat):KK (A50 [1,1,1,1]) adP (abN n):=λ_ r h=>rr h [(2,.iR 32 bA)]
def atp (n:Nat) (s0:ae) (dt:Int):Z aP:=
 if iL (dt<0) then
 V []
 else
 if !iL (dt<(s0.ah.length:Int)) then
 V []
 else
 (idx s0.ah dt).bind λgd=>Ph (abN n) n gd.ag (gd.ag.length:Int) 0 []
def aSv (n:Nat):KK (A50 []) Bf (atp n):=λ_ _ r h=>ie h (λc0 h=>rr h [aZ c0,(3,.born [4] [] bA M 3 1)]) λc0 h=>ie h (λc1 h=>rr h [aZ c0,bP c1,(2,.born [4] [] bA M 3 1)]) λc1 h=>be h λ_ iB h=>ra (aDR (aSw n) n h) [aZ c0,bP c1,(5,cm.idx iB),(4,.born [5] [] 32 M 3 1)]
def F50:=atp
def aqv (n:Nat):KK (Cx E0 50 AG avF) Bf (F50 n):=λ_ _ _ h=>ca (X:=Ha) (aSv n h)
def aCX (r:(Bool×aN)):AV:=.bool r.1
def avD (r:(Bool×aN)):List (Nat×Bx):= (sG (fg r.2))
def x70:=fx E0 Tryz.f70 [0]
def A70:=Ax x70 aCX avD
def atd (n:Nat) (c0:aN) (n1:Int):Z (Bool×aN):=
 (qJ n c0 n1).bind λx4=>V (x4.1==(aW (n1-1)),x4.2)
def aRW (n:Nat):KK (A70 []) Sf (atd n):=λ_ _ r h=>be h λ_ iF h=>rr h [(3,.call (nW n iF) [(0,0)] [])]
def Cu:=atd
def qi (n:Nat):KK (Cx E0 70 aCX avD) Sf (Cu n):=λ_ _ _ h=>ca (X:=x70) (aRW n h)
def aCO (r:cA):AV:=.agg (J0 r)
def x91:=fx E0 Tryz.f91 []
def A91:=Ax x91 aCO bC
def aug (apt:U) (il:Int):LS:=⟨[(0,.str apt),(1,bH il)],[]⟩
def asO (n:Nat) (apt:U) (il:Int):Z cA:=
 V (cA.mk apt il)
def aRp (n:Nat):KK (A91 []) aug (asO n):=λ_ _ r h=>rr h []
def EV:=asO
def El (n:Nat):KK (Cx E0 91 aCO bC) aug (EV n):=λ_ _ _ h=>ca (X:=x91) (aRp n h)
def x136:=fx E0 Tryz.f136 [0]
def A136:=Ax x136 aaA SD
def yc (c0:aN):LS:=⟨[aX 0],(sG (fg c0))⟩
def ajU (n:Nat) (c0:aN):Z (Int×aN):=
 (qJ n c0 12).bind λx3=>if x3.1==9 then
 V ((-1),x3.2)
 else
 if x3.1==10 then
 V (9223372036854775807,x3.2)
 else
 if x3.1==11 then
 V ((-9223372036854775808),x3.2)
 else
 (rem x3.1 4).bind λiv=>V ((Int.tmod x3.1 4),x3.2)
def aNq (n:Nat):KK (A136 []) yc (ajU n):=λ_ r h=>be h λ_ eM h=>let zA:SE:=[(2,.call (nW n eM) [(0,0)] [])];ie h (λdu h=>bq h zA [aQ du]) λdu h=>ie h (λc1 h=>bq h zA [aQ du,aV c1]) λc1 h=>ie h (λc2 h=>bq h zA [aQ du,aV c1,aV c2]) λc2 h=>be h λ_ iC h=>bq h zA [aQ du,aV c1,aV c2,(2,.nz (aeY iC).1)]
def asy:=ajU
def aQx (n:Nat):KK (Cx E0 136 aaA SD) yc (asy n):=λ_ _ h=>ca (X:=x136) (aNq n h)
def avh (r:(U×aN)):AV:=.str r.1
def amk (r:(U×aN)):List (Nat×Bx):= (sG (fg r.2))
def x137:=fx E0 Tryz.f137 [0]
def AA:=Ax x137 avh amk
def Xz (rl:U) (i4:Int) (b0:aN):LS:=⟨[(3,.str rl),(4,bH i4)],(sG (fg b0))⟩
def C9 (rl:U) (b0:aN):LS:=⟨[(3,.str rl)],(sG (fg b0))⟩
def Xy (rl:U) (i5:Int) (b0:aN):LS:=⟨[(3,.str rl),(5,bH i5)],(sG (fg b0))⟩
def Vz (aA:Wf1) (back:Wf2) (n:Nat) (rl:U) (i4:Int) (b0:aN):Z (U×aN):=
 if iL (i4<64) then
 (cat rl (Bk #[255])).bind λx4=>back (rl++(Bk #[255])) (aW (i4+1)) b0
 else
 aA rl b0
def aNp {aA} (aU:KK (AA (aI 458731)) C9 aA) {back} (aK:KK (AA (aI 1376235)) Xz back) (n:Nat):KK (AA (aI 1376235)) Xz (Vz aA back n):=λ_ _ _ r h=>ie h (λdu h=>be h λ_ iF h=>ra (aK h) [aV du,(1,.cat (J6 iF).1)]) λdu h=>ra (aU h) [aV du]
def ID (aA:Wf1):Nat->U->Int->aN->Z (U×aN)
 |0=>dv.z
 |n+1=>Vz aA (ID aA n) n
def axa {aA} (aU:KK (AA (aI 458731)) C9 aA):∀n:Nat,KK (AA (aI 1376235)) Xz (ID aA n)
 |0=>KC.h
 |n+1=>aNp aU (axa aU n) n
def azd (n:Nat) (rl:U) (b0:aN):Z (U×aN):=
 V (rl,b0)
def aNo (n:Nat):KK (AA (aI 458731)) C9 (azd n):=λ_ _ r h=>rr h []
def Vy (bn:Wf1) (back:Wf2) (n:Nat) (rl:U) (i5:Int) (b0:aN):Z (U×aN):=
 if iL (i5<64) then
 (cat rl (Bk #[98])).bind λx4=>back (rl++(Bk #[98])) (aW (i5+1)) b0
 else
 bn rl b0
def aNn {bn} (cM:KK (AA [1,1,1,1]) C9 bn) {back} (aK:KK (AA (aI 87)) Xy back) (n:Nat):KK (AA (aI 87)) Xy (Vy bn back n):=λ_ _ _ r h=>ie h (λdu h=>be h λ_ iF h=>ra (aK h) [aV du,(1,.cat (J6 iF).1)]) λdu h=>ra (cM h) [aV du]
def IC (bn:Wf1):Nat->U->Int->aN->Z (U×aN)
 |0=>dv.z
 |n+1=>Vy bn (IC bn n) n
def awZ {bn} (cM:KK (AA [1,1,1,1]) C9 bn):∀n:Nat,KK (AA (aI 87)) Xy (IC bn n)
 |0=>KC.h
 |n+1=>aNn cM (awZ cM n) n
def azc (n:Nat) (rl:U) (b0:aN):Z (U×aN):=
 V (rl,b0)
def aNm (n:Nat):KK (AA [1,1,1,1]) C9 (azc n):=λ_ _ r h=>rr h []
def ajT (n:Nat) (c0:aN):Z (U×aN):=
 (qJ n c0 10).bind λx4=>if x4.1==0 then
 V ((Bk #[97]),x4.2)
 else
 if x4.1==1 then
 V ((Bk #[97]),x4.2)
 else
 if x4.1==2 then
 V ((Bk #[97]),x4.2)
 else
 if x4.1==3 then
 V ((Bk #[98]),x4.2)
 else
 if x4.1==4 then
 V ((Bk #[98]),x4.2)
 else
 if x4.1==5 then
 V (A',x4.2)
 else
 if x4.1==6 then
 V ((Bk #[97,0]),x4.2)
 else
 if x4.1==7 then
 V ((Bk #[255]),x4.2)
 else
 if x4.1==8 then
 ID (azd n) n A' 0 x4.2
 else
 IC (azc n) n A' 0 x4.2
def aNl (n:Nat):KK (AA []) yc (ajT n):=λ_ r h=>be h λ_ iF h=>let zA:SE:=[(3,.call (nW n iF) [(0,0)] [])];ie h (λdu h=>bq h zA [aB du]) λdu h=>let zB:SE:=dk zA [aB du];ie h (λc1 h=>bq h zB [aV c1]) λc1 h=>let zC:SE:=dk zB [aV c1];ie h (λc2 h=>bq h zC [aV c2]) λc2 h=>let zD:SE:=dk zC [aV c2];ie h (λc3 h=>bq h zD [aV c3]) λc3 h=>let zE:SE:=dk zD [aV c3];ie h (λc4 h=>bq h zE [aV c4]) λc4 h=>let zF:SE:=dk zE [aV c4];ie h (λc5 h=>bq h zF [aV c5]) λc5 h=>let zG:SE:=dk zF [aV c5];ie h (λc6 h=>bq h zG [aV c6]) λc6 h=>ie h (λc7 h=>bq h zG [aV c6,aV c7]) λc7 h=>ie h (λc8 h=>cB (axa (aNo n) n h) zG [aV c6,aV c7,aV c8]) λc8 h=>cB (awZ (aNm n) n h) zG [aV c6,aV c7,aV c8]
def asx:=ajT
def aQw (n:Nat):KK (Cx E0 137 avh amk) yc (asx n):=λ_ _ h=>ca (X:=x137) (aNl n h)
def aCN (r:(aS×aN)):AV:=.agg (gV r.1)
def avu (r:(aS×aN)):List (Nat×Bx):= (sG (fg r.2))
def x93:=fx E0 Tryz.f93 [0]
def A93:=Ax x93 aCN avu
def auf (c0:aN) (il:Int):LS:=⟨[aX 0,(1,bH il)],(sG (fg c0))⟩
def asM (n:Nat) (c0:aN) (il:Int):Z (aS×aN):=
 if il==3 then
 (qJ n c0 2).bind λx7=>V ((aS.mk il x7.1 A'),x7.2)
 else
 if il==4 then
 (asy n c0).bind λx9=>V ((aS.mk il x9.1 A'),x9.2)
 else
 (asx n c0).bind λx8=>V ((aS.mk 5 0 x8.1),x8.2)
def aRn (n:Nat):KK (A93 []) auf (asM n):=λ_ _ r h=>ie h (λdu h=>be h λ_ iE h=>rr h [aQ du,(3,.call (nW n iE) [(0,0)] [])]) λdu h=>ie h (λc1 h=>be h λ_ iS h=>rr h [aQ du,aV c1,(3,.call (aQx n iS) [(0,0)] [])]) λc1 h=>be h λ_ lN h=>rr h [aQ du,aV c1,(2,.call (aQw n lN) [(0,0)] [])]
def F93:=asM
def Q6 (n:Nat):KK (Cx E0 93 aCN avu) auf (F93 n):=λ_ _ _ h=>ca (X:=x93) (aRn n h)
def avf (r:(bI×aN)):AV:=.agg (rE r.1)
def amf (r:(bI×aN)):List (Nat×Bx):= (sG (fg r.2))
def aos:=fx E0 Tryz.f169 [0]
def Ay:=Ax aos avf amf
def WZ (params2:aP) (lU:Int) (t15:aP) (t16 t17:Int) (b0:aN) (b8:bI) (mI:vf):LS:=⟨[aX 0,(2,.slice 3 1 params2.length (dJ params2)),(3,iI lU),aX 8,(9,.ms 29 5 0 mI.length),(15,.slice 3 1 t15.length (dJ t15)),(16,iI t16),(17,iI t17)],(apj (fg b0) (rE b8) mI)⟩
def WY (lU:Int) (t31:aP) (t32 t33:Int) (b0:aN) (b8:bI) (mI:vf):LS:=⟨[aX 0,(3,iI lU),aX 8,(9,.ms 29 5 0 mI.length),(31,.slice 3 1 t31.length (dJ t31)),(32,iI t32),(33,iI t33)],(apj (fg b0) (rE b8) mI)⟩
def WX (lU:Int) (b0:aN) (b8:bI) (mI:vf):LS:=⟨[aX 0,(3,bH lU),aX 8,(9,.ms 29 5 0 mI.length)],(apj (fg b0) (rE b8) mI)⟩
def WW (params2:aP) (lU:Int) (b0:aN) (b8:bI) (mI:vf):LS:=⟨[aX 0,(2,.slice 3 1 params2.length (dJ params2)),(3,iI lU),aX 8,(9,.ms 29 5 0 mI.length)],(apj (fg b0) (rE b8) mI)⟩
def alp (c0:aN) (dO params2:aP) (lU:Int):LS:=⟨[aX 0,(1,.slice 3 1 dO.length (dJ dO)),(2,.slice 3 1 params2.length (dJ params2)),(3,iI lU)],(sG (fg c0))⟩
def UR (bn:Wf3) (back:aP->Int->aP->Int->Int->aN->bI->vf->Z (bI×aN)) (n:Nat) (params2:aP) (lU:Int) (t15:aP) (t16 t17:Int) (b0:aN) (b8:bI) (mI:vf):Z (bI×aN):=
 if iL (t17<t16) then
 (idx t15 t17).bind λx3=>if x3==lU then
 (app mI [(bI.mk 1 t17 om)]).bind λfT=>back params2 lU t15 t16 (aW (t17+1)) b0 b8 fT
 else
 back params2 lU t15 t16 (aW (t17+1)) b0 b8 mI
 else
 bn params2 lU b0 b8 mI
def aLL {bn} (cM:KK (Ay [1,1,1]) WW bn) {back} (aK:KK (Ay [0,1,0,1,1]) WZ back) (n:Nat):KK (Ay [0,1,0,1,1]) WZ (UR bn back n):=λ_ _ _ _ _ _ _ _ r h=>ie h (λdu h=>be h λ_ eM h=>ie h (λc1 h=>be h λ_ kU h=>ra (aK h) [aB du,(1,R3.idx eM),bP c1,(4,arT.jS kU)]) λc1 h=>ra (aK h) [aB du,(1,R3.idx eM),bP c1]) λdu h=>ra (cM h) [aB du]
def Im (bn:Wf3):Nat->aP->Int->aP->Int->Int->aN->bI->vf->Z (bI×aN)
 |0=>dv.z
 |n+1=>UR bn (Im bn n) n
def awz {bn} (cM:KK (Ay [1,1,1]) WW bn):∀n:Nat,KK (Ay [0,1,0,1,1]) WZ (Im bn n)
 |0=>KC.h
 |n+1=>aLL cM (awz cM n) n
def UQ (bh:Wf4) (back:Int->aP->Int->Int->aN->bI->vf->Z (bI×aN)) (n:Nat) (lU:Int) (t31:aP) (t32 t33:Int) (b0:aN) (b8:bI) (mI:vf):Z (bI×aN):=
 if iL (t33<t32) then
 (idx t31 t33).bind λx3=>if x3==lU then
 (app mI [(bI.mk 2 t33 om)]).bind λfT=>back lU t31 t32 (aW (t33+1)) b0 b8 fT
 else
 back lU t31 t32 (aW (t33+1)) b0 b8 mI
 else
 bh lU b0 b8 mI
def aLK {bh} (cF:KK (Ay [1,1,1,1]) WX bh) {back} (aK:KK (Ay (aI 87)) WY back) (n:Nat):KK (Ay (aI 87)) WY (UQ bh back n):=λ_ _ _ _ _ _ _ r h=>ie h (λdu h=>be h λ_ eM h=>ie h (λc1 h=>be h λ_ kU h=>ra (aK h) [aB du,(1,R3.idx eM),bP c1,(4,arT.jS kU)]) λc1 h=>ra (aK h) [aB du,(1,R3.idx eM),bP c1]) λdu h=>ra (cF h) [aB du]
def Il (bh:Wf4):Nat->Int->aP->Int->Int->aN->bI->vf->Z (bI×aN)
 |0=>dv.z
 |n+1=>UQ bh (Il bh n) n
def awy {bh} (cF:KK (Ay [1,1,1,1]) WX bh):∀n:Nat,KK (Ay (aI 87)) WY (Il bh n)
 |0=>KC.h
 |n+1=>aLK cF (awy cF n) n
def Nl (n:Nat) (lU:Int) (b0:aN) (b8:bI) (mI:vf):Z (bI×aN):=
 (qJ n b0 (aW ((mI.length:Int)+1))).bind λx5=>if iL (x5.1<(mI.length:Int)) then
 (dX mI.length x5.1).bind λiv=>(mI[0+iv]?).bind λgd=>V (gd,x5.2)
 else
 (F93 n x5.2 lU).bind λiv=>V ((bI.mk 3 0 iv.1),iv.2)
def aLJ (n:Nat):KK (Ay [1,1,1,1]) WX (Nl n):=λ_ _ _ _ r h=>be h λ_ ic h=>let zA:SE:=[(4,.call (nW n ic) [(0,0)] [])];ie h (λdu h=>be h λiv iC h=>be h λ_ iB h=>bq h zA [bk du,(2,cX iC),(0,arT.row iB)]) λdu h=>be h λiv iC h=>bq h zA [bk du,(2,.call (Q6 n iC) [(0,0)] [])]
def UP (n:Nat) (params2:aP) (lU:Int) (b0:aN) (b8:bI) (mI:vf):Z (bI×aN):=
 Il (Nl n) n lU params2 (params2.length:Int) 0 b0 b8 mI
def aLI (n:Nat):KK (Ay [1,1,1]) WW (UP n):=λ_ _ _ _ _ r h=>ra (awy (aLJ n) n h) []
def ayW (n:Nat) (c0:aN) (dO params2:aP) (lU:Int):Z (bI×aN):=
 Im (UP n) n params2 lU dO (dO.length:Int) 0 c0 zTO []
def aLH (n:Nat):KK (Ay []) alp (ayW n):=λ_ _ _ _ r h=>ra (awz (aLI n) n h) [(5,.born [9] [] 29 M 105 5)]
def aso:=ayW
def aEZ (n:Nat):KK (Cx E0 169 avf amf) alp (aso n):=λ_ _ _ _ _ h=>ca (X:=aos) (aLH n h)
def Sr (r:(aj×aN)):AV:=.agg (fR r.1)
def Ou (r:(aj×aN)):List (Nat×Bx):= (sG (fg r.2))
def x134:=fx E0 Tryz.f134 [0]
def GS:=Ax x134 Sr Ou
def Nd:=Cx E0 134 Sr Ou
def aHh (b0:aN) (b8 fZ:aj):LS:=⟨[aX 0,aX 8,aX 11],[(0,mD (fg b0)),(8,q2_),(11,.flat 107 [iI 3,iI fZ.fA,iI fZ.cO.aD,iI fZ.cO.dj,iI fZ.cO.bj.aD,iI fZ.cO.bj.dh,.str fZ.cO.bj.cG,iI fZ.cj.aD,iI fZ.cj.dj,iI fZ.cj.bj.aD,iI fZ.cj.bj.dh,.str fZ.cj.bj.cG,.cq])]⟩
def aHg (dO params2:aP) (L5:Int) (b0:aN) (b8:aj):LS:=⟨[aX 0,(1,.slice 3 1 dO.length (dJ dO)),(2,.slice 3 1 params2.length (dJ params2)),aX 8,(10,iI L5)],[(0,mD (fg b0)),(8,q2_)]⟩
def XB (dO params2:aP) (nC wU:Int) (b0:aN) (b8 cx:aj) (Ar:br):LS:=⟨[aX 0,(1,.slice 3 1 dO.length (dJ dO)),(2,.slice 3 1 params2.length (dJ params2)),(3,iI nC),aX 8,aX 12,(13,iI wU)],[(0,mD (fg b0)),(8,kM (fa b8 .cq)),(12,kM (fa cx (.ms 104 13 0 Ar.length))),(104,Gs Ar)]⟩
def XA (b0:aN) (b8 cx:aj) (Ar:br):LS:=⟨[aX 8,(12,LF)],[(0,mD (fg b0)),(8,kM (fa b8 .cq)),(12,kM (fa cx (.ms 104 13 0 Ar.length))),(104,Gs Ar)]⟩
def aHf (dO params2:aP) (nC op9:Int) (t27:Bool) (b0:aN) (b8:aj):LS:=⟨[aX 0,(1,.slice 3 1 dO.length (dJ dO)),(2,.slice 3 1 params2.length (dJ params2)),(3,iI nC),aX 8,(9,iI op9),(27,.bool t27)],[(0,mD (fg b0)),(8,q2_)]⟩
def sD (c0:aN) (dO params2:aP) (nC:Int):LS:=⟨[aX 0,(1,.slice 3 1 dO.length (dJ dO)),(2,.slice 3 1 params2.length (dJ params2)),(3,iI nC)],(sG (fg c0))⟩
def Ny (gR:Rm) (n:Nat) (b0:aN) (b8 fZ:aj):Z (aj×aN):=
 (Cu n b0 6).bind λx2=>if x2.1 then
 V ((aj.mk 3 fZ.fA fZ.cj fZ.cO []),x2.2)
 else
 V ((aj.mk 3 fZ.fA fZ.cO fZ.cj []),x2.2)
def ayo {gR} (mf:KK Nd sD gR) (n:Nat):KK (GS (aI 8051)) aHh (Ny gR n):=λ_ _ _ r h=>be h λ_ di h=>ie h (λdu h=>rr h [(1,.call (cb (qi n di) du) [(0,0)] []),(10,.oV 8 (.flat 0 (y6 12 [.sl 0 107 13 0 []])))]) λdu h=>rr h [(1,.call (cb (qi n di) du) [(0,0)] []),(2,.oV 8 (.flat 0 (y6 12 [.sl 0 107 13 0 []])))]
def Nx (gR:Rm) (n:Nat) (dO params2:aP) (L5:Int) (b0:aN) (b8:aj):Z (aj×aN):=
 (qJ n b0 6).bind λx2=>(aso n x2.2 dO params2 L5).bind λx9=>(F93 n x9.2 L5).bind λdC=>(Cu n dC.2 3).bind λlx=>if lx.1 then
 (aso n lx.2 dO params2 L5).bind λs8=>Ny gR n s8.2 rV (aj.mk 3 (aW (1+x2.1)) x9.1 s8.1 [])
 else
 Ny gR n lx.2 rV (aj.mk 3 (aW (1+x2.1)) x9.1 (bI.mk 3 0 dC.1) [])
def ayn {gR} (mf:KK Nd sD gR) (n:Nat):KK (GS (aI 1907)) aHg (Nx gR n):=λ_ _ _ _ _ r h=>be h λ_ di h=>be h λ_ iS h=>be h λ_ fE h=>be h λ_ jM h=>let zA:SE:=[(1,.call (nW n di) [(0,0)] []),(5,.call (aEZ n iS) [(0,0)] []),(2,.call (Q6 n fE) [(0,0)] [])];ie h (λdu h=>be h λ_ rQ h=>cB (ayo mf n h) zA [(5,.call (cb (qi n jM) du) [(0,0)] []),(4,.call (aEZ n rQ) [(0,0)] [])]) λdu h=>cB (ayo mf n h) zA [(5,.call (cb (qi n jM) du) [(0,0)] [])]
def VC (gR:Rm) (bn:Wf5) (back:aP->aP->Int->Int->aN->aj->aj->br->Z (aj×aN)) (n:Nat) (dO params2:aP) (nC wU:Int) (b0:aN) (b8 cx:aj) (Ar:br):Z (aj×aN):=
 if !iL (wU<0) then
 (gR b0 dO params2 (aW (nC-1))).bind λeN=>(app Ar [eN.1]).bind λdC=>back dO params2 nC (aW (wU-1)) eN.2 (aj.mk b8.bf b8.fA b8.cO b8.cj []) (aj.mk cx.bf cx.fA cx.cO cx.cj dC) dC
 else
 bn b0 (aj.mk b8.bf b8.fA b8.cO b8.cj []) (aj.mk cx.bf cx.fA cx.cO cx.cj Ar) Ar
def aNu {gR} (mf:KK Nd sD gR) {bn} (cM:KK (GS [1,1,1,1,1]) XA bn) {back} (aK:KK (GS (aI 175)) XB back) (n:Nat):KK (GS (aI 175)) XB (VC gR bn back n):=λ_ _ _ _ _ _ _ _ r h=>ie h (λdu h=>be h λeN iK h=>be h λ_ fE h=>ra (aK h) [aV du,(7,.call (mf iK) [(0,0)] []),(0,.laid (bF (Bx.rows I 107 13) (eR.map [eN.1]).symm)),(0,eR.jS fE)]) λdu h=>ra (cM h) [aV du]
def IE (gR:Rm) (bn:Wf5):Nat->aP->aP->Int->Int->aN->aj->aj->br->Z (aj×aN)
 |0=>dv.z
 |n+1=>VC gR bn (IE gR bn n) n
def axb {gR} (mf:KK Nd sD gR) {bn} (cM:KK (GS [1,1,1,1,1]) XA bn):∀n:Nat,KK (GS (aI 175)) XB (IE gR bn n)
 |0=>KC.h
 |n+1=>aNu mf cM (axb mf cM n) n
def VB (gR:Rm) (n:Nat) (b0:aN) (b8 cx:aj) (Ar:br):Z (aj×aN):=
 V ((aj.mk cx.bf cx.fA cx.cO cx.cj Ar),b0)
def aNt {gR} (mf:KK Nd sD gR) (n:Nat):KK (GS [1,1,1,1,1]) XA (VB gR n):=λ_ _ _ Ar r h=>rr h [(2,eR.er 104 Ar),(0,.oV 8 (.flat 0 (y6 12 [.sl 0 0 0 0 []])))]
def zj (gR:Rm) (n:Nat) (dO params2:aP) (nC op9:Int) (t27:Bool) (b0:aN) (b8:aj):Z (aj×aN):=
 if t27 then
 if iL (0<(dO.length:Int)) then
 (qJ n b0 (dO.length:Int)).bind λx9=>(idx dO x9.1).bind λdN=>Nx gR n dO params2 dN x9.2 rV
 else
 Nx gR n dO params2 4 b0 rV
 else
 if op9==6 then
 (gR b0 dO params2 (aW (nC-1))).bind λx9=>V ((aj.mk 6 0 zTO zTO [x9.1]),x9.2)
 else
 (qJ n b0 3).bind λdN=>IE gR (VB gR n) n dO params2 nC dN.1 dN.2 rV (aj.mk (aW ((aW (4+op9))-7)) 0 zTO zTO []) []
def TA {gR} (mf:KK Nd sD gR) (n:Nat):KK (GS (aI 243)) aHf (zj gR n):=λ_ _ _ _ _ _ _ r h=>ie h (λdu bE=>by subst du;exact (ie bE (λc1 bE=>be bE λx9 iS bE=>be bE λdN fN bE=>ra (ayn mf n bE) [aZ c1,(4,.call (nW n iS) [(0,0)] []),(0,R3.idx fN)]) λc1 bE=>ra (ayn mf n bE) [aZ c1])) λdu bE=>by subst du;exact (ie bE (λc1 bE=>be bE λx9 iS bE=>rr bE [aV c1,(6,.call (mf iS) [(0,0)] []),(0,.laid (bF (Bx.rows I 107 13) (eR.map [x9.1]).symm)),(2,eR.er 83 [x9.1])]) λc1 bE=>be bE λdN fN bE=>ra (axb mf (aNt mf n) n bE) [aV c1,(8,.call (nW n fN) [(0,0)] []),(1,.born [] [(12,12)] 104 M 107 13)])
def ajW (gR:Rm) (n:Nat) (c0:aN) (dO params2:aP) (nC:Int):Z (aj×aN):=
 (qJ n c0 9).bind λx3=>if x3.1==0 then
 (Cu n x3.2 2).bind λeN=>if eN.1 then
 (qJ n eN.2 2).bind λfT=>V ((aj.mk (aW (1+fT.1)) 0 zTO zTO []),fT.2)
 else
 if iL (x3.1<6) then
 zj gR n dO params2 nC x3.1 M eN.2 rV
 else
 zj gR n dO params2 nC x3.1 (iL (nC<1)) eN.2 rV
 else
 if iL (x3.1<6) then
 zj gR n dO params2 nC x3.1 M x3.2 rV
 else
 zj gR n dO params2 nC x3.1 (iL (nC<1)) x3.2 rV
def aNs {gR} (mf:KK Nd sD gR) (n:Nat):KK (GS []) sD (ajW gR n):=λ_ _ _ _ r h=>be h λ_ eM h=>let zA:SE:=[(2,.call (nW n eM) [(0,0)] [])];ie h (λdu h=>be h λ_ iK h=>ie h (λc1 h=>be h λ_ kU h=>bq h zA [aQ du,(2,.call (cb (qi n iK) c1) [(0,0)] []),(3,.call (nW n kU) [(0,0)] []),(3,.oV 8 (.flat 0 (y6 12 [.sl 0 107 13 0 []])))]) λc1 h=>let zB:SE:=dk zA [aQ du,(2,.call (cb (qi n iK) c1) [(0,0)] [])];ie h (λc2 h=>cB (TA mf n h) zB [aZ c2]) λc2 h=>cB (TA mf n h) zB [aZ c2]) λdu h=>ie h (λc1 h=>cB (TA mf n h) zA [aQ du,bk c1]) λc1 h=>cB (TA mf n h) zA [aQ du,bk c1]
def EX:Nat->aN->aP->aP->Int->Z (aj×aN)
 |0,_,_,_,_=>G
 |n+1,c0,dO,params2,nC=>ajW (EX n) n c0 dO params2 nC
def aqB:∀n:Nat,KK Nd sD (EX n)
 |0=>λ_ _ _ _ _ h=>nz h
 |n+1=>λ_ _ _ _ _ h=>ca (X:=x134) (aNs (aqB n) n h)
def cP (r:Bool):AV:=.bool r
def Wh:=fx E0 Tryz.f175 []
def A175:=Ax Wh cP bC
def aln (k0:Int):LS:=⟨[(0,bH k0)],[]⟩
def ajl (n:Nat) (k0:Int):Z Bool:=
 if k0==3 then
 V M
 else
 if k0==4 then
 V M
 else
 V (k0==5)
def aLr (n:Nat):KK (A175 []) aln (ajl n):=λ_ r h=>ie h (λc0 h=>rr h [aQ c0]) λc0 h=>ie h (λc1 h=>rr h [aQ c0,aQ c1]) λc1 h=>rr h [aQ c0,aQ c1]
def aij:=ajl
def aET (n:Nat):KK (Cx E0 175 cP bC) aln (aij n):=λ_ _ h=>ca (X:=Wh) (aLr n h)
def x170:=fx E0 Tryz.f170 []
def RG:=Ax x170 cP bC
def C8 (t5:aP) (t6 t7:Int):LS:=⟨[(5,.slice 3 1 t5.length (dJ t5)),(6,iI t6),(7,iI t7)],[]⟩
def WV:LS:=⟨[],[]⟩
def alo (l0:aP):LS:=⟨[(0,.slice 3 1 l0.length (dJ l0))],[]⟩
def UO (aA:Z Bool) (back:aP->Int->Int->Z Bool) (n:Nat) (t5:aP) (t6 t7:Int):Z Bool:=
 if iL (t7<t6) then
 (idx t5 t7).bind λx2=>(aij n x2).bind λx7=>if !x7 then
 V I
 else
 back t5 t6 (aW (t7+1))
 else
 aA
def aLG {aA} (aU:KK (RG [1,1]) WV aA) {back} (aK:KK (RG [0,1,0,1]) C8 back) (n:Nat):KK (RG [0,1,0,1]) C8 (UO aA back n):=λ_ _ _ r h=>ie h (λc0 h=>be h λ_ di h=>be h λ_ iE h=>let zA:SE:=[aB c0,(0,R3.idx di),j3 (aET n iE)];ie h (λc1 h=>bq h zA [aB c1]) λc1 h=>cB (aK h) zA [aB c1]) λc0 h=>ra (aU h) [aB c0]
def Ik (aA:Z Bool):Nat->aP->Int->Int->Z Bool
 |0=>dv.z
 |n+1=>UO aA (Ik aA n) n
def awx {aA} (aU:KK (RG [1,1]) WV aA):∀n:Nat,KK (RG [0,1,0,1]) C8 (Ik aA n)
 |0=>KC.h
 |n+1=>aLG aU (awx aU n) n
def ajs (n:Nat):Z Bool:=
 V M
def aLF (n:Nat):KK (RG [1,1]) WV (ajs n):=λr h=>rr h []
def ajr (n:Nat) (l0:aP):Z Bool:=
 Ik (ajs n) n l0 (l0.length:Int) 0
def aLE (n:Nat):KK (RG []) alo (ajr n):=λ_ r h=>ra (awx (aLF n) n h) []
def ail:=ajr
def aEY (n:Nat):KK (Cx E0 170 cP bC) alo (ail n):=λ_ _ h=>ca (X:=x170) (aLE n h)
def dR (r:Int):AV:=.int .i64 r
def x171:=fx E0 Tryz.f171 []
def RF:=Ax x171 dR bC
def aiK:=Cx E0 171 dR bC
def WU (n1 i5:Int) (b2:aj):LS:=⟨[(1,bH n1),aX 2,(5,bH i5)],[(2,kM (fR b2))]⟩
def WT (n1:Int):LS:=⟨[(1,bH n1)],[]⟩
def qS (p0:aj) (n1:Int):LS:=⟨[(0,.agg (fR p0)),(1,bH n1)],[]⟩
def UN (oM:arC) (aA:Wf6) (back:Int->Int->aj->Z Int) (n:Nat) (n1 i5:Int) (b2:aj):Z Int:=
 if iL (i5<(b2.fArgs.length:Int)) then
 if !iL (24<n1) then
 (idx b2.fArgs i5).bind λdC=>(oM dC n1).bind λiQ=>back iQ (aW (i5+1)) b2
 else
 aA n1
 else
 aA n1
def aLD {oM} (Bq:KK aiK qS oM) {aA} (aU:KK (RF [1,1,1]) WT aA) {back} (aK:KK (RF [0,1,0,1,1]) WU back) (n:Nat):KK (RF [0,1,0,1,1]) WU (UN oM aA back n):=λ_ _ _ r h=>ie h (λc0 h=>ie h (λc1 h=>be h λ_ fE h=>be h λ_ iJ h=>ra (aK h) [bk c0,aQ c1,(4,eR.idx fE),im (Bq iJ)]) λc1 h=>ra (aU h) [bk c0,aQ c1]) λc0 h=>ra (aU h) [bk c0]
def Ij (oM:arC) (aA:Wf6):Nat->Int->Int->aj->Z Int
 |0=>dv.z
 |n+1=>UN oM aA (Ij oM aA n) n
def aww {oM} (Bq:KK aiK qS oM) {aA} (aU:KK (RF [1,1,1]) WT aA):∀n:Nat,KK (RF [0,1,0,1,1]) WU (Ij oM aA n)
 |0=>KC.h
 |n+1=>aLD Bq aU (aww Bq aU n) n
def ayV (oM:arC) (n:Nat) (n1:Int):Z Int:=
 V n1
def aLC {oM} (Bq:KK aiK qS oM) (n:Nat):KK (RF [1,1,1]) WT (ayV oM n):=λ_ r h=>rr h []
def ajq (oM:arC) (n:Nat) (p0:aj) (n1:Int):Z Int:=
 Ij oM (ayV oM n) n (aW (n1+1)) 0 p0
def aLB {oM} (Bq:KK aiK qS oM) (n:Nat):KK (RF []) qS (ajq oM n):=λ_ _ r h=>ra (aww Bq (aLC Bq n) n h) []
def YZ:Nat->aj->Int->Z Int
 |0,_,_=>G
 |n+1,p0,n1=>ajq (YZ n) n p0 n1
def aEX:∀n:Nat,KK aiK qS (YZ n)
 |0=>λ_ _ _ h=>nz h
 |n+1=>λ_ _ _ h=>ca (X:=x171) (aLB (aEX n) n h)
def Wi:=fx E0 Tryz.f172 []
def RE:=Ax Wi cP bC
def aiJ:=Cx E0 172 cP bC
def WR (n1 t10 t11:Int) (b2:aj):LS:=⟨[(1,bH n1),aX 2,(10,bH t10),(11,bH t11)],[(2,kM (fR b2))]⟩
def WQ:LS:=⟨[],[]⟩
def UM (oL:arB) (aA:Z Bool) (back:Int->Int->Int->aj->Z Bool) (n:Nat) (n1 t10 t11:Int) (b2:aj):Z Bool:=
 if iL (t11<t10) then
 (idx b2.fArgs t11).bind λx7=>(oL x7 (aW (n1-1))).bind λjd=>if jd then
 V M
 else
 back n1 t10 (aW (t11+1)) b2
 else
 aA
def aLA {oL} (Bp:KK aiJ qS oL) {aA} (aU:KK (RE [1,1,1]) WQ aA) {back} (aK:KK (RE [0,1,0,1,1]) WR back) (n:Nat):KK (RE [0,1,0,1,1]) WR (UM oL aA back n):=λ_ _ _ _ r h=>ie h (λc0 h=>be h λ_ iE h=>be h λ_ hI h=>let zA:SE:=[aB c0,(5,eR.idx iE),j3 (Bp hI)];ie h (λc1 bE=>by subst c1;exact (rr bE zA)) λc1 bE=>by subst c1;exact (ra (aK bE) zA)) λc0 h=>ra (aU h) [aB c0]
def Ii (oL:arB) (aA:Z Bool):Nat->Int->Int->Int->aj->Z Bool
 |0=>dv.z
 |n+1=>UM oL aA (Ii oL aA n) n
def awv {oL} (Bp:KK aiJ qS oL) {aA} (aU:KK (RE [1,1,1]) WQ aA):∀n:Nat,KK (RE [0,1,0,1,1]) WR (Ii oL aA n)
 |0=>KC.h
 |n+1=>aLA Bp aU (awv Bp aU n) n
def ajp (oL:arB) (n:Nat):Z Bool:=
 V I
def aLz {oL} (Bp:KK aiJ qS oL) (n:Nat):KK (RE [1,1,1]) WQ (ajp oL n):=λr h=>rr h []
def UL (oL:arB) (n:Nat) (p0:aj) (n1:Int):Z Bool:=
 if n1==0 then
 V M
 else
 Ii oL (ajp oL n) n n1 (p0.fArgs.length:Int) 0 p0
def aLy {oL} (Bp:KK aiJ qS oL) (n:Nat):KK (RE []) qS (UL oL n):=λ_ _ r h=>ie h (λc0 h=>rr h [aZ c0]) λc0 h=>ra (awv Bp (aLz Bp n) n h) [aZ c0]
def M8:Nat->aj->Int->Z Bool
 |0,_,_=>G
 |n+1,p0,n1=>UL (M8 n) n p0 n1
def aEW:∀n:Nat,KK aiJ qS (M8 n)
 |0=>λ_ _ _ h=>nz h
 |n+1=>λ_ _ _ h=>ca (X:=Wi) (aLy (aEW n) n h)
def x193:=fx E0 Tryz.f193 []
def A193:=Ax x193 cP bC
def C6 (p0:aj):LS:=⟨[(0,.agg (fR p0))],[]⟩
def aja (n:Nat) (p0:aj):Z Bool:=
 if p0.fA==0 then
 if ((p0.cO.aD==0)&&((p0.cO.dj==0)&&(((p0.cO.bj.aD==0)&&((p0.cO.bj.dh==0)&&((iL (p0.cO.bj.cG=A'))&&M)))&&M))) then
 V ((p0.cj.aD==0)&&((p0.cj.dj==0)&&(((p0.cj.bj.aD==0)&&((p0.cj.bj.dh==0)&&((iL (p0.cj.bj.cG=A'))&&M)))&&M)))
 else
 V I
 else
 V I
def aKR (n:Nat):KK (A193 []) C6 (aja n):=λ_ r h=>ie h (λc0 h=>ie h (λc1 h=>rr h [bk c0,bk c1]) λc1 h=>rr h [bk c0,bk c1]) λc0 h=>rr h [bk c0]
def YV:=aja
def aaO (n:Nat):KK (Cx E0 193 cP bC) C6 (YV n):=λ_ _ h=>ca (X:=x193) (aKR n h)
def x158:=fx E0 Tryz.f158 []
def A158:=Ax x158 cP bC
def ya (v0:aS):LS:=⟨[(0,.agg (gV v0))],[]⟩
def ajz (n:Nat) (v0:aS):Z Bool:=
 if v0.aD==1 then
 if v0.dh==0 then
 V (iL (v0.cG=A'))
 else
 V I
 else
 if v0.aD==2 then
 if v0.dh==0 then
 V (iL (v0.cG=A'))
 else
 V I
 else
 if v0.aD==3 then
 if v0.dh==0 then
 V (iL (v0.cG=A'))
 else
 if v0.dh==1 then
 V (iL (v0.cG=A'))
 else
 V I
 else
 if v0.aD==4 then
 V (iL (v0.cG=A'))
 else
 if v0.aD==5 then
 if v0.dh==0 then
 V (!iL (64<(v0.cG.size:Int)))
 else
 V I
 else
 V I
def aLW (n:Nat):KK (A158 []) ya (ajz n):=λ_ r h=>ie h (λc0 h=>ie h (λc1 h=>rr h [bk c0,aZ c1]) λc1 h=>rr h [bk c0,aZ c1]) λc0 h=>ie h (λc1 h=>ie h (λc2 h=>rr h [bk c0,aV c1,aZ c2]) λc2 h=>rr h [bk c0,aV c1,aZ c2]) λc1 h=>let zA:SE:=[bk c0,aV c1];ie h (λc2 h=>ie h (λc3 h=>bq h zA [aV c2,aZ c3]) λc3 h=>ie h (λc4 h=>bq h zA [aV c2,aZ c3,aZ c4]) λc4 h=>bq h zA [aV c2,aZ c3,aZ c4]) λc2 h=>let zB:SE:=dk zA [aV c2];ie h (λc3 h=>bq h zB [aV c3]) λc3 h=>ie h (λc4 h=>ie h (λc5 h=>bq h zB [aV c3,aV c4,aZ c5]) λc5 h=>bq h zB [aV c3,aV c4,aZ c5]) λc4 h=>bq h zB [aV c3,aV c4]
def ast:=ajz
def aFb (n:Nat):KK (Cx E0 158 cP bC) ya (ast n):=λ_ _ h=>ca (X:=x158) (aLW n h)
def x142:=fx E0 Tryz.f142 []
def A142:=Ax x142 cP bC
def ajP (n:Nat) (v0:aS):Z Bool:=
 (ast n v0).bind λx4=>if x4 then
 V (!iL (v0.aD<3))
 else
 V I
def aMU (n:Nat):KK (A142 []) ya (ajP n):=λ_ r h=>be h λ_ iF h=>ie h (λc0 bE=>by subst c0;exact (rr bE [j3 (aFb n iF)])) λc0 bE=>by subst c0;exact (rr bE [j3 (aFb n iF)])
def Rv:=ajP
def aaR (n:Nat):KK (Cx E0 142 cP bC) ya (Rv n):=λ_ _ h=>ca (X:=x142) (aMU n h)
def x194:=fx E0 Tryz.f194 []
def A194:=Ax x194 dR bC
def aGT (SR:aP) (b5:bI):LS:=⟨[aX 5,(7,.slice 3 1 SR.length (dJ SR))],[(5,.flat 105 (rE b5))]⟩
def ali (fy params1:aP) (o2:bI):LS:=⟨[(0,.slice 3 1 fy.length (dJ fy)),(1,.slice 3 1 params1.length (dJ params1)),(2,.agg (rE o2))],[]⟩
def Nj (n:Nat) (SR:aP) (b5:bI):Z Int:=
 if iL (b5.dj<0) then
 V 0
 else
 if !iL (b5.dj<(SR.length:Int)) then
 V 0
 else
 if !((b5.bj.aD==0)&&((b5.bj.dh==0)&&((iL (b5.bj.cG=A'))&&M))) then
 V 0
 else
 (idx SR b5.dj).bind λlx=>V lx
def ayg (n:Nat):KK (A194 [1,1,1]) aGT (Nj n):=λ_ _ r h=>ie h (λc0 h=>rr h [aQ c0]) λc0 h=>ie h (λc1 h=>rr h [aQ c0,bP c1]) λc1 h=>ie h (λc2 h=>rr h [aQ c0,bP c1,bP c2]) λc2 h=>be h λ_ jM h=>rr h [aQ c0,bP c1,bP c2,(4,R3.idx jM)]
def aiZ (n:Nat) (fy params1:aP) (o2:bI):Z Int:=
 if o2.aD==3 then
 if o2.dj !=0 then
 V 0
 else
 (Rv n o2.bj).bind λfT=>if !fT then
 V 0
 else
 V o2.bj.aD
 else
 if o2.aD==2 then
 Nj n params1 o2
 else
 if o2.aD==1 then
 Nj n fy o2
 else
 V 0
def aKQ (n:Nat):KK (A194 []) ali (aiZ n):=λ_ _ _ r h=>ie h (λc0 h=>ie h (λc1 h=>rr h [dg c0,aZ c1]) λc1 h=>be h λ_ kU h=>let zA:SE:=[dg c0,aZ c1,j3 (aaR n kU)];ie h (λc2 h=>bq h zA [aB c2]) λc2 h=>bq h zA [aB c2]) λc0 h=>ie h (λc1 h=>ra (ayg n h) [dg c0,aV c1]) λc1 h=>ie h (λc2 h=>ra (ayg n h) [dg c0,aV c1,aV c2]) λc2 h=>rr h [dg c0,aV c1,aV c2]
def aid:=aiZ
def aEL (n:Nat):KK (Cx E0 194 dR bC) ali (aid n):=λ_ _ _ _ h=>ca (X:=x194) (aKQ n h)
def x173:=fx E0 Tryz.f173 []
def NJ:=Ax x173 cP bC
def Y8:=Cx E0 173 cP bC
def WO (fy params1:aP) (t70 t71:Int) (b5:aj):LS:=⟨[(0,.slice 3 1 fy.length (dJ fy)),(1,.slice 3 1 params1.length (dJ params1)),aX 5,(70,iI t70),(71,iI t71)],[(5,kM (fR b5))]⟩
def WN:LS:=⟨[],[]⟩
def aGY (fy params1:aP) (b5:aj):LS:=⟨[(0,.slice 3 1 fy.length (dJ fy)),(1,.slice 3 1 params1.length (dJ params1)),aX 5],[(5,kM (fR b5))]⟩
def sC (fy params1:aP) (p2:aj):LS:=⟨[(0,.slice 3 1 fy.length (dJ fy)),(1,.slice 3 1 params1.length (dJ params1)),(2,.agg (fR p2))],[]⟩
def UK (lh:aho) (aA:Z Bool) (back:aP->aP->Int->Int->aj->Z Bool) (n:Nat) (fy params1:aP) (t70 t71:Int) (b5:aj):Z Bool:=
 if iL (t71<t70) then
 (idx b5.fArgs t71).bind λx9=>(lh fy params1 x9).bind λjd=>if !jd then
 V I
 else
 back fy params1 t70 (aW (t71+1)) b5
 else
 aA
def aLx {lh} (ue:KK Y8 sC lh) {aA} (aU:KK (NJ [1,1,1,1]) WN aA) {back} (aK:KK (NJ (aI 87)) WO back) (n:Nat):KK (NJ (aI 87)) WO (UK lh aA back n):=λ_ _ _ _ _ r h=>ie h (λc0 h=>be h λ_ iS h=>be h λ_ hI h=>let zA:SE:=[aB c0,(7,eR.idx iS),sf (ue hI)];ie h (λc1 h=>bq h zA [aB c1]) λc1 h=>cB (aK h) zA [aB c1]) λc0 h=>ra (aU h) [aB c0]
def EH (lh:aho) (aA:Z Bool):Nat->aP->aP->Int->Int->aj->Z Bool
 |0=>dv.z
 |n+1=>UK lh aA (EH lh aA n) n
def awu {lh} (ue:KK Y8 sC lh) {aA} (aU:KK (NJ [1,1,1,1]) WN aA):∀n:Nat,KK (NJ (aI 87)) WO (EH lh aA n)
 |0=>KC.h
 |n+1=>aLx ue aU (awu ue aU n) n
def ajo (lh:aho) (n:Nat):Z Bool:=
 V M
def aLw {lh} (ue:KK Y8 sC lh) (n:Nat):KK (NJ [1,1,1,1]) WN (ajo lh n):=λr h=>rr h []
def IZ (lh:aho) (n:Nat) (fy params1:aP) (b5:aj):Z Bool:=
 (YV n b5).bind λx2=>if !x2 then
 V I
 else
 EH lh (ajo lh n) n fy params1 (b5.fArgs.length:Int) 0 b5
def ahe {lh} (ue:KK Y8 sC lh) (n:Nat):KK (NJ [1,1]) aGY (IZ lh n):=λ_ _ _ r h=>be h λ_ di h=>ie h (λc0 h=>rr h [sf (aaO n di),aB c0]) λc0 h=>ra (awu ue (aLw ue n) n h) [sf (aaO n di),aB c0]
def ajn (lh:aho) (n:Nat) (fy params1:aP) (p2:aj):Z Bool:=
 if p2.bf==1 then
 (YV n p2).bind λx8=>if x8 then
 V ((p2.fArgs.length:Int)==0)
 else
 V I
 else
 if p2.bf==2 then
 (YV n p2).bind λeN=>if eN then
 V ((p2.fArgs.length:Int)==0)
 else
 V I
 else
 if p2.bf==3 then
 (aid n fy params1 p2.cO).bind λfT=>if (p2.fArgs.length:Int)==0 then
 if !iL (p2.fA<1) then
 if !iL (6<p2.fA) then
 if fT !=0 then
 (aid n fy params1 p2.cj).bind λE4=>V (fT==E4)
 else
 V I
 else
 V I
 else
 V I
 else
 V I
 else
 if p2.bf==4 then
 IZ lh n fy params1 p2
 else
 if p2.bf==5 then
 IZ lh n fy params1 p2
 else
 if p2.bf==6 then
 if (p2.fArgs.length:Int) !=1 then
 V I
 else
 IZ lh n fy params1 p2
 else
 V I
def aLv {lh} (ue:KK Y8 sC lh) (n:Nat):KK (NJ []) sC (ajn lh n):=λ_ _ _ r h=>ie h (λc0 h=>be h λ_ lN h=>let zA:SE:=[bk c0,im (aaO n lN)];ie h (λc1 bE=>by subst c1;exact (rr bE zA)) λc1 bE=>by subst c1;exact (rr bE zA)) λc0 h=>let zA:SE:=[bk c0];ie h (λc1 h=>be h λ_ iK h=>let zB:SE:=dk zA [aV c1,im (aaO n iK)];ie h (λc2 bE=>by subst c2;exact (rr bE zB)) λc2 bE=>by subst c2;exact (rr bE zB)) λc1 h=>let zB:SE:=dk zA [aV c1];ie h (λc2 h=>be h λ_ kU h=>let zC:SE:=dk zB [aV c2,mw (aEL n kU)];ie h (λc3 h=>let zD:SE:=dk zC [bk c3];ie h (λc4 h=>ie h (λc5 h=>ie h (λc6 h=>be h λ_ QU h=>bq h zD [aZ c4,bk c5,aZ c6,yM (aEL n QU)]) λc6 h=>bq h zD [aZ c4,bk c5,aZ c6]) λc5 h=>bq h zD [aZ c4,bk c5]) λc4 h=>bq h zD [aZ c4]) λc3 h=>bq h zC [bk c3]) λc2 h=>let zC:SE:=dk zB [aV c2];ie h (λc3 h=>cB (ahe ue n h) zC [aV c3]) λc3 h=>let zD:SE:=dk zC [aV c3];ie h (λc4 h=>cB (ahe ue n h) zD [aV c4]) λc4 h=>ie h (λc5 h=>ie h (λc6 h=>bq h zD [aV c4,aV c5,bk c6]) λc6 h=>cB (ahe ue n h) zD [aV c4,aV c5,bk c6]) λc5 h=>bq h zD [aV c4,aV c5]
def M7:Nat->aP->aP->aj->Z Bool
 |0,_,_,_=>G
 |n+1,fy,params1,p2=>ajn (M7 n) n fy params1 p2
def aEV:∀n:Nat,KK Y8 sC (M7 n)
 |0=>λ_ _ _ _ h=>nz h
 |n+1=>λ_ _ _ _ h=>ca (X:=x173) (aLv (aEV n) n h)
def x135:=fx E0 Tryz.f135 []
def A135:=Ax x135 dR bC
def ajV (n:Nat) (fy params1:aP) (p2:aj):Z Int:=
 (ail n fy).bind λx4=>if !x4 then
 V 1
 else
 (ail n params1).bind λx9=>if !x9 then
 V 1
 else
 (YZ n p2 0).bind λiv=>if iL (24<iv) then
 V 2
 else
 (M8 n p2 8).bind λkO=>if kO then
 V 2
 else
 (M7 n fy params1 p2).bind λfK=>if !fK then
 V 50
 else
 V 0
def aNr (n:Nat):KK (A135 []) sC (ajV n):=λ_ _ _ r h=>be h λ_ iF h=>let zA:SE:=[j3 (aEY n iF)];ie h (λc0 h=>bq h zA [aB c0]) λc0 h=>be h λ_ iS h=>let zB:SE:=dk zA [aB c0,im (aEY n iS)];ie h (λc1 h=>bq h zB [aB c1]) λc1 h=>be h λ_ iC h=>let zC:SE:=dk zB [aB c1,im (aEX n iC)];ie h (λc2 h=>bq h zC [aB c2]) λc2 h=>be h λ_ mV h=>let zD:SE:=dk zC [aB c2,im (aEW n mV)];ie h (λc3 bE=>by subst c3;exact (rr bE zD)) λc3 bE=>by subst c3;exact (be bE λfK ki bE=>let zE:SE:=dk zD [j2 (aEV n ki)];ie bE (λc4 bE=>bq bE zE [aB c4]) λc4 bE=>bq bE zE [aB c4])
def aiD:=ajV
def aFk (n:Nat):KK (Cx E0 135 dR bC) sC (aiD n):=λ_ _ _ _ h=>ca (X:=x135) (aNr n h)
def x92:=fx E0 Tryz.f92 [0]
def A92:=Ax x92 Sr Ou
def asN (n:Nat) (c0:aN) (dO params2:aP) (nC:Int):Z (aj×aN):=
 (EX n c0 dO params2 nC).bind λx6=>(aiD n dO params2 x6.1).bind λdC=>if dC==2 then
 (EX n x6.2 dO params2 1).bind λkO=>V (kO.1,kO.2)
 else
 V (x6.1,x6.2)
def aRo (n:Nat):KK (A92 []) sD (asN n):=λ_ _ _ _ r h=>be h λ_ jL h=>be h λ_ fE h=>let zA:SE:=[(5,.call (aqB n jL) [(0,0)] []),mw (aFk n fE)];ie h (λdu h=>be h λ_ mV h=>bq h zA [aB du,(3,.call (aqB n mV) [(0,0)] [])]) λdu h=>bq h zA [aB du]
def F92:=asN
def ev92 (n:Nat):KK (Cx E0 92 Sr Ou) sD (F92 n):=λ_ _ _ _ _ h=>ca (X:=x92) (aRo n h)
def aDf (r:(ae×aN)):AV:=.agg (cI r.1)
def avJ (r:(ae×aN)):List (Nat×Bx):= (sG (fg r.2))
def x38:=fx E0 Tryz.f38 [0]
def A38:=Ax x38 aDf avJ
def aJy (b0:aN) (b2 b5:ae) (cS:bw):LS:=⟨[aX 0,aX 2,aX 5],[(0,mD (fg b0)),(2,afd),(5,Yb b5 cS.length),(32,.rows I 44 5 (dF cS))]⟩
def auB (n3:Int) (b0:aN) (b2 b5:ae) (cS:bw):LS:=⟨[aX 0,aX 2,(3,bH n3),aX 5],[(0,mD (fg b0)),(2,afd),(5,Yb b5 cS.length),(32,.rows I 44 5 (dF cS))]⟩
def aJx (n3 id4:Int) (b0:aN) (b2:ae):LS:=⟨[aX 0,aX 2,(3,bH n3),(4,bH id4)],[(0,mD (fg b0)),(2,afd)]⟩
def KG (n:Nat) (b0:aN) (b2 b5:ae) (cS:bw):Z (ae×aN):=
 (Cu n b0 3).bind λx2=>if x2.1 then
 (F50 n (ae.mk b5.ay cS) 1).bind λx8=>(F92 n x2.2 x8 [] 1).bind λeN=>(dX cS.length 1).bind λdC=>(cS[0+dC]?).bind λgd=>(setAt cS (0+dC) (ai.mk gd.aM gd.ag gd.aH gd.ar [eN.1])).bind λz18=>V ((ae.mk b5.ay z18),eN.2)
 else
 V ((ae.mk b5.ay cS),x2.2)
def aro (n:Nat):KK (A38 (aI 1023)) aJy (KG n):=λ_ _ b5 cS r h=>be h λ_ di h=>ie h (λdu h=>be h λx8 lN h=>be h λeN iK h=>be h λ_ fE h=>be h λ_ iB h=>be h λz18 Yp h=>rr h [(1,.call (cb (qi n di) du) [(0,0)] []),(4,.AS (aqv n lN) [cm.er 32 cS] (R3.noDR (λ_=>by kernel_rfl) x8) [] [(80,bA)] [R3.er 80 x8]),(0,.call (ev92 n iK) [(0,0)] []),(0,.laid (bF (Bx.rows I 107 13) (eR.map [eN.1]).symm)),(0,cX fE),(1,cm.hol 4 iB),(0,eR.er 82 [eN.1]),(0,cm.clo 32 4 (.slice 107 13 [eN.1].length (dP [eN.1])) .undef iB Yp),(2,.seq 77 (bF (AV.ms 32 5 0) (ey Yp))),(0,.seq 79 (bF (λn_=>(AV.agg [q4_ b5,.ms 32 5 0 n_])) (ey Yp))),(0,.seq 85 (bF (λn_=>(AV.agg [q4_ b5,.ms 32 5 0 n_])) (ey Yp))),(0,.beq 2 (bF (Yb b5) (ey Yp))),(0,.beq 5 (bF (Yb b5) (ey Yp))),(0,cm.er 32 z18)]) λdu h=>rr h [(1,.call (cb (qi n di) du) [(0,0)] []),(2,cm.er 32 cS)]
def F7 (n:Nat) (n3:Int) (b0:aN) (b2 b5:ae) (cS:bw):Z (ae×aN):=
 if iL (3<n3) then
 (Cu n b0 3).bind λx5=>if x5.1 then
 (dX cS.length 3).bind λdC=>(cS[0+dC]?).bind λgd=>(setAt cS (0+dC) (ai.mk gd.aM gd.ag gd.aH [(bl.mk [0] 1)] gd.aL)).bind λwP=>KG n x5.2 (ae.mk 0 []) (ae.mk b5.ay wP) wP
 else
 KG n x5.2 (ae.mk 0 []) (ae.mk b5.ay cS) cS
 else
 KG n b0 (ae.mk 0 []) (ae.mk b5.ay cS) cS
def arn (n:Nat):KK (A38 (aI 511)) auB (F7 n):=λ_ _ _ b5 _ r h=>ie h (λdu h=>be h λ_ ic h=>ie h (λc1 h=>be h λ_ fE h=>be h λ_ iB h=>be h λ_ ow h=>ra (aro n h) [aV du,(2,.call (cb (qi n ic) c1) [(0,0)] []),(5,R3.er 69 [0]),(1,cX fE),(1,fj.er 71 [(bl.mk [0] 1)]),(0,cm.uR 3 [.slice 121 2 [(bl.mk [0] 1)].length (eo [(bl.mk [0] 1)])] iB ow),(0,.beq 5 (bF (Yb b5) (ey ow)))]) λc1 h=>ra (aro n h) [aV du,(2,.call (cb (qi n ic) c1) [(0,0)] [])]) λdu h=>ra (aro n h) [aV du]
def KD (n:Nat) (n3:Int) (b0:aN) (b2 b5:ae) (cS:bw):Z (ae×aN):=
 if iL (2<n3) then
 (Cu n b0 3).bind λx5=>if x5.1 then
 (dX cS.length 2).bind λdC=>(cS[0+dC]?).bind λgd=>(setAt cS (0+dC) (ai.mk gd.aM gd.ag gd.aH [(bl.mk [0] 0)] gd.aL)).bind λwP=>F7 n n3 x5.2 (ae.mk 0 []) (ae.mk b5.ay wP) wP
 else
 F7 n n3 x5.2 (ae.mk 0 []) (ae.mk b5.ay cS) cS
 else
 F7 n n3 b0 (ae.mk 0 []) (ae.mk b5.ay cS) cS
def aFP (n:Nat):KK (A38 (aI 255)) auB (KD n):=λ_ _ _ b5 _ r h=>ie h (λdu h=>be h λ_ ic h=>ie h (λc1 h=>be h λ_ fE h=>be h λ_ iB h=>be h λ_ ow h=>ra (arn n h) [aV du,(2,.call (cb (qi n ic) c1) [(0,0)] []),(5,R3.er 56 [0]),(1,cX fE),(1,fj.er 58 [(bl.mk [0] 0)]),(0,cm.uR 3 [.slice 121 2 [(bl.mk [0] 0)].length (eo [(bl.mk [0] 0)])] iB ow),(0,.beq 5 (bF (Yb b5) (ey ow)))]) λc1 h=>ra (arn n h) [aV du,(2,.call (cb (qi n ic) c1) [(0,0)] [])]) λdu h=>ra (arn n h) [aV du]
def Uf (n:Nat) (n3 id4:Int) (b0:aN) (b2:ae):Z (ae×aN):=
 (qJ n b0 3).bind λx2=>(EV n (Bk #[105,100]) 4).bind λx4=>(EV n (Bk #[111,119,110,101,114]) 4).bind λx6=>(EV n (Bk #[105,100]) id4).bind λdN=>(EV n (Bk #[112,114,111,106,101,99,116]) 4).bind λdC=>(EV n (Bk #[116,105,116,108,101]) 5).bind λfT=>(EV n (Bk #[100,111,110,101]) 3).bind λiQ=>(EV n (Bk #[112,114,111,106,101,99,116]) 4).bind λnh=>(EV n (Bk #[112,101,114,115,111,110]) 4).bind λiP=>(EV n (Bk #[116,97,115,107]) id4).bind λpL=>(rR 4 n3).bind λuO=>(Cu n x2.2 2).bind λDu=>if Du.1 then
 (dX uO 1).bind λx51=>([(ai.mk (Bk #[112,114,111,106,101,99,116,115]) [x4,x6] 1 [] []),(ai.mk (Bk #[116,97,115,107,115]) [dN,dC,fT,iQ] 1 [] []),(ai.mk (Bk #[109,101,109,98,101,114,115]) [nh,iP] 2 [] []),(ai.mk (Bk #[97,114,99,104,105,118,101,100]) [pL] 1 [] [])][0+x51]?).bind λLj=>(setAt [(ai.mk (Bk #[112,114,111,106,101,99,116,115]) [x4,x6] 1 [] []),(ai.mk (Bk #[116,97,115,107,115]) [dN,dC,fT,iQ] 1 [] []),(ai.mk (Bk #[109,101,109,98,101,114,115]) [nh,iP] 2 [] []),(ai.mk (Bk #[97,114,99,104,105,118,101,100]) [pL] 1 [] [])] (0+x51) (ai.mk Lj.aM Lj.ag Lj.aH [(bl.mk [1] 0)] Lj.aL)).bind λz55=>KD n n3 Du.2 (ae.mk 0 []) (ae.mk x2.1 (z55.take uO)) (z55.take uO)
 else
 KD n n3 Du.2 (ae.mk 0 []) (ae.mk x2.1 ([(ai.mk (Bk #[112,114,111,106,101,99,116,115]) [x4,x6] 1 [] []),(ai.mk (Bk #[116,97,115,107,115]) [dN,dC,fT,iQ] 1 [] []),(ai.mk (Bk #[109,101,109,98,101,114,115]) [nh,iP] 2 [] []),(ai.mk (Bk #[97,114,99,104,105,118,101,100]) [pL] 1 [] [])].take uO)) ([(ai.mk (Bk #[112,114,111,106,101,99,116,115]) [x4,x6] 1 [] []),(ai.mk (Bk #[116,97,115,107,115]) [dN,dC,fT,iQ] 1 [] []),(ai.mk (Bk #[109,101,109,98,101,114,115]) [nh,iP] 2 [] []),(ai.mk (Bk #[97,114,99,104,105,118,101,100]) [pL] 1 [] [])].take uO)
def aFO (n:Nat):KK (A38 [1,1,1,1]) aJx (Uf n):=λ_ _ _ _ r h=>be h λx2 di h=>be h λx4 iF h=>be h λx6 jL h=>be h λdN fN h=>be h λdC fE h=>be h λfT kU h=>be h λiQ iJ h=>be h λnh o7 h=>be h λiP o6 h=>be h λpL sO h=>be h λuO D4 h=>be h λ_ Yq h=>let zA:SE:=[(1,.call (nW n di) [(0,0)] []),iX (El n iF),iX (El n jL),j3 (El n fN),iX (El n fE),iX (El n kU),iX (El n iJ),im (El n o7),iX (El n o6),j3 (El n sO),(2,eW.er 15 [x4,x6]),(0,.tU 16 (.agg (y6 3 [.sl 0 121 2 0 [],.sl 0 107 13 0 []]))),(0,eW.er 22 [dN,dC,fT,iQ]),(0,.tU 23 (.agg (y6 3 [.sl 0 121 2 0 [],.sl 0 107 13 0 []]))),(0,eW.er 26 [nh,iP]),(0,.tU 27 (.agg (y6 3 [.sl 0 121 2 0 [],.sl 0 107 13 0 []]))),(0,eW.er 30 [pL]),(0,.tU 31 (.agg (y6 3 [.sl 0 121 2 0 [],.sl 0 107 13 0 []]))),(7,cm.rR (xs:= [(ai.mk (Bk #[112,114,111,106,101,99,116,115]) [x4,x6] 1 [] []),(ai.mk (Bk #[116,97,115,107,115]) [dN,dC,fT,iQ] 1 [] []),(ai.mk (Bk #[109,101,109,98,101,114,115]) [nh,iP] 2 [] []),(ai.mk (Bk #[97,114,99,104,105,118,101,100]) [pL] 1 [] [])]) D4 (tp rfl))];ie h (λdu h=>be h λ_ hx51 h=>be h λ_ aAJ h=>be h λz55 hz55 h=>cB (aFP n h) zA [(3,.call (cb (qi n Yq) du) [(0,0)] []),(4,R3.er 43 [1]),(1,cX hx51),(1,fj.er 45 [(bl.mk [1] 0)]),(0,cm.uR 3 [.slice 121 2 [(bl.mk [1] 0)].length (eo [(bl.mk [1] 0)])] aAJ hz55),(0,.shr 32 (cm.take z55 uO)),(0,.beq 5 (bF (λn_=>(Bx.flat 25 [bH x2.1,.ms 32 5 0 n_])) ((xW (xs:=z55) (kY (kY (ti D4).2 (tp rfl)) (tp (ey hz55)))).symm)))]) λdu h=>cB (aFP n h) zA [(3,.call (cb (qi n Yq) du) [(0,0)] []),(0,.shr 32 (cm.take [(ai.mk (Bk #[112,114,111,106,101,99,116,115]) [x4,x6] 1 [] []),(ai.mk (Bk #[116,97,115,107,115]) [dN,dC,fT,iQ] 1 [] []),(ai.mk (Bk #[109,101,109,98,101,114,115]) [nh,iP] 2 [] []),(ai.mk (Bk #[97,114,99,104,105,118,101,100]) [pL] 1 [] [])] uO)),(0,.beq 5 (bF (λn_=>(Bx.flat 25 [bH x2.1,.ms 32 5 0 n_])) ((xW (xs:= [(ai.mk (Bk #[112,114,111,106,101,99,116,115]) [x4,x6] 1 [] []),(ai.mk (Bk #[116,97,115,107,115]) [dN,dC,fT,iQ] 1 [] []),(ai.mk (Bk #[109,101,109,98,101,114,115]) [nh,iP] 2 [] []),(ai.mk (Bk #[97,114,99,104,105,118,101,100]) [pL] 1 [] [])]) (kY (ti D4).2 (tp rfl))).symm)))]
def atw (n:Nat) (c0:aN):Z (ae×aN):=
 (qJ n c0 3).bind λx3=>(Cu n x3.2 5).bind λx9=>if x9.1 then
 Uf n (aW (2+x3.1)) 5 x9.2 (ae.mk 0 [])
 else
 Uf n (aW (2+x3.1)) 4 x9.2 (ae.mk 0 [])
def aTd (n:Nat):KK (A38 []) yc (atw n):=λ_ r h=>be h λ_ eM h=>be h λ_ iS h=>let zA:SE:=[(2,.call (nW n eM) [(0,0)] [])];ie h (λdu h=>cB (aFO n h) zA [(4,.call (cb (qi n iS) du) [(0,0)] [])]) λdu h=>cB (aFO n h) zA [(4,.call (cb (qi n iS) du) [(0,0)] [])]
def F38:=atw
def ev38 (n:Nat):KK (Cx E0 38 aDf avJ) yc (F38 n):=λ_ _ h=>ca (X:=x38) (aTd n h)
def x174:=fx E0 Tryz.f174 []
def KI:=Ax x174 cP bC
def aGX (s0:U) (i3:Int) (t49:Bool):LS:=⟨[(0,.str s0),(3,bH i3),(49,.bool t49)],[]⟩
def N4 (s0:U) (i3:Int):LS:=⟨[(0,.str s0),(3,bH i3)],[]⟩
def WM:LS:=⟨[],[]⟩
def C7 (s0:U):LS:=⟨[(0,.str s0)],[]⟩
def zi (aA:Wt5_) (n:Nat) (s0:U) (i3:Int) (t49:Bool):Z Bool:=
 if t49 then
 V I
 else
 aA s0 (aW (i3+1))
def EB {aA} (aU:KK (KI [0,1,0,1,1]) N4 aA) (n:Nat):KK (KI (aI 3659)) aGX (zi aA n):=λ_ _ _ r h=>ie h (λc0 bE=>by subst c0;exact (rr bE [])) λc0 bE=>by subst c0;exact (ra (aU bE) [])
def UJ (bh:Z Bool) (back:Wt5_) (n:Nat) (s0:U) (i3:Int):Z Bool:=
 if iL (i3<(s0.size:Int)) then
 (Gy s0 i3).bind λx7=>if iL ((x7.toNat:Int)<97) then
 if iL ((x7.toNat:Int)<48) then
 zi back n s0 i3 ((x7.toNat:Int) !=95)
 else
 if iL (57<(x7.toNat:Int)) then
 zi back n s0 i3 ((x7.toNat:Int) !=95)
 else
 zi back n s0 i3 I
 else
 if iL (122<(x7.toNat:Int)) then
 if iL ((x7.toNat:Int)<48) then
 zi back n s0 i3 ((x7.toNat:Int) !=95)
 else
 if iL (57<(x7.toNat:Int)) then
 zi back n s0 i3 ((x7.toNat:Int) !=95)
 else
 zi back n s0 i3 I
 else
 zi back n s0 i3 I
 else
 bh
def aLu {bh} (cF:KK (KI [1,1,1]) WM bh) {back} (aK:KK (KI [0,1,0,1,1]) N4 back) (n:Nat):KK (KI [0,1,0,1,1]) N4 (UJ bh back n):=λ_ _ r h=>ie h (λc0 h=>be h λ_ iE h=>let zA:SE:=[aZ c0,(2,.chr (iE))];ie h (λc1 h=>ie h (λc2 h=>cB (EB aK n h) zA [aQ c1,bk c2]) λc2 h=>ie h (λc3 h=>cB (EB aK n h) zA [aQ c1,bk c2,aQ c3]) λc3 h=>cB (EB aK n h) zA [aQ c1,bk c2,aQ c3]) λc1 h=>let zB:SE:=dk zA [aQ c1];ie h (λc2 h=>ie h (λc3 h=>cB (EB aK n h) zB [aQ c2,aZ c3]) λc3 h=>ie h (λc4 h=>cB (EB aK n h) zB [aQ c2,aZ c3,aQ c4]) λc4 h=>cB (EB aK n h) zB [aQ c2,aZ c3,aQ c4]) λc2 h=>cB (EB aK n h) zB [aQ c2]) λc0 h=>ra (cF h) [aZ c0]
def BJ (bh:Z Bool):Nat->U->Int->Z Bool
 |0=>dv.z
 |n+1=>UJ bh (BJ bh n) n
def awt {bh} (cF:KK (KI [1,1,1]) WM bh):∀n:Nat,KK (KI [0,1,0,1,1]) N4 (BJ bh n)
 |0=>KC.h
 |n+1=>aLu cF (awt cF n) n
def IY (n:Nat):Z Bool:=
 V M
def aLt (n:Nat):KK (KI [1,1,1]) WM (IY n):=λr h=>rr h []
def ajm (n:Nat) (s0:U):Z Bool:=
 if (s0.size:Int)==0 then
 V I
 else
 if iL (32<(s0.size:Int)) then
 V I
 else
 (Gy s0 0).bind λjd=>if iL ((jd.toNat:Int)<97) then
 V I
 else
 (Gy s0 0).bind λja=>if iL (122<(ja.toNat:Int)) then
 V I
 else
 BJ (IY n) n s0 0
def aLs (n:Nat):KK (KI []) C7 (ajm n):=λ_ r h=>ie h (λc0 h=>rr h [aZ c0]) λc0 h=>ie h (λc1 h=>rr h [aZ c0,aZ c1]) λc1 h=>be h λ_ hI h=>let zA:SE:=[aZ c0,aZ c1,(3,.chr (hI))];ie h (λc2 h=>bq h zA [aB c2]) λc2 h=>be h λ_ jN h=>ie h (λc3 h=>bq h zA [aB c2,(3,.chr (jN)),aB c3]) λc3 h=>cB (awt (aLt n) n h) zA [aB c2,(3,.chr (jN)),aB c3]
def aik:=ajm
def aEU (n:Nat):KK (Cx E0 174 cP bC) C7 (aik n):=λ_ _ h=>ca (X:=x174) (aLs n h)
def x138:=fx E0 Tryz.f138 []
def sZ:=Ax x138 cP bC
def Xx (i1 k6:Int) (b2:ae) (b5:ai):LS:=⟨[(1,bH i1),aX 2,aX 5,(6,bH k6)],[(2,iU (cI b2)),(5,gP (jv b5))]⟩
def Xw (c7 k8 t53 t54:Int) (t67:cY) (t68:Int) (t69 t70:cA) (t71:Int) (t72:Bool) (b5:ai):LS:=⟨[aX 5,(7,iI c7),(8,iI k8),(53,iI t53),(54,iI t54),(66,.loc 5 1),(67,.slice 73 2 t67.length (eD t67)),(68,iI t68),(69,.kh (J0 t69)),(70,.kh [bH t70.aD]),(71,iI t71),(72,.bool t72),(73,.bool I)],[(5,gP (jv b5))]⟩
def Xv (t53 t54:Int) (t67:cY) (t68:Int) (t69 t70:cA) (t71:Int) (t72:Bool) (b5:ai):LS:=⟨[aX 5,(53,iI t53),(54,iI t54),(66,.loc 5 1),(67,.slice 73 2 t67.length (eD t67)),(68,iI t68),(69,.kh (J0 t69)),(70,.kh [bH t70.aD]),(71,iI t71),(72,.bool t72),(73,.bool I)],[(5,gP (jv b5))]⟩
def Od (t53 t54:Int) (b5:ai):LS:=⟨[aX 5,(53,bH t53),(54,bH t54)],[(5,gP (jv b5))]⟩
def Xu:LS:=⟨[],[]⟩
def Xt (b5:ai):LS:=⟨[aX 5],[(5,gP (jv b5))]⟩
def Oc (s0:ae) (i1:Int):LS:=⟨[(0,.agg (cI s0)),(1,bH i1)],[]⟩
def Vx (eO:ai->Z Bool) (back:Int->Int->ae->ai->Z Bool) (n:Nat) (i1 k6:Int) (b2:ae) (b5:ai):Z Bool:=
 if iL (k6<i1) then
 (idx b2.ah k6).bind λx7=>if iL (x7.aM=b5.aM) then
 V I
 else
 back i1 (aW (k6+1)) b2 b5
 else
 eO b5
def aNk {eO} (iD:KK (sZ [1,1,1,1]) Xt eO) {back} (aK:KK (sZ (aI 87)) Xx back) (n:Nat):KK (sZ (aI 87)) Xx (Vx eO back n):=λ_ _ _ _ r h=>ie h (λc0 h=>be h λ_ iE h=>ie h (λc1 h=>rr h [aQ c0,(3,cm.idx iE),bk c1]) λc1 h=>ra (aK h) [aQ c0,(3,cm.idx iE),bk c1]) λc0 h=>ra (iD h) [aQ c0]
def IB (eO:ai->Z Bool):Nat->Int->Int->ae->ai->Z Bool
 |0=>dv.z
 |n+1=>Vx eO (IB eO n) n
def awY {eO} (iD:KK (sZ [1,1,1,1]) Xt eO):∀n:Nat,KK (sZ (aI 87)) Xx (IB eO n)
 |0=>KC.h
 |n+1=>aNk iD (awY iD n) n
def Vw (bh:Wf7) (back:Int->Int->Int->Int->cY->Int->cA->cA->Int->Bool->ai->Z Bool) (n:Nat) (c7 k8 t53 t54:Int) (t67:cY) (t68:Int) (t69 t70:cA) (t71:Int) (t72:Bool) (b5:ai):Z Bool:=
 if iL (k8<c7) then
 (idx b5.ag k8).bind λx7=>(idx b5.ag c7).bind λiv=>if iL (x7.aM=iv.aM) then
 V I
 else
 back c7 (aW (k8+1)) t53 t54 t67 t68 t69 t70 t71 t72 b5
 else
 bh t53 t54 t67 t68 t69 t70 t71 t72 b5
def aNj {bh} (cF:KK (sZ (aI 3887)) Xv bh) {back} (aK:KK (sZ (aI 95023)) Xw back) (n:Nat):KK (sZ (aI 95023)) Xw (Vw bh back n):=λ_ _ _ _ _ _ _ _ _ _ _ r h=>ie h (λc0 h=>be h λ_ iE h=>be h λ_ iC h=>let zA:SE:=[aQ c0,(3,eW.idx iE),(5,eW.idx iC)];ie h (λc1 h=>bq h zA [aQ c1]) λc1 h=>cB (aK h) zA [aQ c1]) λc0 h=>ra (cF h) [aQ c0]
def IA (bh:Wf7):Nat->Int->Int->Int->Int->cY->Int->cA->cA->Int->Bool->ai->Z Bool
 |0=>dv.z
 |n+1=>Vw bh (IA bh n) n
def awX {bh} (cF:KK (sZ (aI 3887)) Xv bh):∀n:Nat,KK (sZ (aI 95023)) Xw (IA bh n)
 |0=>KC.h
 |n+1=>aNj cF (awX cF n) n
def Vv (bn:Wt6_) (n:Nat) (t53 t54:Int) (t67:cY) (t68:Int) (t69 t70:cA) (t71:Int) (t72:Bool) (b5:ai):Z Bool:=
 bn t53 (aW (t54+1)) b5
def aNi {bn} (cM:KK (sZ (aI 175)) Od bn) (n:Nat):KK (sZ (aI 3887)) Xv (Vv bn n):=λ_ _ _ _ _ _ _ _ _ r h=>ra (cM h) []
def Vu (db:Z Bool) (back:Wt6_) (n:Nat) (t53 t54:Int) (b5:ai):Z Bool:=
 if iL (t54<t53) then
 (idx b5.ag t54).bind λx7=>(aik n x7.aM).bind λdN=>if !dN then
 V I
 else
 (idx b5.ag t54).bind λja=>(aij n ja.aD).bind λl7=>if !l7 then
 V I
 else
 IA (Vv back n) n t54 0 t53 t54 b5.ag t54 ja ja ja.aD l7 b5
 else
 db
def aNh {db} (fh:KK (sZ [1,1,1,1,1]) Xu db) {back} (aK:KK (sZ (aI 175)) Od back) (n:Nat):KK (sZ (aI 175)) Od (Vu db back n):=λ_ _ _ r h=>ie h (λc0 h=>be h λ_ iE h=>be h λ_ fN h=>let zA:SE:=[aB c0,(5,eW.idx iE),im (aEU n fN)];ie h (λc1 h=>bq h zA [aB c1]) λc1 h=>be h λ_ jN h=>be h λ_ nr h=>let zB:SE:=dk zA [aB c1,(4,eW.idx jN),im (aET n nr)];ie h (λc2 h=>bq h zB [aB c2]) λc2 h=>cB (awX (aNi aK n) n h) zB [aB c2]) λc0 h=>ra (fh h) [aB c0]
def ER (db:Z Bool):Nat->Int->Int->ai->Z Bool
 |0=>dv.z
 |n+1=>Vu db (ER db n) n
def awW {db} (fh:KK (sZ [1,1,1,1,1]) Xu db):∀n:Nat,KK (sZ (aI 175)) Od (ER db n)
 |0=>KC.h
 |n+1=>aNh fh (awW fh n) n
def Nv (n:Nat):Z Bool:=
 V M
def aNg (n:Nat):KK (sZ [1,1,1,1,1]) Xu (Nv n):=λr h=>rr h []
def Vt (n:Nat) (b5:ai):Z Bool:=
 ER (Nv n) n (b5.ag.length:Int) 0 b5
def aNf (n:Nat):KK (sZ [1,1,1,1]) Xt (Vt n):=λ_ r h=>ra (awW (aNg n) n h) []
def ajS (n:Nat) (s0:ae) (i1:Int):Z Bool:=
 (idx s0.ah i1).bind λx6=>(aik n x6.aM).bind λdC=>if !dC then
 V I
 else
 if (x6.ag.length:Int)==0 then
 V I
 else
 if iL (x6.aH<1) then
 V I
 else
 if iL ((x6.ag.length:Int)<x6.aH) then
 V I
 else
 IB (Vt n) n i1 0 s0 x6
def aNe (n:Nat):KK (sZ []) Oc (ajS n):=λ_ _ r h=>be h λ_ jL h=>be h λ_ fE h=>let zA:SE:=[(5,cm.idx jL),mw (aEU n fE)];ie h (λc0 h=>bq h zA [aB c0]) λc0 h=>let zB:SE:=dk zA [aB c0];ie h (λc1 h=>bq h zB [bk c1]) λc1 h=>ie h (λc2 h=>bq h zB [bk c1,bk c2]) λc2 h=>ie h (λc3 h=>bq h zB [bk c1,bk c2,iO c3]) λc3 h=>cB (awY (aNf n) n h) zB [bk c1,bk c2,iO c3]
def asw:=ajS
def aQv (n:Nat):KK (Cx E0 138 cP bC) Oc (asw n):=λ_ _ _ h=>ca (X:=x138) (aNe n h)
def x139:=fx E0 Tryz.f139 []
def zk:=Ax x139 cP bC
def Xs (t16:bL) (t17 t18 t27:Int) (t29:bw) (t30:Int) (t35:aP) (t36:Int) (t38:bw) (t40:Int) (t41 t42:ai) (t43:Int) (t47:aP) (t48 t49:Int) (b2:ae) (b5:ai) (b7:bl):LS:=⟨[aX 2,aX 5,aX 7,(16,.slice 121 2 t16.length (eo t16)),(17,iI t17),(18,iI t18),(26,.loc 7 1),(27,iI t27),(28,.loc 2 1),(29,.slice 44 5 t29.length (dF t29)),(30,iI t30),(31,.bool I),(34,.loc 7 0),(35,.slice 3 1 t35.length (dJ t35)),(36,iI t36),(37,.loc 2 1),(38,.slice 44 5 t38.length (dF t38)),(39,.loc 7 1),(40,iI t40),(41,.kh (jv t41)),(42,.kh [iI t42.aH,.slice 121 2 t42.ar.length (eo t42.ar),.slice 107 13 t42.aL.length (dP t42.aL)]),(43,iI t43),(44,.bool I),(47,.slice 3 1 t47.length (dJ t47)),(48,iI t48),(49,iI t49)],[(2,iU (cI b2)),(5,gP (jv b5)),(7,.flat 121 (Eo b7))]⟩
def Xr (t16:bL) (t17 t18 t27:Int) (t29:bw) (t30:Int) (t35:aP) (t36:Int) (t38:bw) (t40:Int) (t41 t42:ai) (t43:Int) (b2:ae) (b5:ai) (b7:bl):LS:=⟨[aX 2,aX 5,(16,.slice 121 2 t16.length (eo t16)),(17,iI t17),(18,iI t18),(26,.loc 7 1),(27,iI t27),(28,.loc 2 1),(29,.slice 44 5 t29.length (dF t29)),(30,iI t30),(31,.bool I),(34,.loc 7 0),(35,.slice 3 1 t35.length (dJ t35)),(36,iI t36),(37,.loc 2 1),(38,.slice 44 5 t38.length (dF t38)),(39,.loc 7 1),(40,iI t40),(41,.kh (jv t41)),(42,.kh [iI t42.aH,.slice 121 2 t42.ar.length (eo t42.ar),.slice 107 13 t42.aL.length (dP t42.aL)]),(43,iI t43),(44,.bool I)],[(2,iU (cI b2)),(5,gP (jv b5)),(7,.flat 121 (Eo b7))]⟩
def Ob (t16:bL) (t17 t18:Int) (b2:ae) (b5:ai):LS:=⟨[aX 2,aX 5,(16,.slice 121 2 t16.length (eo t16)),(17,iI t17),(18,iI t18)],[(2,iU (cI b2)),(5,gP (jv b5))]⟩
def Xq:LS:=⟨[],[]⟩
def Vs (aA:Wf8) (back:bL->Int->Int->Int->bw->Int->aP->Int->bw->Int->ai->ai->Int->aP->Int->Int->ae->ai->bl->Z Bool) (n:Nat) (t16:bL) (t17 t18 t27:Int) (t29:bw) (t30:Int) (t35:aP) (t36:Int) (t38:bw) (t40:Int) (t41 t42:ai) (t43:Int) (t47:aP) (t48 t49:Int) (b2:ae) (b5:ai) (b7:bl):Z Bool:=
 if iL (t49<t48) then
 (idx t47 t49).bind λx3=>if iL (x3<0) then
 V I
 else
 if !iL (x3<(b5.ag.length:Int)) then
 V I
 else
 (idx b5.ag x3).bind λnh=>(idx b2.ah b7.av).bind λx29=>(idx x29.ag t49).bind λKN=>if nh.aD !=KN.aD then
 V I
 else
 back t16 t17 t18 t27 t29 t30 t35 t36 t38 t40 t41 t42 t43 t47 t48 (aW (t49+1)) b2 b5 b7
 else
 aA t16 t17 t18 t27 t29 t30 t35 t36 t38 t40 t41 t42 t43 b2 b5 b7
def aNd {aA} (aU:KK (zk (aI 971)) Xr aA) {back} (aK:KK (zk (aI 23755)) Xs back) (n:Nat):KK (zk (aI 23755)) Xs (Vs aA back n):=λ_ _ _ _ _ _ _ _ _ _ _ _ _ _ _ _ _ _ _ r h=>ie h (λc0 h=>be h λ_ eM h=>let zA:SE:=[aB c0,(1,R3.idx eM)];ie h (λc1 h=>bq h zA [bk c1]) λc1 h=>ie h (λc2 h=>bq h zA [bk c1,bP c2]) λc2 h=>be h λ_ o7 h=>be h λ_ QW h=>be h λ_ Mc h=>let zB:SE:=dk zA [bk c1,bP c2,(5,eW.idx o7),(6,cm.idx QW),(3,eW.idx Mc)];ie h (λc3 h=>bq h zB [aQ c3]) λc3 h=>cB (aK h) zB [aQ c3]) λc0 h=>ra (aU h) [aB c0]
def Iz (aA:Wf8):Nat->bL->Int->Int->Int->bw->Int->aP->Int->bw->Int->ai->ai->Int->aP->Int->Int->ae->ai->bl->Z Bool
 |0=>dv.z
 |n+1=>Vs aA (Iz aA n) n
def awV {aA} (aU:KK (zk (aI 971)) Xr aA):∀n:Nat,KK (zk (aI 23755)) Xs (Iz aA n)
 |0=>KC.h
 |n+1=>aNd aU (awV aU n) n
def Vr (bh:Wf9) (n:Nat) (t16:bL) (t17 t18 t27:Int) (t29:bw) (t30:Int) (t35:aP) (t36:Int) (t38:bw) (t40:Int) (t41 t42:ai) (t43:Int) (b2:ae) (b5:ai) (b7:bl):Z Bool:=
 bh t16 t17 (aW (t18+1)) b2 b5
def aNc {bh} (cF:KK (zk [0,1,0,1,1]) Ob bh) (n:Nat):KK (zk (aI 971)) Xr (Vr bh n):=λ_ _ _ _ _ _ _ _ _ _ _ _ _ _ _ _ r h=>ra (cF h) []
def Vq (bn:Z Bool) (back:Wf9) (n:Nat) (t16:bL) (t17 t18:Int) (b2:ae) (b5:ai):Z Bool:=
 if iL (t18<t17) then
 (idx t16 t18).bind λx2=>if iL (x2.av<0) then
 V I
 else
 if !iL (x2.av<(b2.ah.length:Int)) then
 V I
 else
 (idx b2.ah x2.av).bind λs8=>if (x2.ag.length:Int) !=s8.aH then
 V I
 else
 Iz (Vr back n) n t16 t17 t18 x2.av b2.ah (b2.ah.length:Int) x2.ag (x2.ag.length:Int) b2.ah x2.av s8 s8 s8.aH x2.ag (x2.ag.length:Int) 0 b2 b5 x2
 else
 bn
def aNb {bn} (cM:KK (zk [1,1,1]) Xq bn) {back} (aK:KK (zk [0,1,0,1,1]) Ob back) (n:Nat):KK (zk [0,1,0,1,1]) Ob (Vq bn back n):=λ_ _ _ _ _ r h=>ie h (λc0 h=>be h λ_ di h=>let zA:SE:=[aB c0,(0,fj.idx di)];ie h (λc1 h=>bq h zA [bP c1]) λc1 h=>ie h (λc2 h=>bq h zA [bP c1,dg c2]) λc2 h=>be h λ_ rQ h=>let zB:SE:=dk zA [bP c1,dg c2,(9,cm.idx rQ)];ie h (λc3 h=>bq h zB [aQ c3]) λc3 h=>cB (awV (aNc aK n) n h) zB [aQ c3]) λc0 h=>ra (cM h) [aB c0]
def EP (bn:Z Bool):Nat->bL->Int->Int->ae->ai->Z Bool
 |0=>dv.z
 |n+1=>Vq bn (EP bn n) n
def awU {bn} (cM:KK (zk [1,1,1]) Xq bn):∀n:Nat,KK (zk [0,1,0,1,1]) Ob (EP bn n)
 |0=>KC.h
 |n+1=>aNb cM (awU cM n) n
def Nu (n:Nat):Z Bool:=
 V M
def aNa (n:Nat):KK (zk [1,1,1]) Xq (Nu n):=λr h=>rr h []
def ajR (n:Nat) (s0:ae) (i1:Int):Z Bool:=
 (idx s0.ah i1).bind λx6=>EP (Nu n) n x6.ar (x6.ar.length:Int) 0 s0 x6
def aMZ (n:Nat):KK (zk []) Oc (ajR n):=λ_ _ r h=>be h λ_ jL h=>ra (awU (aNa n) n h) [(5,cm.idx jL)]
def asv:=ajR
def aQu (n:Nat):KK (Cx E0 139 cP bC) Oc (asv n):=λ_ _ _ h=>ca (X:=x139) (aMZ n h)
def x94:=fx E0 Tryz.f94 []
def pR:=Ax x94 dR bC
def Hh (t16:bw) (t17 t18:Int) (b1:ae):LS:=⟨[aX 1,(16,.slice 44 5 t16.length (dF t16)),(17,iI t17),(18,iI t18)],[(1,iU (cI b1))]⟩
def adu (t49 t50:Int) (b1:ae):LS:=⟨[aX 1,(49,bH t49),(50,bH t50)],[(1,iU (cI b1))]⟩
def adt (t60 t61:Int) (b1:ae):LS:=⟨[aX 1,(60,bH t60),(61,bH t61)],[(1,iU (cI b1))]⟩
def ads (i7 t71 t72:Int) (t80:br) (t81 t82:Int) (b1:ae):LS:=⟨[aX 1,(7,iI i7),(71,iI t71),(72,iI t72),(80,.slice 107 13 t80.length (dP t80)),(81,iI t81),(82,iI t82)],[(1,iU (cI b1))]⟩
def Dz (t71 t72:Int) (b1:ae):LS:=⟨[aX 1,(71,bH t71),(72,bH t72)],[(1,iU (cI b1))]⟩
def adr:LS:=⟨[],[]⟩
def tV (b1:ae):LS:=⟨[aX 1],[(1,iU (cI b1))]⟩
def uz (s0:ae):LS:=⟨[(0,.agg (cI s0))],[]⟩
def aby (k_9:MV) (back:YO) (n:Nat) (t16:bw) (t17 t18:Int) (b1:ae):Z Int:=
 if iL (t18<t17) then
 (idx t16 t18).bind λx2=>if iL (8<(x2.ag.length:Int)) then
 V 2
 else
 if iL (4<(x2.ar.length:Int)) then
 V 2
 else
 if iL (4<(x2.aL.length:Int)) then
 V 2
 else
 back t16 t17 (aW (t18+1)) b1
 else
 k_9 b1
def aRm {k_9} (aqg:KK (pR [1,1,1]) tV k_9) {back} (aK:KK (pR [0,1,0,1,1]) Hh back) (n:Nat):KK (pR [0,1,0,1,1]) Hh (aby k_9 back n):=λ_ _ _ _ r h=>ie h (λc0 h=>be h λ_ di h=>let zA:SE:=[aB c0,(0,cm.idx di)];ie h (λc1 h=>bq h zA [dg c1]) λc1 h=>ie h (λc2 h=>bq h zA [dg c1,bk c2]) λc2 h=>ie h (λc3 h=>bq h zA [dg c1,bk c2,bP c3]) λc3 h=>cB (aK h) zA [dg c1,bk c2,bP c3]) λc0 h=>ra (aqg h) [aB c0]
def Pa (k_9:MV):Nat->bw->Int->Int->ae->Z Int
 |0=>dv.z
 |n+1=>aby k_9 (Pa k_9 n) n
def aDD {k_9} (aqg:KK (pR [1,1,1]) tV k_9):∀n:Nat,KK (pR [0,1,0,1,1]) Hh (Pa k_9 n)
 |0=>KC.h
 |n+1=>aRm aqg (aDD aqg n) n
def abx (yh:MV) (back:YN) (n:Nat) (t49 t50:Int) (b1:ae):Z Int:=
 if iL (t50<t49) then
 (asw n b1 t50).bind λx6=>if !x6 then
 V 70
 else
 back t49 (aW (t50+1)) b1
 else
 yh b1
def aRl {yh} (Mi:KK (pR [1,1,1,1,1]) tV yh) {back} (aK:KK (pR (aI 175)) adu back) (n:Nat):KK (pR (aI 175)) adu (abx yh back n):=λ_ _ _ r h=>ie h (λc0 h=>be h λ_ jL h=>let zA:SE:=[aB c0,j2 (aQv n jL)];ie h (λc1 h=>bq h zA [aB c1]) λc1 h=>cB (aK h) zA [aB c1]) λc0 h=>ra (Mi h) [aB c0]
def O9 (yh:MV):Nat->Int->Int->ae->Z Int
 |0=>dv.z
 |n+1=>abx yh (O9 yh n) n
def aDC {yh} (Mi:KK (pR [1,1,1,1,1]) tV yh):∀n:Nat,KK (pR (aI 175)) adu (O9 yh n)
 |0=>KC.h
 |n+1=>aRl Mi (aDC Mi n) n
def abw (lM:MV) (back:YN) (n:Nat) (t60 t61:Int) (b1:ae):Z Int:=
 if iL (t61<t60) then
 (asv n b1 t61).bind λx6=>if !x6 then
 V 70
 else
 back t60 (aW (t61+1)) b1
 else
 lM b1
def aRk {lM} (tH:KK (pR (aI 127)) tV lM) {back} (aK:KK (pR (aI 351)) adt back) (n:Nat):KK (pR (aI 351)) adt (abw lM back n):=λ_ _ _ r h=>ie h (λc0 h=>be h λ_ jL h=>let zA:SE:=[aB c0,j2 (aQu n jL)];ie h (λc1 h=>bq h zA [aB c1]) λc1 h=>cB (aK h) zA [aB c1]) λc0 h=>ra (tH h) [aB c0]
def O8 (lM:MV):Nat->Int->Int->ae->Z Int
 |0=>dv.z
 |n+1=>abw lM (O8 lM n) n
def aDB {lM} (tH:KK (pR (aI 127)) tV lM):∀n:Nat,KK (pR (aI 351)) adt (O8 lM n)
 |0=>KC.h
 |n+1=>aRk tH (aDB tH n) n
def abv (db:YN) (back:Int->Int->Int->br->Int->Int->ae->Z Int) (n:Nat) (i7 t71 t72:Int) (t80:br) (t81 t82:Int) (b1:ae):Z Int:=
 if iL (t82<t81) then
 (idx t80 t82).bind λx2=>(F50 n b1 i7).bind λx9=>(aiD n x9 [] x2).bind λjd=>if jd !=0 then
 V jd
 else
 back i7 t71 t72 t80 t81 (aW (t82+1)) b1
 else
 db t71 t72 b1
def aRj {db} (fh:KK (pR (aI 15551)) Dz db) {back} (aK:KK (pR (aI 183487)) ads back) (n:Nat):KK (pR (aI 183487)) ads (abv db back n):=λ_ _ _ _ _ _ _ r h=>ie h (λc0 h=>be h λ_ di h=>be h λx9 iS h=>be h λ_ hI h=>let zA:SE:=[aB c0,(0,eR.idx di),(3,.ord [0,1,3,2,4,5]),(3,vD (cd (e:=3) (z:=M) (Q:=dJ x9) (aqv n iS) (R3.len x9))),iX (aFk n hI)];ie h (λc1 h=>bq h zA [aQ c1]) λc1 h=>cB (aK h) zA [aQ c1]) λc0 h=>ra (fh h) [aB c0]
def O7 (db:YN):Nat->Int->Int->Int->br->Int->Int->ae->Z Int
 |0=>dv.z
 |n+1=>abv db (O7 db n) n
def aDA {db} (fh:KK (pR (aI 15551)) Dz db):∀n:Nat,KK (pR (aI 183487)) ads (O7 db n)
 |0=>KC.h
 |n+1=>aRj fh (aDA fh n) n
def abu (eO:YN) (n:Nat) (t71 t72:Int) (b1:ae):Z Int:=
 eO t71 (aW (t72+1)) b1
def aRi {eO} (iD:KK (pR (aI 703)) Dz eO) (n:Nat):KK (pR (aI 15551)) Dz (abu eO n):=λ_ _ _ r h=>ra (iD h) []
def abt (jh:Z Int) (back:YN) (n:Nat) (t71 t72:Int) (b1:ae):Z Int:=
 if iL (t72<t71) then
 (idx b1.ah t72).bind λx7=>O7 (abu back n) n t72 t71 t72 x7.aL (x7.aL.length:Int) 0 b1
 else
 jh
def aRh {jh} (oB:KK (pR (aI 255)) adr jh) {back} (aK:KK (pR (aI 703)) Dz back) (n:Nat):KK (pR (aI 703)) Dz (abt jh back n):=λ_ _ _ r h=>ie h (λc0 h=>be h λ_ iE h=>ra (aDA (aRi aK n) n h) [aB c0,(5,cm.idx iE)]) λc0 h=>ra (oB h) [aB c0]
def Kh (jh:Z Int):Nat->Int->Int->ae->Z Int
 |0=>dv.z
 |n+1=>abt jh (Kh jh n) n
def aDz {jh} (oB:KK (pR (aI 255)) adr jh):∀n:Nat,KK (pR (aI 703)) Dz (Kh jh n)
 |0=>KC.h
 |n+1=>aRh oB (aDz oB n) n
def TZ (n:Nat):Z Int:=
 V 0
def aRg (n:Nat):KK (pR (aI 255)) adr (TZ n):=λr h=>rr h []
def abr (n:Nat) (b1:ae):Z Int:=
 Kh (TZ n) n (b1.ah.length:Int) 0 b1
def aRf (n:Nat):KK (pR (aI 127)) tV (abr n):=λ_ r h=>ra (aDz (aRg n) n h) []
def abq (n:Nat) (b1:ae):Z Int:=
 O8 (abr n) n (b1.ah.length:Int) 0 b1
def aRe (n:Nat):KK (pR [1,1,1,1,1]) tV (abq n):=λ_ r h=>ra (aDB (aRf n) n h) []
def abp (n:Nat) (b1:ae):Z Int:=
 if iL (b1.ay<0) then
 V 70
 else
 if iL (1000<b1.ay) then
 V 70
 else
 O9 (abq n) n (b1.ah.length:Int) 0 b1
def aRd (n:Nat):KK (pR [1,1,1]) tV (abp n):=λ_ r h=>ie h (λc0 h=>rr h [aQ c0]) λc0 h=>ie h (λc1 h=>rr h [aQ c0,aZ c1]) λc1 h=>ra (aDC (aRe n) n h) [aQ c0,aZ c1]
def aiN (n:Nat) (s0:ae):Z Int:=
 if iL (8<(s0.ah.length:Int)) then
 V 2
 else
 Pa (abp n) n s0.ah (s0.ah.length:Int) 0 s0
def aKp (n:Nat):KK (pR []) uz (aiN n):=λ_ r h=>ie h (λc0 h=>rr h [bP c0]) λc0 h=>ra (aDD (aRd n) n h) [bP c0]
def F94:=aiN
def aBo (n:Nat):KK (Cx E0 94 dR bC) uz (F94 n):=λ_ _ h=>ca (X:=x94) (aKp n h)
def Gi:=fx E0 Tryz.f110 []
def A110:=Ax Gi dR bC
def aHi (i0:Int) (t42:Bool):LS:=⟨[(0,bH i0),(42,.bool t42)],[]⟩
def alI (i0 dV gZ:Int):LS:=⟨[(0,bH i0),(1,bH dV),(2,bH gZ)],[]⟩
def vR (n:Nat) (i0:Int) (t42:Bool):Z Int:=
 if t42 then
 V (aW (i0+1))
 else
 V i0
def y8 (n:Nat):KK (A110 (aI 8185)) aHi (vR n):=λ_ _ r h=>ie h (λc0 bE=>by subst c0;exact (rr bE [])) λc0 bE=>by subst c0;exact (rr bE [])
def akd (n:Nat) (i0 dV gZ:Int):Z Int:=
 if iL (gZ<0) then
 if iL (dV<i0) then
 V (aW (i0-1))
 else
 V i0
 else
 if i0==dV then
 V gZ
 else
 if iL (dV<gZ) then
 if iL (dV<i0) then
 if !iL (gZ<i0) then
 V (aW (i0-1))
 else
 if iL (gZ<dV) then
 if !iL (i0<gZ) then
 vR n i0 (iL (i0<dV))
 else
 vR n i0 I
 else
 vR n i0 I
 else
 if iL (gZ<dV) then
 if !iL (i0<gZ) then
 vR n i0 (iL (i0<dV))
 else
 vR n i0 I
 else
 vR n i0 I
 else
 if iL (gZ<dV) then
 if !iL (i0<gZ) then
 vR n i0 (iL (i0<dV))
 else
 vR n i0 I
 else
 vR n i0 I
def aNX (n:Nat):KK (A110 []) alI (akd n):=λ_ _ _ r h=>ie h (λc0 h=>ie h (λc1 h=>rr h [aQ c0,aZ c1]) λc1 h=>rr h [aQ c0,aZ c1,aZ c0]) λc0 h=>let zA:SE:=[aQ c0,bk c0];ie h (λc1 h=>bq h zA [aZ c1]) λc1 h=>let zB:SE:=dk zA [aZ c1];ie h (λc2 h=>let zC:SE:=dk zB [aZ c2];ie h (λc3 h=>let zD:SE:=dk zC [aZ c3];ie h (λc4 h=>bq h zD [bk c4]) λc4 h=>ie h (λc5 h=>ie h (λc6 h=>cB (y8 n h) zD [bk c4,bk c5,aZ c6]) λc6 h=>cB (y8 n h) zD [bk c4,bk c5,aZ c6]) λc5 h=>cB (y8 n h) zD [bk c4,bk c5]) λc3 h=>ie h (λc4 h=>ie h (λc5 h=>cB (y8 n h) zC [aZ c3,dg c4,aZ c5]) λc5 h=>cB (y8 n h) zC [aZ c3,dg c4,aZ c5]) λc4 h=>cB (y8 n h) zC [aZ c3,dg c4]) λc2 h=>ie h (λc3 h=>ie h (λc4 h=>cB (y8 n h) zB [aZ c2,iO c3,aZ c4]) λc4 h=>cB (y8 n h) zB [aZ c2,iO c3,aZ c4]) λc3 h=>cB (y8 n h) zB [aZ c2,iO c3]
def Kt:=akd
def Ti (n:Nat):KK (Cx E0 110 dR bC) alI (Kt n):=λ_ _ _ _ h=>ca (X:=Gi) (aNX n h)
def x140:=fx E0 Tryz.f140 []
def A140:=Ax x140 cP bC
def aHe (b3:aE):LS:=⟨[aX 3],[(3,uH (ny b3))]⟩
def Oa (m0:aE):LS:=⟨[(0,.agg (ny m0))],[]⟩
def rI (n:Nat) (b3:aE):Z Bool:=
 if b3.av==0 then
 if b3.aY==0 then
 if b3.kr==0 then
 if iL (b3.aM=A') then
 if b3.aD==0 then
 if ((b3.bj.aD==0)&&((b3.bj.dh==0)&&((iL (b3.bj.cG=A'))&&M))) then
 if (b3.ck.length:Int)==0 then
 if iL (b3.bp.aM=A') then
 if (b3.bp.ag.length:Int)==0 then
 if b3.bp.aH==0 then
 if (b3.bp.ar.length:Int)==0 then
 V ((b3.bp.aL.length:Int)==0)
 else
 V I
 else
 V I
 else
 V I
 else
 V I
 else
 V I
 else
 V I
 else
 V I
 else
 V I
 else
 V I
 else
 V I
 else
 V I
def BH (n:Nat):KK (A140 [1,1,1]) aHe (rI n):=λ_ r h=>ie h (λc0 h=>let zA:SE:=[dg c0];ie h (λc1 h=>let zB:SE:=dk zA [aZ c1];ie h (λc2 h=>let zC:SE:=dk zB [bk c2];ie h (λc3 h=>let zD:SE:=dk zC [bk c3];ie h (λc4 h=>let zE:SE:=dk zD [bk c4];ie h (λc5 h=>let zF:SE:=dk zE [bP c5];ie h (λc6 h=>let zG:SE:=dk zF [bP c6];ie h (λc7 h=>let zH:SE:=dk zG [bk c7];ie h (λc8 h=>ie h (λc9 h=>ie h (λc10 h=>bq h zH [bP c8,bk c9,bP c10]) λc10 h=>bq h zH [bP c8,bk c9,bP c10]) λc9 h=>bq h zH [bP c8,bk c9]) λc8 h=>bq h zH [bP c8]) λc7 h=>bq h zG [bk c7]) λc6 h=>bq h zF [bP c6]) λc5 h=>bq h zE [bP c5]) λc4 h=>bq h zD [bk c4]) λc3 h=>bq h zC [bk c3]) λc2 h=>bq h zB [bk c2]) λc1 h=>bq h zA [aZ c1]) λc0 h=>rr h [dg c0]
def Vp (n:Nat) (m0:aE):Z Bool:=
 if m0.bf==1 then
 rI n (aE.mk m0.bf 0 m0.aY m0.kr A' 0 om m0.ck m0.bp)
 else
 if m0.bf==2 then
 rI n (aE.mk m0.bf 0 0 m0.kr m0.aM m0.aD om m0.ck m0.bp)
 else
 if m0.bf==3 then
 rI n (aE.mk m0.bf 0 0 0 m0.aM m0.aD m0.bj m0.ck m0.bp)
 else
 if m0.bf==4 then
 rI n (aE.mk m0.bf 0 0 m0.kr A' m0.aD m0.bj m0.ck m0.bp)
 else
 if m0.bf==5 then
 rI n (aE.mk m0.bf 0 m0.aY m0.kr A' m0.aD m0.bj m0.ck m0.bp)
 else
 if m0.bf==6 then
 rI n (aE.mk m0.bf m0.av m0.aY m0.kr m0.aM m0.aD m0.bj m0.ck (ai.mk A' [] 0 [] []))
 else
 if m0.bf==7 then
 rI n (aE.mk m0.bf 0 m0.aY m0.kr m0.aM m0.aD m0.bj m0.ck m0.bp)
 else
 if m0.bf==8 then
 rI n (aE.mk m0.bf 0 0 m0.kr m0.aM m0.aD m0.bj [] m0.bp)
 else
 V I
def aMY (n:Nat):KK (A140 []) Oa (Vp n):=λ_ r h=>ie h (λc0 h=>ra (BH n h) [iO c0]) λc0 h=>ie h (λc1 h=>ra (BH n h) [iO c0,aV c1]) λc1 h=>let zA:SE:=[iO c0,aV c1];ie h (λc2 h=>cB (BH n h) zA [aV c2]) λc2 h=>let zB:SE:=dk zA [aV c2];ie h (λc3 h=>cB (BH n h) zB [aV c3]) λc3 h=>let zC:SE:=dk zB [aV c3];ie h (λc4 h=>cB (BH n h) zC [aV c4]) λc4 h=>let zD:SE:=dk zC [aV c4];ie h (λc5 h=>cB (BH n h) zD [aV c5]) λc5 h=>ie h (λc6 h=>cB (BH n h) zD [aV c5,aV c6]) λc6 h=>ie h (λc7 h=>cB (BH n h) zD [aV c5,aV c6,aV c7]) λc7 h=>bq h zD [aV c5,aV c6,aV c7]
def Y2:=Vp
def aFj (n:Nat):KK (Cx E0 140 cP bC) Oa (Y2 n):=λ_ _ h=>ca (X:=x140) (aMY n h)
def Sq (r:ai):AV:=.agg (eK r (.ms ub 2 0 r.ag.length) (.ms 201003 2 0 r.ar.length) (.ms 201004 13 0 r.aL.length))
def Ot (r:ai):List (Nat×Bx):= (q21_ ub r 201003 201004)
def x141:=fx E0 Tryz.f141 []
def RH:=Ax x141 Sq Ot
def Xp (t12:bL) (t13 t14:Int) (b1 b2:ai) (b6:cY) (b3:bL):LS:=⟨[aX 1,aX 2,(3,.ms 500003 2 0 b3.length),(12,.slice 121 2 t12.length (eo t12)),(13,iI t13),(14,iI t14)],[(1,gP (Zd b1 (.ms 6 2 0 b6.length))),(2,gP (eK b2 .cq .cq .cq)),(6,xy b6),(500003,Ci b3)]⟩
def Xo (b1 b2:ai) (b6:cY) (b3:bL):LS:=⟨[aX 1,aX 2,(3,.ms 500003 2 0 b3.length)],[(1,gP (Zd b1 (.ms 6 2 0 b6.length))),(2,gP (eK b2 .cq .cq .cq)),(6,xy b6),(500003,Ci b3)]⟩
def N9 (t0:ai):LS:=⟨[(0,.agg (jv t0))],[]⟩
def Vo (aA:Wf13) (back:bL->Int->Int->ai->ai->cY->bL->Z ai) (n:Nat) (t12:bL) (t13 t14:Int) (b1 b2:ai) (b6:cY) (b3:bL):Z ai:=
 if iL (t14<t13) then
 (idx t12 t14).bind λx2=>(app [] x2.ag).bind λdN=>(app b3 [(bl.mk dN x2.av)]).bind λiQ=>(setAt iQ b3.length (bl.mk dN x2.av)).bind λz20=>back t12 t13 (aW (t14+1)) (ai.mk b1.aM b6 b1.aH b1.ar b1.aL) (ai.mk b2.aM [] b2.aH [] []) b6 z20
 else
 aA (ai.mk b1.aM b6 b1.aH b1.ar b1.aL) (ai.mk b2.aM [] b2.aH [] []) b6 b3
def aMX {aA} (aU:KK (RH [1,1,1,1]) Xo aA) {back} (aK:KK (RH (aI 87)) Xp back) (n:Nat):KK (RH (aI 87)) Xp (Vo aA back n):=λ_ _ _ _ _ _ b3 r h=>ie h (λc0 h=>be h λx2 di h=>be h λdN fN h=>be h λ_ iJ h=>be h λ_ JH h=>ra (aK h) [aB c0,(0,fj.idx di),(7,R3.app fN),(4,fj.Lr iJ),(1,.beq 500003 (bF (λq_=>Bx.tree 121 2 Ya q_ [(b3.length*2+0,.ms 19 1 0 dN.length)]) (fj.apS (r:= (qa x2.av)) iJ))),(0,fj.iH R3 (r:= (qa x2.av)) 500003 19 0 I 3 1 dN JH),(2,.seq 3 (bF (AV.ms 500003 2 0) (((fj.apL iJ).trans (ey JH)))))]) λc0 h=>ra (aU h) [aB c0]
def Iy (aA:Wf13):Nat->bL->Int->Int->ai->ai->cY->bL->Z ai
 |0=>dv.z
 |n+1=>Vo aA (Iy aA n) n
def awT {aA} (aU:KK (RH [1,1,1,1]) Xo aA):∀n:Nat,KK (RH (aI 87)) Xp (Iy aA n)
 |0=>KC.h
 |n+1=>aMX aU (awT aU n) n
def Vn (n:Nat) (b1 b2:ai) (b6:cY) (b3:bL):Z ai:=
 (app [] b1.aL).bind λx7=>V (ai.mk b1.aM b6 b1.aH b3 x7)
def aMW (n:Nat):KK (RH [1,1,1,1]) Xo (Vn n):=λ_ _ _ _ r h=>be h λ_ iE h=>rr h [(6,eR.app iE),(4,.iR 6 ub),(0,.iR 500003 201003),(0,.iR 31 201004)]
def ajQ (n:Nat) (t0:ai):Z ai:=
 (app [] t0.ag).bind λx6=>Iy (Vn n) n t0.ar (t0.ar.length:Int) 0 (ai.mk t0.aM x6 t0.aH t0.ar t0.aL) (ai.mk A' [] 0 [] []) x6 []
def aMV (n:Nat):KK (RH []) N9 (ajQ n):=λ_ r h=>be h λ_ jL h=>ra (awT (aMW n) n h) [(5,eW.app jL),(7,.born [3] [] 500003 M 121 2)]
def aiC:=ajQ
def aFi (n:Nat):KK (Cx E0 141 Sq Ot) N9 (aiC n):=λ_ _ h=>ca (X:=x141) (aMV n h)
end Go.Proofs.YtbnkhmoelnfjoaaGreat
end
