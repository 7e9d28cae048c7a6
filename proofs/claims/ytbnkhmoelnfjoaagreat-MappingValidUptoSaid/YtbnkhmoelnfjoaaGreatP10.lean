/- Part. -/
import Derived.Shelf.Sort.Plain
import Derived.Shelf.Slices.CompactI
import Derived.Shelf.Slices.In.SortNone
import Derived.Ground.NamesProg
import Derived.Ground.Names2Prog
import Derived.Test.YtbnkhmoelnfjoaaGreatProg
import Derived.Test.YtbnkhmoelnfjoaaGreatP7
import Derived.Test.YtbnkhmoelnfjoaaGreatP3
import Derived.KernelRfl
set_option linter.all false
set_option maxRecDepth 100000
noncomputable section
namespace Go.Proofs.YtbnkhmoelnfjoaaGreat
open Go.Shelf
def agv:Go.Shelf.Ren:=⟨fun|189=>165|125=>191|257=>190|128=>213|129=>214|294=>204|295=>205|296=>206|297=>207|298=>208|299=>209|216=>210|300=>211|301=>212|328=>222|329=>223|330=>224|331=>225|332=>226|215=>187|343=>236|n=>n,fun|28=>102|3=>3|46=>237|0=>0|51=>271|53=>273|4=>4|183=>264|182=>263|131=>218|5=>5|9=>9|218=>279|222=>191|228=>291|229=>292|n=>n,fun|n=>n⟩
def ain:Go.Proofs.Lays.n189 Tryz.prog agv:={
 mixed:=by kernel_rfl
 f125:=Tryz.func191.trans (congrArg some (by kernel_rfl))
 f128:=Tryz.func213.trans (congrArg some (by kernel_rfl))
 f129:=Tryz.func214.trans (congrArg some (by kernel_rfl))
 f189:=Tryz.func165.trans (congrArg some (by kernel_rfl))
 f215:=Tryz.func187.trans (congrArg some (by kernel_rfl))
 f216:=Tryz.func210.trans (congrArg some (by kernel_rfl))
 f257:=Tryz.func190.trans (congrArg some (by kernel_rfl))
 f294:=Tryz.func204.trans (congrArg some (by kernel_rfl))
 f295:=Tryz.func205.trans (congrArg some (by kernel_rfl))
 f296:=Tryz.func206.trans (congrArg some (by kernel_rfl))
 f297:=Tryz.func207.trans (congrArg some (by kernel_rfl))
 f298:=Tryz.func208.trans (congrArg some (by kernel_rfl))
 f299:=Tryz.func209.trans (congrArg some (by kernel_rfl))
 f300:=Tryz.func211.trans (congrArg some (by kernel_rfl))
 f301:=Tryz.func212.trans (congrArg some (by kernel_rfl))
 f328:=Tryz.func222.trans (congrArg some (by kernel_rfl))
 f329:=Tryz.func223.trans (congrArg some (by kernel_rfl))
 f330:=Tryz.func224.trans (congrArg some (by kernel_rfl))
 f331:=Tryz.func225.trans (congrArg some (by kernel_rfl))
 f332:=Tryz.func226.trans (congrArg some (by kernel_rfl))
 f343:=Tryz.func236.trans (congrArg some (by kernel_rfl))
 t0:=Tryz.underlying0
 a0:=Tryz.isAgg0
 z0:=Tryz.sizeOf0
 v0:=Tryz.zeroValue0
 t3:=Tryz.underlying3
 a3:=Tryz.isAgg3
 z3:=Tryz.sizeOf3
 v3:=Tryz.zeroValue3
 t4:=Tryz.underlying4
 a4:=Tryz.isAgg4
 z4:=Tryz.sizeOf4
 v4:=Tryz.zeroValue4
 t5:=Tryz.underlying5
 a5:=Tryz.isAgg5
 z5:=Tryz.sizeOf5
 v5:=Tryz.zeroValue5
 t9:=Tryz.underlying9
 a9:=Tryz.isAgg9
 z9:=Tryz.sizeOf9
 v9:=Tryz.zeroValue9
 t28:=Tryz.underlying102
 a28:=Tryz.isAgg102
 z28:=Tryz.sizeOf102
 v28:=Tryz.zeroValue102
 t46:=Tryz.underlying237
 a46:=Tryz.isAgg237
 z46:=Tryz.sizeOf237
 v46:=Tryz.zeroValue237
 t51:=Tryz.underlying271
 a51:=Tryz.isAgg271
 z51:=Tryz.sizeOf271
 v51:=Tryz.zeroValue271
 t53:=Tryz.underlying273
 a53:=Tryz.isAgg273
 z53:=Tryz.sizeOf273
 v53:=Tryz.zeroValue273
 t131:=Tryz.underlying218
 a131:=Tryz.isAgg218
 z131:=Tryz.sizeOf218
 v131:=Tryz.zeroValue218
 t182:=Tryz.underlying263
 a182:=Tryz.isAgg263
 z182:=Tryz.sizeOf263
 v182:=Tryz.zeroValue263
 t183:=Tryz.underlying264
 a183:=Tryz.isAgg264
 z183:=Tryz.sizeOf264
 v183:=Tryz.zeroValue264
 t218:=Tryz.underlying279
 a218:=Tryz.isAgg279
 z218:=Tryz.sizeOf279
 v218:=Tryz.zeroValue279
 t222:=Tryz.underlying191
 a222:=Tryz.isAgg191
 z222:=Tryz.sizeOf191
 v222:=Tryz.zeroValue191
 t228:=Tryz.underlying291
 a228:=Tryz.isAgg291
 z228:=Tryz.sizeOf291
 v228:=Tryz.zeroValue291
 t229:=Tryz.underlying292
 a229:=Tryz.isAgg292
 z229:=Tryz.sizeOf292
 v229:=Tryz.zeroValue292}
def akV:Go.Shelf.Ren:=⟨fun|20=>219|n=>n,fun|22=>102|3=>3|4=>4|0=>0|n=>n,fun|n=>n⟩
def apy:Go.Proofs.Lays2.n20 Tryz.prog akV:={
 mixed:=by kernel_rfl
 f20:=Tryz.func219.trans (congrArg some (by kernel_rfl))
 t0:=Tryz.underlying0
 a0:=Tryz.isAgg0
 z0:=Tryz.sizeOf0
 v0:=Tryz.zeroValue0
 t3:=Tryz.underlying3
 a3:=Tryz.isAgg3
 z3:=Tryz.sizeOf3
 v3:=Tryz.zeroValue3
 t4:=Tryz.underlying4
 a4:=Tryz.isAgg4
 z4:=Tryz.sizeOf4
 v4:=Tryz.zeroValue4
 t22:=Tryz.underlying102
 a22:=Tryz.isAgg102
 z22:=Tryz.sizeOf102
 v22:=Tryz.zeroValue102
 i3:=by kernel_rfl}
end Go.Proofs.YtbnkhmoelnfjoaaGreat
namespace Go.Proofs.YtbnkhmoelnfjoaaGreat
open Go.bQ Go.Sort
variable {w:World} {b off:Nat} {d:Array Int} {cur:Array Value} {e:TypeId} {xs:List Int}
def JI (x:Int):∀ys:List Int,(Av x ys).Perm (x::ys)
 | []=>by simp[Av]
 |y::ys=>by
  unfold Av;split
  ·exact .refl _
  ·exact ((JI x ys).cons y).trans (.swap _ _ _)
def AZ:∀xs:List Int,(lY xs).Perm xs
 | []=>.nil
 |x::xs=>(JI x _).trans ((AZ xs).cons x)
def Nk (x:Int):∀ys:List Int,ys.Pairwise (· <= ·)->(Av x ys).Pairwise (· <= ·)
 | [],_=>by simp[Av]
 |y::ys,h=>by
  unfold Av;split
  ·rename_i hxy;refine BJ.2 ⟨λz hz=> ?_,h⟩
   rcases bB.1 hz with rfl|hz
   ·exact hxy
   ·exact Int.le_trans hxy ((BJ.1 h).1 z hz)
  ·rename_i hxy;refine BJ.2 ⟨λz hz=> ?_,Nk x ys (BJ.1 h).2⟩
   rcases bB.1 ((JI x ys).mem_iff.1 hz) with rfl|hz
   ·omega
   ·exact (BJ.1 h).1 z hz
def I6:∀xs:List Int,(lY xs).Pairwise (· <= ·)
 | []=>.nil
 |x::xs=>Nk x _ (I6 xs)
def Im:∀{xs ys:List Int},xs.Pairwise (· <= ·)->ys.Pairwise (· <= ·)->xs.Perm ys->xs=ys
 | [],ys,_,_,h=>by simpa using h.symm
 |x::xs,[],_,_,h=>by simp at h
 |x::xs,y::ys,hx,hy,h=>by
  have h1:=BJ.1 hx;have h2:=BJ.1 hy;have e:x=y:=by
   have a:x∈y::ys:=h.mem_iff.1 (by simp)
   have b:y∈x::xs:=h.mem_iff.2 (by simp)
   rcases bB.1 a with rfl|a
   ·rfl
   ·rcases bB.1 b with rfl|b
    ·rfl
    ·have:=h2.1 x a;have:=h1.1 y b;omega
  subst e;rw[Im h1.2 h2.2 (List.Perm.cons_inv h)]
def Pv (xs:List Int):(xs.mergeSort λx y=>decide (x<=y))=lY xs:=by
 refine Im ?_ (I6 xs) ((List.mergeSort_perm xs _).trans (AZ xs).symm);have:=List.pairwise_mergeSort (le:=λx y:Int=>decide (x<=y)) (λa b c=>by simp;omega) (λa b=>by simp;omega) xs
 exact this.imp (by simp)
def tlI:Int->List Int->List Int
 |_,[]=> []
 |x,y::l=>if y=x then tlI y l else y::tlI y l
def awe:∀(l:List Int) (x:Int),((List.range l.length).filter (λj=>Lib.keeps (x::l).toArray (j+1))).map (λj=>(x::l).toArray[j+1]!)=tlI x l
 | [],x=>rfl
 |y::l,x=>by
  have ih:=awe l y;rw[mM,anT,tH,List.filter_map];have e1:((λj=>Lib.keeps (x::y::l).toArray (j+1)) ∘ Nat.succ)=λj=>Lib.keeps (y::l).toArray (j+1):=by
   funext j;simp[Lib.keeps]
  have e2:((λj=>(x::y::l).toArray[j+1]!) ∘ Nat.succ)=λj=>(y::l).toArray[j+1]! :=by
   funext j;simp
  have e3:Lib.keeps (x::y::l).toArray (0+1)= !decide (y=x):=by simp[Lib.keeps]
  rw[e1,e3];show _=(if y=x then tlI y l else y::tlI y l)
  by_cases h:y=x
  ·rw[ax h,tG h,aA (by decide),EJ,e2]
   exact ih
  ·rw[aA h,OG h,ax (by decide),fM,EJ,e2,ih]
   rfl
def Kr (x:Int) (l:List Int):Lib.compact (x::l)=x::tlI x l:=by
 unfold Lib.compact Lib.compactUpTo;rw[mM,anT,tH,ax (by simp[Lib.keeps]),List.filter_map,fM,EJ]
 have:=awe l x;rw[<-this];rfl
def Qk:∀xs:List Int,Lib.compact xs=ld xs
 | []=>rfl
 | [x]=>by rw[Kr];rfl
 |x::y::l=>by
  have ih:=Qk (y::l);rw[Kr] at ih ⊢;show x::(if y=x then tlI y l else y::tlI y l)=(if x=y then ld (y::l) else x::ld (y::l))
  rw[<-ih];by_cases h:y=x
  ·subst h;rw[ax rfl,ax rfl]
  ·rw[aA h,aA (λe=>h e.symm)]
def aoN {n:Nat} (h:w.heap[b]? =some (Obj.cells cur e (0,0))):Wr w (putRow (Value.int .i64) (Sort.ahead w n) b off d) b e (putCells (Value.int .i64) off d cur):=by
 have bD:b<w.heap.size:=(oK.1 h).1;refine ⟨?_,?_,λk hk=> ?_,rfl,rfl,rfl⟩
 ·show (w.heap.modify b (onCells (putCells (Value.int .i64) off d)))[b]? =_;rw[IN,ax rfl,h];rfl
 ·show (w.heap.modify b _).size=_;rw[Array.size_modify]
 ·show (w.heap.modify b _)[k]? =_;rw[IN,aA (zl hk)]
def Ul {d:List Int} (hl:off+d.length<=cur.size):(putCells (Value.int .i64) off d.toArray cur).size=cur.size/\(∀t,(t<off\/off+d.length<=t)->(putCells (Value.int .i64) off d.toArray cur)[t]? =cur[t]?)/\∀t x,d[t]? =some x->(putCells (Value.int .i64) off d.toArray cur)[off+t]? =some (.int .i64 x):=by
 refine ⟨by simp[putCells],λt ht=> ?_,λt x hx=> ?_⟩
 ·simp only[putCells,Array.getElem?_mapIdx];have hn:¬(off<=t/\t<off+d.toArray.size):=by simp;omega
  simp only[aA hn];simp
 ·have bD:=(cg.1 hx).1;simp only[putCells,Array.getElem?_mapIdx];rw[pW (by omega),IM,ax ⟨by omega,by simp;omega⟩]
  have:d.toArray[off+t-off]! =x:=by
   rw[show off+t-off=t by omega,getElem!_pos _ _ (by simpa using bD)]
   simpa[bD] using hx
  rw[this]
def agx (w:World) (os:Array Obj):CL w (Sort.grow w os):=by
 refine ⟨rfl,rfl,rfl,by simp[Sort.grow],λb hb=> ?_⟩
 simp[Sort.grow,Array.getElem?_append,hb]
def holds_of (h:w.heap[b]? =some (.cells cur e (0,0))) (hx:∀t x,xs[t]? =some x->cur[off+t]? =some (.int .i64 x)):Holds (Value.int .i64) w b off xs.toArray:=λj hj=>by
 have hj:j<xs.length:=by simpa using hj
 have:=hx j xs[j] (dW hj);refine ⟨?_,by simp[World.frozen?,h]⟩
 rw[show w.cell? ⟨b,off+j,none⟩=cur[off+j]? by simp[World.cell?,h],this,getElem!_pos _ _ (by simpa using hj)]
 simp
def acz (h0:0<xs.length) (hx:∀t x,xs[t]? =some x->cur[off+t]? =some (.int .i64 x)):off+xs.length<=cur.size:=by
 have:=hx (xs.length-1) _ (dW (by omega))
 have:=(oK.1 this).1;omega
def aou:QE Tryz.prog 165 true:=by
 refine ⟨⟨_,Tryz.func165,by kernel_rfl,by rw[show Tryz.f165.name= "slices.Sort[[]int,int]" by kernel_rfl];decide⟩,λm w p c=> ?_,λm w b off c xs cur e hb h0 h6 hc hx=> ?_⟩
 ·refine CallsIn.mono (callsIn_wide.2 (Any.slices_Sort_int_none ain p c w)) ?_;rintro e w' ⟨rfl,rfl⟩;exact ⟨rfl,rfl,rfl,rfl,rfl⟩
 ·have bD:b<w.heap.size:=(oK.1 hb).1;refine CallsIn.mono (callsIn_wide.2 (Any.slices_Sort_int ain b off c xs w (holds_of hb hx) bD (by omega))) ?_
  rintro e' w' ⟨rfl,n,os,rfl⟩;rw[Pv];have hl:(lY xs).length=xs.length:=(AZ xs).length_eq;obtain ⟨a1,a2,a3⟩:=Ul (d:=lY xs) (by rw[hl];exact acz h0 hx)
  rw[hl] at a2;exact ⟨rfl,_,_,aoN hb,agx _ os,a1,a2,a3⟩
def acB:QE Tryz.prog 219 false:=by
 refine ⟨⟨_,Tryz.func219,by kernel_rfl,by rw[show Tryz.f219.name= "slices.Compact[[]int,int]" by kernel_rfl];decide⟩,λm w p c=> ?_,λm w b off c xs cur e hb h0 h6 hc hx=> ?_⟩
 ·refine CallsIn.mono (callsIn_wide.2 (Any.slices_Compact_int_empty apy p c w)) ?_;rintro e w' ⟨rfl,rfl⟩;exact ⟨rfl,rfl,rfl,rfl,rfl⟩
 ·refine CallsIn.mono (callsIn_wide.2 (Any.slices_Compact_int apy b off c xs w (holds_of hb hx) (by omega) hc)) ?_
  rintro e' w' ⟨rfl,n,rfl⟩;rw[Qk];have hle:=Ko xs;have hl:(ld xs++List.replicate (xs.length-(ld xs).length) 0).length=xs.length:=by simp;omega
  obtain ⟨a1,a2,a3⟩:=Ul (d:=ld xs++List.replicate (xs.length-(ld xs).length) 0) (by rw[hl];exact acz h0 hx)
  rw[hl] at a2;exact ⟨rfl,_,_,aoN hb,⟨rfl,rfl,rfl,cF _,λ_ _=>rfl⟩,a1,a2,a3⟩
end Go.Proofs.YtbnkhmoelnfjoaaGreat
end
