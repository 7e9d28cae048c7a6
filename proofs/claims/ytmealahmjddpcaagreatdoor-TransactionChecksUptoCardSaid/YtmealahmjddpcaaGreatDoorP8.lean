/- Texts that belong together. The first: What an argument of a call reads as is plain data of its type, no greater than its bulk. Conditions: a set of types without pointers, maps, interfaces and functions; structs and arrays are laid out without gaps (computed). -/
import Derived.Test.YtmealahmjddpcaaGreatDoorRows
import Derived.Test.YtmealahmjddpcaaGreatDoorP7
import Derived.WalkKit
import Derived.ProofKit
import Derived.Deep.DeepHandedRow
import Derived.Test.YtmealahmjddpcaaGreatDoorProg
import Derived.Test.YtmealahmjddpcaaGreatDoorP4
import Derived.KernelRfl
set_option linter.all false
noncomputable section
namespace Go.Sim
open Go.RowKit Go.Proofs.YtmealahmjddpcaaGreatDoor
mutual
def jj:AV→Nat
 | .str s=>s.size+1
 | .slice _ _ rows=>fF rows+1
 |_=>1
def fF:List (List AV)→Nat
 | []=>0
 |r::rs=>cB r+fF rs
def cB:List AV→Nat
 | []=>0
 |x::xs=>jj x+cB xs
end
theorem uU (xs ys:List AV):cB (xs++ys)=cB xs+cB ys:=by
 induction xs with
 |nil=>simp[cB]
 |cons x xs ih=>simp[cB,ih];omega
def lI {α β:Type} (R:α→β→Prop):List α→List β→Prop
 | [],[]=>True
 |a::l,b::m=>R a b∧lI R l m
 |_,_=>False
def bc (P:Program):Nat→TypeId→List AV→Prop
 |0,_,_=>False
 |n+1,t,xs=>
  match P.underlying t with
  |some .bool=>∃b,xs= [.bool b]
  |some (.int k)=>∃i,xs= [.int k i]∧(Lit.int k i).wf=true
  |some .string=>∃s:ByteArray,xs= [.str s]∧s.size≤maxLen
  |some (.slice e)=>∃rows,xs= [.slice e (P.cellsOf e) rows]∧∀r∈rows,bc P n e r
  |some (.struct fs)=>∃xss:List (List AV),xs=xss.flatten∧lI (fun f ys=>bc P n f.type ys) fs.toList xss
  |some (.array m e)=>∃xss:List (List AV),xs=xss.flatten∧xss.length=m∧∀ys∈xss,bc P n e ys
  |_=>False
def kQ (P:Program) (S:TypeId→Bool) (total:Nat):Nat→List Field→Bool
 |off,[]=>off==total
 |off,f::fs=>f.offset==off&&S f.type&&kQ P S total (off+P.cellsOf f.type) fs
def qM (P:Program) (S:TypeId→Bool) (t:TypeId):Bool:=
 match P.underlying t with
 |some .bool|some (.int _)|some .string=>true
 |some (.struct fs)=>kQ P S (P.cellsOf t) 0 fs.toList
 |some (.array n e)=>P.cellsOf t==n*P.cellsOf e&&S e
 |some (.slice e)=>S e&&decide (0<P.cellsOf e)
 |_=>false
def CR (W:World) (cs:List Value) (xs:List AV):Prop:=VAs (jq W).get .no (cs.map (img W.heap.size)) xs∧∀v∈cs,isU (img W.heap.size v)=false
section
variable {H:Type} {enc:TypeId×Value→H} {P:Program} {S:TypeId→Bool} {w:World} {base:Nat} {spare:Nat→Bool} {held:Bool}
theorem VAs.app {F:Hf} {g:Gb}:∀{a b:List SV} {x y:List AV},VAs F g a x→VAs F g b y→VAs F g (a++b) (x++y)
 |_,_,_,_,.nil,k=>k
 |_,_,_,_,.cons h t,k=>.cons h (t.app k)
theorem CR.nil:CR w [] []:=⟨.nil,fun v hv=>by cases hv⟩
theorem CR.append {a b:List Value} {x y:List AV} (h:CR w a x) (k:CR w b y):CR w (a++b) (x++y):=⟨by rw[List.map_append];exact h.1.app k.1,fun v hv=>(List.mem_append.1 hv).elim (h.2 v) (k.2 v)⟩
theorem CR.one {v:Value} {x:AV} (h:VA (jq w).get .no (img w.heap.size v) x) (hu:isU (img w.heap.size v)=false):CR w [v] [x]:=⟨.cons h .nil,fun u hu'=>by rw[List.mem_singleton.1 hu'];exact hu⟩
theorem CR.length {a:List Value} {x:List AV} (h:CR w a x):a.length=x.length:=by have:=h.1.length;simpa using this
theorem mH {α β:Type} {f:α→Option β}:∀{l:List α} {r:List β},l.mapM f=some r→lI (fun a b=>f a=some b) l r
 | [],r,h=>by simp at h;subst h;trivial
 |a::l,r,h=>by
  rw[List.mapM_cons] at h;cases ha:f a with
  |none=>simp[ha] at h
  |some b=>
   cases hl:l.mapM f with
   |none=>simp[ha,hl] at h
   |some m=>
    simp[ha,hl] at h;subst h;exact ⟨ha,mH hl⟩
theorem xn {α β:Type} {R:α→β→Prop}:∀{l:List α} {m:List β},lI R l m→l.length=m.length
 | [],[],_=>rfl
 |_::_,_::_,h=>by simp[xn h.2]
 | [],_::_,h=>h.elim
 |_::_,[],h=>h.elim
theorem yn {α β:Type} {R:α→β→Prop}:∀{l:List α} {m:List β},lI R l m→∀{i:Nat} {b:β},m[i]? =some b→∃a,l[i]? =some a∧R a b
 | [],[],_,_,_,h=>by simp at h
 |a::l,b::m,h,i,x,hx=>by
  cases i with
  |zero=>simp at hx;subst hx;exact ⟨a,rfl,h.1⟩
  |succ i=>simp at hx;obtain ⟨y,h1,h2⟩:=yn h.2 hx;exact ⟨y,by simpa using h1,h2⟩
 | [],_::_,h,_,_,_=>h.elim
 |_::_,[],h,_,_,_=>h.elim
theorem Xo {α β:Type} {R:α→β→Prop} {l:List α} {m:List β} (h:lI R l m) {b:β} (hb:b∈m):∃a,R a b:=by
 obtain ⟨i,hi⟩:=List.mem_iff_getElem?.1 hb;obtain ⟨a,_,ha⟩:=yn h hi;exact ⟨a,ha⟩
theorem tA (n:Nat)
  (ih:∀t cs x,S t=true→DataW.trod enc P w base spare held n t cs=some x→∃xs,CR w cs xs∧bc P n t xs∧cB xs≤Rows.uptoBulk x.1) (total:Nat):
  ∀(fs:List Field) (off:Nat) (cs:List Value) (ys:List (DataW H×List MemPlace)),kQ P S total off fs=true→cs.length=total→
   lI (fun f y=>DataW.trod enc P w base spare held n f.type ((cs.drop f.offset).take (P.cellsOf f.type))=some y) fs ys→off≤total→
   ∃xss:List (List AV),CR w (cs.drop off) xss.flatten∧lI (fun f zs=>bc P n f.type zs) fs xss∧cB xss.flatten≤Rows.uptoBulkAll (ys.map (·.1))
 | [],off,cs,ys,ht,hl,h2,_=>by
  simp[kQ] at ht;refine ⟨[],?_,trivial,by simp[cB]⟩
  rw[List.drop_of_length_le (by omega)]
  exact .nil
 |f::fs,off,cs,[],_,_,h2,_=>h2.elim
 |f::fs,off,cs,y::ys,ht,hl,h2,ho=>by
  simp only[kQ,Bool.and_eq_true,beq_iff_eq] at ht;obtain ⟨⟨ht0,htt⟩,ht1⟩:=ht;obtain ⟨h0,h1⟩:=h2;obtain ⟨xs,c1,c2,c3⟩:=ih _ _ _ htt h0;have hle:∀(fs:List Field) (o:Nat),kQ P S total o fs=true→o≤total:=by
   intro fs;induction fs with
   |nil=>intro o h;simp[kQ] at h;omega
   |cons g gs ihg=>intro o h;simp only[kQ,Bool.and_eq_true] at h;have:=ihg _ h.2;omega
  have hle':=hle fs _ ht1;obtain ⟨xss,d1,d2,d3⟩:=tA n ih total fs (off+P.cellsOf f.type) cs ys ht1 hl h1 hle';refine ⟨xs::xss,?_,⟨c2,d2⟩,?_⟩
  ·rw[ht0] at c1;have:cs.drop off=(cs.drop off).take (P.cellsOf f.type)++cs.drop (off+P.cellsOf f.type):=by
    rw[←List.drop_drop];exact (List.take_append_drop _ _).symm
   rw[this];exact c1.append d1
  ·simp only[List.flatten_cons,List.map_cons,Rows.uptoBulkAll,uU];omega
theorem uX (n:Nat) (e:TypeId) (he:S e=true)
  (ih:∀t cs x,S t=true→DataW.trod enc P w base spare held n t cs=some x→∃xs,CR w cs xs∧bc P n t xs∧cB xs≤Rows.uptoBulk x.1) (cs:List Value):
  ∀(m k:Nat) (ys:List (DataW H×List MemPlace)),cs.length=(k+m)*P.cellsOf e→
   lI (fun i y=>DataW.trod enc P w base spare held n e ((cs.drop (i*P.cellsOf e)).take (P.cellsOf e))=some y) (List.range' k m) ys→
   ∃xss:List (List AV),CR w (cs.drop (k*P.cellsOf e)) xss.flatten∧xss.length=m∧(∀zs∈xss,bc P n e zs)∧cB xss.flatten≤Rows.uptoBulkAll (ys.map (·.1))
 |0,k,ys,hl,h2=>by
  refine ⟨[],?_,rfl,by simp,by simp[cB]⟩
  rw[List.drop_of_length_le (by simp at hl;omega)]
  exact .nil
 |m+1,k,[],_,h2=>by simp[List.range'_succ,lI] at h2
 |m+1,k,y::ys,hl,h2=>by
  rw[List.range'_succ] at h2;obtain ⟨h0,h1⟩:=h2;obtain ⟨xs,c1,c2,c3⟩:=ih _ _ _ he h0;obtain ⟨xss,d1,d2,d3,d4⟩:=uX n e he ih cs m (k+1) ys (by rw[hl];congr 1;omega) h1
  refine ⟨xs::xss,?_,by simp[d2],?_,?_⟩
  ·have:cs.drop (k*P.cellsOf e)=(cs.drop (k*P.cellsOf e)).take (P.cellsOf e)++cs.drop ((k+1)*P.cellsOf e):=by
    rw[Nat.add_mul,Nat.one_mul,←List.drop_drop];exact (List.take_append_drop _ _).symm
   rw[this];exact c1.append d1
  ·intro zs hz;rcases List.mem_cons.1 hz with rfl|hz
   ·exact c2
   ·exact d3 zs hz
  ·simp only[List.flatten_cons,List.map_cons,Rows.uptoBulkAll,uU];omega
theorem aaM (a:Addr) (k j:Nat) (h:a.spot=none∨0<k):(a.add k).add j=⟨a.block,a.off+k+j,none⟩:=by
 obtain ⟨b,o,s⟩:=a;by_cases hk:k=0
 ·subst hk;simp at h;subst h;by_cases hj:j=0<;>simp[Addr.add,hj]
 ·by_cases hj:j=0<;>simp[Addr.add,hk,hj]
theorem tQ (n:Nat) (e:TypeId) (he:S e=true) (a:Addr)
  (ih:∀t cs x,S t=true→DataW.trod enc P w base spare held n t cs=some x→∃xs,CR w cs xs∧bc P n t xs∧cB xs≤Rows.uptoBulk x.1) (hs:0<P.cellsOf e):
  ∀(m k:Nat) (ys:List (DataW H×List MemPlace)),
   lI (fun i y=>((w.cells? base (a.add (i*P.cellsOf e)) (P.cellsOf e)).bind (DataW.trod enc P w base spare held n e))=some y) (List.range' k m) ys→
   ∃(rows:List (List AV)) (vs:List Value),CR w vs rows.flatten∧vs.length=m*P.cellsOf e∧(∀j v,vs[j]? =some v→w.cell? ⟨a.block,a.off+k*P.cellsOf e+j,none⟩=some v)∧rows.length=m∧(∀zs∈rows,bc P n e zs∧zs.length=P.cellsOf e)∧fF rows≤Rows.uptoBulkAll (ys.map (·.1))∧(k=0→0<m→a.spot=none)
 |0,k,ys,h2=>⟨[],[],.nil,by simp,fun j v hv=>(by simp at hv),rfl,by simp,by simp[fF],by simp⟩
 |m+1,k,[],h2=>by simp[List.range'_succ,lI] at h2
 |m+1,k,y::ys,h2=>by
  rw[List.range'_succ] at h2;obtain ⟨h0,h1⟩:=h2;obtain ⟨rows,vs,d1,dl,dc,d2,d3,d4,d5⟩:=tQ n e he a ih hs m (k+1) ys h1;cases hc:w.cells? base (a.add (k*P.cellsOf e)) (P.cellsOf e) with
  |none=>simp[hc] at h0
  |some cs=>
   simp only[hc,Option.bind_some] at h0;obtain ⟨xs,c1,c2,c3⟩:=ih _ _ _ he h0;unfold World.cells? at hc;split at hc
   ·have m7:=mH hc;have hlen:cs.length=P.cellsOf e:=by have:=xn m7;simpa using this.symm
    have nD:∀j v,cs[j]? =some v→w.cell? ((a.add (k*P.cellsOf e)).add j)=some v:=by
     intro j v hj;obtain ⟨i,hi,hv⟩:=yn m7 hj;have hi':i=j:=by
      have:=(List.getElem?_eq_some_iff.1 hi);obtain ⟨q1,q2⟩:=this;simpa using q2.symm
     rw[←hi'];exact hv
    have Zh:a.spot=none∨0<k*P.cellsOf e:=by
     by_cases hk:0<k*P.cellsOf e
     ·exact .inr hk
     ·have hk0:k*P.cellsOf e=0:=by omega
      have h00:=nD 0 (cs[0]'(by omega)) (by simp)
      rw[hk0] at h00;simp only[Addr.add,if_true] at h00;unfold World.cell? at h00;split at h00
      ·split at h00
       ·simp at h00
       ·rename_i q;left;simpa using q
      ·simp at h00
    refine ⟨xs::rows,cs++vs,?_,?_,fun j v hj=> ?_,by simp[d2],?_,?_,?_⟩
    ·rw[List.flatten_cons];exact c1.append d1
    ·rw[List.length_append,hlen,dl,Nat.add_mul];omega
    ·by_cases hjl:j<cs.length
     ·rw[List.getElem?_append_left hjl] at hj;have h:=nD j v hj;rw[aaM a _ j Zh] at h;exact h
     ·rw[List.getElem?_append_right (by omega)] at hj
      have h:=dc _ v hj;rw[hlen] at h;rw[hlen] at hjl;rw[Nat.add_mul,Nat.one_mul] at h;rw[show a.off+k*P.cellsOf e+j=a.off+(k*P.cellsOf e+P.cellsOf e)+(j-P.cellsOf e) by omega]
      exact h
    ·intro zs hz;rcases List.mem_cons.1 hz with rfl|hz
     ·exact ⟨c2,by rw[←c1.length,hlen]⟩
     ·exact d3 zs hz
    ·simp only[fF,List.map_cons,Rows.uptoBulkAll];omega
    ·intro hk0 _;rcases Zh with h|h
     ·exact h
     ·subst hk0;simp at h
   ·simp at hc
theorem Vn {b o n c s:Nat} {e:TypeId} {vs:List Value} {rows:List (List AV)} (h:CR w vs rows.flatten) (hl:vs.length=n*s) (hc:∀j v,vs[j]? =some v→w.cell? ⟨b,o+j,none⟩=some v) (hn:rows.length=n) (hn0:0<n) (hs:0<s) (hu:∀r∈rows,r.length=s) (eT:n≤c):
  VA (jq w).get .no (img w.heap.size (.slice (some ⟨b,o,none⟩) n c)) (.slice e s rows)∧isU (img w.heap.size (.slice (some ⟨b,o,none⟩) n c))=false:=by
 have qu:0<n*s:=Nat.mul_pos hn0 hs;have hb:∃cur et fz,w.heap[b]? =some (.cells cur et fz):=by
  have h0:=hc 0 (vs[0]'(by omega)) (by simp)
  unfold World.cell? at h0;split at h0
  ·rename_i cur et fz q;exact ⟨cur,et,fz,q⟩
  ·simp at h0
 obtain ⟨cur,et,fz,hb⟩:=hb;have hlt:b<w.heap.size:=(Array.getElem?_eq_some_iff.1 hb).1;have eO:∀j v,vs[j]? =some v→cur[o+j]? =some v:=fun j v hj=>by
  have:=hc j v hj;unfold World.cell? at this;rw[hb] at this;simpa using this
 have hle:o+n*s≤cur.size:=by
  have h0:=eO (n*s-1) (vs[n*s-1]'(by omega)) (by simp)
  have:=(Array.getElem?_eq_some_iff.1 h0).1;omega
 have heq:(cur.toList.drop o).take (n*s)=vs:=by
  apply List.ext_getElem?;intro j;rw[List.getElem?_take];split
  ·rename_i hj;rw[List.getElem?_drop];have:=eO j (vs[j]'(by omega)) (by simp)
   rw[Array.getElem?_toList,this];simp
  ·rename_i hj;rw[List.getElem?_eq_none (by omega)]
 have himg:img w.heap.size (.slice (some ⟨b,o,none⟩) n c)= .sl b o n (.k c):=by
  show (if n=0 then _ else if b<w.heap.size∧n≤c then SV.sl b o n (.k c) else .undef)=_
  rw[if_neg (by omega),if_pos ⟨hlt,eT⟩]
 have hwin:((cur.toList.map (img w.heap.size)).drop o).take (n*s)=vs.map (img w.heap.size):=by
  rw[←List.map_drop,←List.map_take,heq]
 have hF:cN ((jq w).get b) o (n*s)=some (0,cur.toList.map (img w.heap.size)):=by
  rw[sd,hb];show sel (j8 (((cur.toList.map (img w.heap.size)).drop o).take (n*s))) (some (0,cur.toList.map (img w.heap.size))) none=_;rw[hwin,ax,if_pos (uP fun j x hx=> ?_)]
  rw[List.getElem?_map] at hx;cases hv:vs[j]? with
  |none=>rw[hv] at hx;cases hx
  |some v=>rw[hv] at hx;cases hx;exact h.2 v (List.mem_of_getElem? hv)
 rw[himg];exact ⟨.slice hF eT hn.symm hu (by simpa using hle) (by rw[hwin];exact h.1),rfl⟩
theorem ur {nb:Nat} {a:Option Addr} {c:Nat} {F:Hf} {e:TypeId} {s:Nat}:VA F .no (img nb (.slice a 0 c)) (.slice e s [])∧isU (img nb (.slice a 0 c))=false:=by
 have h:img nb (.slice a 0 c)=if a=none∧c=0 then SV.aV else .sle:=by simp[img]
 rw[h];split
 ·exact ⟨.jl _ _,rfl⟩
 ·exact ⟨.dy _ _,rfl⟩
theorem rQ (hP:∀t,S t=true→qM P S t=true):∀(n:Nat) (t:TypeId) (cs:List Value) (x:DataW H×List MemPlace),S t=true→DataW.trod enc P w base spare held n t cs=some x→
  ∃xs,CR w cs xs∧bc P n t xs∧cB xs≤Rows.uptoBulk x.1
 |0,_,_,_,_,h=>by simp[DataW.trod] at h
 |n+1,t,cs,x,hlt,h=>by
  have ih:=rQ hP n;have hX:=hP t hlt;unfold DataW.trod at h;unfold qM at hX;split at h
  ·rename_i b hu;simp at h;subst h;exact ⟨[.bool b],.one (.bool b) rfl,by simp[bc,hu],by simp[cB,jj,Rows.uptoBulk]⟩
  ·rename_i k k' i hu;split at h
   ·rename_i hc;obtain ⟨rfl,hw⟩:=hc;simp at h;subst h;exact ⟨[.int k' i],.one (.int _ _) rfl,by simp[bc,hu,hw],by simp[cB,jj,Rows.uptoBulk]⟩
   ·simp at h
  ·rename_i k k' i hu;rw[hu] at hX;cases hX
  ·rename_i s hu;split at h
   ·rename_i hc;simp at h;subst h;exact ⟨[.str s],.one (.str _) rfl,by simp[bc,hu,hc],by simp[cB,jj,Rows.uptoBulk]⟩
   ·simp at h
  ·rename_i hu;rw[hu] at hX;cases hX
  ·rename_i e a hu;rw[hu] at hX;cases hX
  ·rename_i e hu;simp at h;subst h;exact ⟨[.slice e (P.cellsOf e) []],.one (ur (a:=none) (c:=0)).1 (ur (F:=fun _=>none) (e:=0) (s:=0)).2,by simp[bc,hu],by simp[cB,jj,fF,Rows.uptoBulk]⟩
  ·rename_i e a len cap hu;simp only at h;split at h
   ·rename_i hc;cases hr:(List.range len).mapM fun i=>(w.cells? base (a.add (i*P.cellsOf e)) (P.cellsOf e)).bind (DataW.trod enc P w base spare held n e) with
    |none=>simp[hr] at h
    |some ys=>
     simp only[hr,Option.bind_some,Option.map_eq_some_iff] at h;obtain ⟨rest,_,rfl⟩:=h;simp only[hu,Bool.and_eq_true,decide_eq_true_eq] at hX;obtain ⟨he,hs⟩:=hX;have h2:=mH hr;rw[List.range_eq_range'] at h2;obtain ⟨rows,vs,d1,dl,dc,d2,d3,d4,d5⟩:=tQ n e he a ih hs len 0 ys h2;have key:VA (jq w).get .no (img w.heap.size (.slice (some a) len cap)) (.slice e (P.cellsOf e) rows)∧isU (img w.heap.size (.slice (some a) len cap))=false:=by
      by_cases hl0:len=0
      ·subst hl0;rw[List.eq_nil_of_length_eq_zero d2];exact ur
      ·have hsp:=d5 rfl (by omega)
       obtain ⟨ab,ao,asp⟩:=a;simp at hsp;subst hsp;exact Vn d1 dl (fun j v hj=>by have:=dc j v hj;simpa using this) d2 (by omega) hs (fun r hr=>(d3 r hr).2) hc.2.1
     refine ⟨[.slice e (P.cellsOf e) rows],.one key.1 key.2,?_,?_⟩
     ·simp only[bc,hu];exact ⟨rows,rfl,fun r hr=>(d3 r hr).1⟩
     ·simp only[cB,jj,Rows.uptoBulk];omega
   ·simp at h
  ·rename_i fs hu;split at h
   ·rename_i hl;simp only[Option.map_eq_some_iff] at h;obtain ⟨ys,hm,rfl⟩:=h;simp only[hu] at hX;obtain ⟨xss,d1,d2,d3⟩:=tA n ih _ fs.toList 0 _ ys hX hl (mH hm) (Nat.zero_le _);exact ⟨xss.flatten,by simpa using d1,by simp only[bc,hu];exact ⟨xss,rfl,d2⟩,by simp only[Rows.uptoBulk];omega⟩
   ·simp at h
  ·rename_i m e hu;split at h
   ·rename_i hl;simp only[Option.map_eq_some_iff] at h;obtain ⟨ys,hm,rfl⟩:=h;simp only[hu,beq_iff_eq,Bool.and_eq_true] at hX;have h2:=mH hm;rw[List.range_eq_range'] at h2;obtain ⟨xss,d1,d2,d3,d4⟩:=uX n e hX.2 ih _ m 0 ys (by rw[hl,hX.1];simp) h2
    exact ⟨xss.flatten,by simpa using d1,by simp only[bc,hu];exact ⟨xss,rfl,d2,d3⟩,by simp only[Rows.uptoBulk];omega⟩
   ·simp at h
  all_goals first
   |(rename_i hu;rw[hu] at hX;cases hX;done)
   |(cases h;done)
mutual
def zP:AV→Prop
 | .int k n=>(Lit.int k n).wf=true
 | .str s=>s.size≤maxLen
 | .slice _ _ rows=>oQ rows
 |_=>True
def oQ:List (List AV)→Prop
 | []=>True
 |r::rs=>jM r∧oQ rs
def jM:List AV→Prop
 | []=>True
 |x::xs=>zP x∧jM xs
end
theorem IS {xs ys:List AV} (h:jM xs) (k:jM ys):jM (xs++ys):=by
 induction xs with
 |nil=>exact k
 |cons x xs ih=>exact ⟨h.1,ih h.2⟩
theorem Lp {rows:List (List AV)} (h:∀r∈rows,jM r):oQ rows:=by
 induction rows with
 |nil=>trivial
 |cons r rs ih=>exact ⟨h r (by simp),ih fun x hx=>h x (by simp[hx])⟩
theorem tC {rows:List (List AV)} (h:∀r∈rows,jM r):jM rows.flatten:=by
 induction rows with
 |nil=>trivial
 |cons r rs ih=>exact IS (h r (by simp)) (ih fun x hx=>h x (by simp[hx]))
theorem rP:∀(n:Nat) (t:TypeId) (xs:List AV),bc P n t xs→jM xs
 |0,_,_,h=>h.elim
 |n+1,t,xs,h=>by
  have ih:=rP n;unfold bc at h;split at h
  ·obtain ⟨b,rfl⟩:=h;exact ⟨trivial,trivial⟩
  ·obtain ⟨b,rfl,hw⟩:=h;exact ⟨hw,trivial⟩
  ·obtain ⟨b,rfl,hw⟩:=h;exact ⟨hw,trivial⟩
  ·obtain ⟨rows,rfl,hr⟩:=h;exact ⟨Lp fun r h=>ih _ _ (hr r h),trivial⟩
  ·obtain ⟨xss,rfl,h2⟩:=h;exact tC fun r hr=>by obtain ⟨f,hf⟩:=Xo h2 hr;exact ih _ _ hf
  ·obtain ⟨xss,rfl,_,h2⟩:=h;exact tC fun r hr=>ih _ _ (h2 r hr)
  ·exact h.elim
theorem jI {α:Type} {en:α→List AV} {rows:List (List AV)} (h:∀r∈rows,∃x,r=en x):∃ys:List α,rows=ys.map en:=by
 induction rows with
 |nil=>exact ⟨[],rfl⟩
 |cons r rs ih=>
  obtain ⟨y,rfl⟩:=h r (by simp)
  obtain ⟨ys,rfl⟩:=ih fun x hx=>h x (by simp[hx])
  exact ⟨y::ys,rfl⟩
def AR (W:World) (P:Program) (v:Value) (x:AV):Prop:=VA (jq W).get .no (Iu W.heap.size v) x∧VR (gW P W) v (Iu W.heap.size v)
theorem ML {P:Program} {W:World}:∀{cs:List Value},(∀v∈cs,isU (img W.heap.size v)=false)→VCs (gW P W) cs (cs.map (img W.heap.size))
 | [],_=>.nil
 |v::cs,h=>.cons (MF (h v (by simp))) (Is v) (ML fun u hu=>h u (by simp[hu]))
theorem aaL (hP:∀t,S t=true→qM P S t=true) {t:TypeId} (ht:S t=true) {v:Value} {d:DataW H} {ps:List MemPlace} (h:DataW.Trod enc P w base spare held t v d ps) {cs:Array Value} (hv:v= .agg cs):
  ∃xs n,AR w P v (.agg xs)∧bc P n t xs∧cB xs≤Rows.uptoBulk d:=by
 obtain ⟨n,hn⟩:=h;obtain ⟨xs,h1,h2,h3⟩:=rQ hP n t _ _ ht hn;subst hv;exact ⟨xs,n,⟨.agg h1.1,.agg (ML h1.2)⟩,h2,h3⟩
theorem MK (hP:∀t,S t=true→qM P S t=true) {t:TypeId} (ht:S t=true) {v:Value} {d:DataW H} {ps:List MemPlace} (h:DataW.Trod enc P w base spare held t v d ps) (hv:v.cells.toList= [v]):
  ∃x n,AR w P v x∧bc P n t [x]∧cB [x]≤Rows.uptoBulk d:=by
 obtain ⟨n,hn⟩:=h;obtain ⟨xs,h1,h2,h3⟩:=rQ hP n t _ _ ht hn;rw[hv] at h1;obtain ⟨h1,hu⟩:=h1;cases h1 with
 |cons hd ht=>
  cases ht;have e:Iu w.heap.size v=img w.heap.size v:=by
   cases v<;>first|rfl|(have:=hu _ (List.mem_singleton.2 rfl);cases this;done)
  exact ⟨_,n,⟨by rw[e];exact hd,by rw[e];exact Is v⟩,h2,h3⟩
end
end Go.Sim
end
noncomputable section
namespace Go.Sim
open Go.RowKit Go.ChangeShapes Go.Proofs.YtmealahmjddpcaaGreatDoor
section
variable {H:Type} {enc:TypeId×Value→H} {P:Program}
theorem tz (hl:laidOutB P=true) {W W':World} {sp:Nat→Bool}:∀{ts:List TypeId} {vs:List Value} {ds:List (DataW H)} {ps:List MemPlace},
  (∀t∈ts,P.readableRec t=true∧t<P.types.size)→DataW.TrodAll enc P W 0 (fun _=>true) true ts vs ds ps→Below W.heap.size W W'→(∀p∈ps,p.block<W.heap.size)→(∀p∈ps,sp p.block=true)→
  DataW.TrodAll enc P W' 0 sp true ts vs ds ps
 | [],_,_,_,_,h,_,_,_=>by
  obtain ⟨rfl,rfl,rfl⟩:=trodAll_nil h;exact rfl
 |t::ts,_,_,_,ht,h,hb,hlt,hsp=>by
  obtain ⟨v,vs,d,ds,p,q,rfl,rfl,rfl,h1,h2⟩:=trodAll_cons h;refine ⟨p,q,?_,tz hl (fun t h=>ht t (by simp[h])) h2 hb (fun x hx=>hlt x (by simp[hx])) (fun x hx=>hsp x (by simp[hx])),rfl⟩
  exact WideElems.Trod_stays hl (ht t (by simp)).1 (ht t (by simp)).2 h1 (fun x hx=>hb.same (hlt x (by simp[hx]))) (fun x hx=>hsp x (by simp[hx]))
theorem KK {W:World}:∀{vs:List Value} {xs:List AV},lI (AR W P) vs xs→VAs (jq W).get .no (vs.map (Iu W.heap.size)) xs∧VRs (gW P W) vs (vs.map (Iu W.heap.size))
 | [],[],_=>⟨.nil,.nil⟩
 |v::vs,x::xs,h=>⟨.cons h.1.1 (KK h.2).1,.cons h.1.2 (KK h.2).2⟩
 | [],_::_,h=>h.elim
 |_::_,[],h=>h.elim
theorem law_contract {E:Env} (hS:iS E) (hE:∀W,bp E (gW E.P W)) {f:FuncId} (hgo:sD E (.fn (.func f) [] [])=true) {fn:Func} {s:ChangeSpec} {tb:TypeId} (hl:laidOutB E.P=true) (hts:(fn.params.toList.all fun t=>E.P.readableRec t&&decide (t<E.P.types.size))=true)
  (aT:fn.resultTypes= #[tb]) (htb:E.P.underlying tb=some .bool) (hv:s.vars= []) (hfn:∀ds:List (DataW H),ds.length=fn.params.size→s.fn H ds={results:= [.lit (.bool true)],args:=ds})
  {W:World} {args:Array Value} {ds gs:List (DataW H)} {before:List MemPlace}
  (hW:DataW.Whole enc E.P fn.params.toList s.vars false W args.toList ds gs before)
  (sC:∃xs:List AV,bR E f [] xs (.bool true) []∧lI (AR W E.P) args.toList xs):
  Calls E.P f args W fun e W'=>∃v,e= .returned v∧s.post enc E.P fn false true false false W args v W':=by
 obtain ⟨xs,hs,h2⟩:=sC;obtain ⟨k1,k2⟩:=KK h2;have hc:=Pv hS (hE W) hs hgo k1 k2;rw[Array.toArray_toList] at hc;refine hc.mono ?_;rintro e W' ⟨rfl,hb⟩;refine ⟨_,rfl,?_⟩;have hW':=hW;obtain ⟨p,q,hA,hV,rfl,hfz,hnd⟩:=hW;rw[hv] at hV;obtain ⟨rfl,rfl⟩:=trodVars_none hV;have hdl:ds.length=fn.params.size:=by
  have:∀{ts:List TypeId} {vs:List Value} {ds:List (DataW H)} {ps:List MemPlace},DataW.TrodAll enc E.P W 0 (fun _=>true) true ts vs ds ps→ds.length=ts.length:=by
   intro ts;induction ts with
   |nil=>intro vs ds ps h;obtain ⟨rfl,rfl,rfl⟩:=trodAll_nil h;rfl
   |cons t ts ih=>intro vs ds ps h;obtain ⟨v,vs,d,ds,p,q,rfl,rfl,rfl,h1,h2⟩:=trodAll_cons h;simp[ih h2]
  simpa using this hA
 have hf:=hfn (ds++ []) (by simpa using hdl)
 have hlt:∀x∈p,x.block<W.heap.size:=fun x hx=>hW'.lt x (by simp[hx])
 have htt:∀t∈fn.params.toList,E.P.readableRec t=true∧t<E.P.types.size:=fun t ht=>by
  have:=List.all_eq_true.1 hts t ht;simpa using this
 have hold:∀x∈p,(fun b=>decide (b<W.heap.size)) x.block=true:=fun x hx=>by simpa using hlt x hx
 refine ⟨ds,[],p++ [],[],p,[],hW',?_,?_,?_,hb.frame _,fun h=>by cases h⟩
 ·rw[hf,aT];exact trodAll_cons_mk (shut_bool htb _) trodAll_mk0
 ·rw[hf];simp only[List.append_nil];exact tz hl htt hA hb hlt hold
 ·rw[hf,hv];exact rfl
theorem w8 {W:World} {base:Nat} {t e:TypeId} {v:Value} (hu:P.underlying t=some (.slice e)) (h:Value.okWide P W .any base t v):v.cells.toList= [v]:=by
 simp only[Value.okWide,hu,Cell.okWide,Cell.ok] at h;split at h<;>first|rfl|(simp_all;done)|(exact h.elim)
theorem Lv {W:World} {base:Nat} {t:TypeId} {fs:Array Field} {v:Value} (hu:P.underlying t=some (.struct fs)) (h:Value.okWide P W .any base t v):∃cs,v= .agg cs:=by
 simp only[Value.okWide,hu] at h;obtain ⟨cs,h,_⟩:=h;exact ⟨cs,h⟩
end
end Go.Sim
end
noncomputable section
set_option maxRecDepth 1000000
namespace Go.Proofs.YtmealahmjddpcaaGreatDoor
open Go.Sim
def tyT:Tr TI:=Xz Tryz.prog 338
def fnT:Tr Func:=Zp Tryz.prog
def env (adY:List Nat) (aba:List (Nat×Nat)) (fc:List Mo) (stop:List Nat) (lt eq:List (SI×SI×Bool)) (done:List (Nat×SV)):Env:=⟨Tryz.prog,tyT,fnT,lt,eq,done,adY,aba,fc,stop⟩
end Go.Proofs.YtmealahmjddpcaaGreatDoor
end
noncomputable section
set_option maxRecDepth 1000000
namespace Go.Proofs.YtmealahmjddpcaaGreatDoor
open Go.Sim
theorem DV:vZ Tryz.prog tyT fnT:=abc 338 158 (fe:=Tryz.f158) (by kernel_rfl) (by kernel_rfl) Tryz.func158 (by kernel_rfl) (by kernel_rfl) (by kernel_rfl)
end Go.Proofs.YtmealahmjddpcaaGreatDoor
end
noncomputable section
set_option maxRecDepth 100000
namespace Go.Proofs.YtmealahmjddpcaaGreatDoor
open Go.Sim
def E0:Env:=env [] [] [] [] [] [] [(15,.bool true)]
def Ah (f:Func):Code:=f.body.getD .skip
def enc2 (x:Int):List AV:= [.int .i64 x]
def Cz (x:Int):List AV:= [.int .i64 x]
def aR (xs:List Int):List (List AV):=xs.map Cz
theorem tT (xs:List Int):aR xs=xs.map Cz:=rfl
theorem R3:RowsK Cz aR:=⟨tT⟩
def I6 (x:Int):List AV:= [.int .u8 x]
def mq (xs:List Int):List (List AV):=xs.map I6
theorem CZ (xs:List Int):mq xs=xs.map I6:=rfl
theorem R5:RowsK I6 mq:=⟨CZ⟩
def enc9 (x:ByteArray):List AV:= [.str x]
structure aa where
 ar:Int
 bL:Int
 bj:ByteArray
def gd (x:aa):List AV:= [.int .i64 x.ar,.int .i64 x.bL,.str x.bj]
def aO (xs:List aa):List (List AV):=xs.map gd
theorem rV (xs:List aa):aO xs=xs.map gd:=rfl
theorem R64:RowsK gd aO:=⟨rV⟩
def Pc (x:(List aa)):List AV:= [.slice 65 3 (aO x)]
def jn (xs:List (List aa)):List (List AV):=xs.map Pc
theorem Nz (xs:List (List aa)):jn xs=xs.map Pc:=rfl
theorem R42:RowsK Pc jn:=⟨Nz⟩
structure ak where
 fOp:Int
 aD:Int
 az:(List aa)
 af:(List Int)
 bg:(List aa)
def hY (x:ak):List AV:= [.int .i64 x.fOp,.int .i64 x.aD,.slice 65 3 (aO x.az),.slice 3 1 (aR x.af),.slice 65 3 (aO x.bg)]
def cc (xs:List ak):List (List AV):=xs.map hY
theorem rX (xs:List ak):cc xs=xs.map hY:=rfl
theorem R54:RowsK hY cc:=⟨rX⟩
def Pd (x:(List ak)):List AV:= [.slice 55 5 (cc x)]
def Ht (xs:List (List ak)):List (List AV):=xs.map Pd
theorem NA (xs:List (List ak)):Ht xs=xs.map Pd:=rfl
theorem R23:RowsK Pd Ht:=⟨NA⟩
structure aL where
 bk:ByteArray
 ar:Int
def sO (x:aL):List AV:= [.str x.bk,.int .i64 x.ar]
def jm (xs:List aL):List (List AV):=xs.map sO
theorem yT (xs:List aL):jm xs=xs.map sO:=rfl
theorem R76:RowsK sO jm:=⟨yT⟩
structure aB where
 af:(List Int)
 aD:Int
def pY (x:aB):List AV:= [.slice 3 1 (aR x.af),.int .i64 x.aD]
def gj (xs:List aB):List (List AV):=xs.map pY
theorem yS (xs:List aB):gj xs=xs.map pY:=rfl
theorem R79:RowsK pY gj:=⟨yS⟩
structure aw where
 ar:Int
 bH:Int
 aM:aa
def jN (x:aw):List AV:= [.int .i64 x.ar,.int .i64 x.bH,.int .i64 x.aM.ar,.int .i64 x.aM.bL,.str x.aM.bj]
def qQ (xs:List aw):List (List AV):=xs.map jN
theorem Nx (xs:List aw):qQ xs=xs.map jN:=rfl
theorem R81:RowsK jN qQ:=⟨Nx⟩
structure ag where
 fOp:Int
 ga:Int
 bw:aw
 bf:aw
 fArgs:(List ag)
mutual
def oS:ag→List AV
 |⟨fOp,ga,bw,bf,fArgs⟩=> [.int .i64 fOp,.int .i64 ga,.int .i64 bw.ar,.int .i64 bw.bH,.int .i64 bw.aM.ar,.int .i64 bw.aM.bL,.str bw.aM.bj,.int .i64 bf.ar,.int .i64 bf.bH,.int .i64 bf.aM.ar,.int .i64 bf.aM.bL,.str bf.aM.bj,.slice 84 13 (dV fArgs)]
def dV:List ag→List (List AV)
 | []=> []
 |x::xs=>oS x::dV xs
end
def eX (x:ag):List AV:= [.int .i64 x.fOp,.int .i64 x.ga,.int .i64 x.bw.ar,.int .i64 x.bw.bH,.int .i64 x.bw.aM.ar,.int .i64 x.bw.aM.bL,.str x.bw.aM.bj,.int .i64 x.bf.ar,.int .i64 x.bf.bH,.int .i64 x.bf.aM.ar,.int .i64 x.bf.aM.bL,.str x.bf.aM.bj,.slice 84 13 (dV x.fArgs)]
theorem Uu (x:ag):oS x=eX x:=by cases x;simp[oS,eX]
theorem rU (xs:List ag):dV xs=xs.map eX:=by
 induction xs with
 |nil=>simp[dV]
 |cons x xs ih=>simp[dV,ih,Uu]
theorem R83:RowsK eX dV:=⟨rU⟩
structure aj where
 bk:ByteArray
 af:(List aL)
 az:Int
 aU:(List aB)
 bK:(List ag)
def dX (x:aj):List AV:= [.str x.bk,.slice 77 2 (jm x.af),.int .i64 x.az,.slice 80 2 (gj x.aU),.slice 84 13 (dV x.bK)]
def cD (xs:List aj):List (List AV):=xs.map dX
theorem rW (xs:List aj):cD xs=xs.map dX:=rfl
theorem R62:RowsK dX cD:=⟨rW⟩
structure J where
 bz:Int
 ae:(List aj)
def aX (x:J):List AV:= [.int .i64 x.bz,.slice 63 5 (cD x.ae)]
structure ai where
 fh:(List Int)
 fat:Int
def br (x:ai):List AV:= [.slice 5 1 (mq x.fh),.int .i64 x.fat]
def Pb (x:(List (List aa))):List AV:= [.slice 43 1 (jn x)]
def ia (xs:List (List (List aa))):List (List AV):=xs.map Pb
theorem Ny (xs:List (List (List aa))):ia xs=xs.map Pb:=rfl
theorem R66:RowsK Pb ia:=⟨Ny⟩
structure aq where
 ae:(List (List (List aa)))
def mB (x:aq):List AV:= [.slice 66 1 (ia x.ae)]
structure cH where
 eI:(List Int)
 fB:(List Int)
def rp (x:cH):List AV:= [.slice 3 1 (aR x.eI),.slice 3 1 (aR x.fB)]
end Go.Proofs.YtmealahmjddpcaaGreatDoor
end
noncomputable section
set_option maxRecDepth 100000
namespace Go.Proofs.YtmealahmjddpcaaGreatDoor
open Go.Sim
def PS (_n:Nat) (a b:ByteArray):Option Int:=some (Lib.compareBytes a.data.toList b.data.toList)
def HA (r:Int):AV:=.int .i64 r
def aaa (_r:Int):List (Nat×Bx):= []
def C158:=Cx E0 158 HA aaa
def ZW (a b:ByteArray):LS:=⟨[(0,.str a),(1,.str b)],[]⟩
theorem aem (n:Nat):K2 C158 ZW (PS n):=fun a b r h=>by
 have e:=Option.some.inj h;subst e;show bR E0 158 [] [.str a,.str b] (HA (Lib.compareBytes a.data.toList b.data.toList)) [];rw[show HA (Lib.compareBytes a.data.toList b.data.toList)= .int .i64 (oV a b) from congrArg (AV.int .i64) (Dw a b)];exact bR.cmp (fn:=Tryz.f158) (by kernel_rfl) (by kernel_rfl) (by kernel_rfl) (by kernel_rfl) (by kernel_rfl) (by kernel_rfl)
def F15 (_n:Nat):Option Bool:=some true
def adP (r:Bool):AV:=.bool r
def abw (_r:Bool):List (Nat×Bx):= []
def C15:=Cx E0 15 adP abw
def abn:LS:=⟨[],[]⟩
theorem ev15 (n:Nat):K0 C15 abn (F15 n):=fun r h=>by
 have e:=Option.some.inj h;subst e;exact bR.done (v:=.bool true) (by kernel_rfl) fun F g=>.bool true
end Go.Proofs.YtmealahmjddpcaaGreatDoor
end
noncomputable section
set_option maxRecDepth 100000
namespace Go.Proofs.YtmealahmjddpcaaGreatDoor
open Go.Sim
def res8 (r:ai):AV:=.loc 200000 0
def Yu (r:ai):List (Nat×Bx):= [(200000,.flat 74 (br r))]
def x8:=fx E0 Tryz.f8 [] [200000]
def A8:=Ax x8 res8 Yu
def C8:=Cx E0 8 res8 Yu
def XE (fM:List Int) (sb:Int):LS:=⟨[(0,.slice 5 1 (mq fM)),(1,.int .i64 sb)],[]⟩
def Xv (n : Nat) (fM : List Int) (sb : Int) : Option ai :=
 (cut fM none (some (if sb < (fM.length : Int) then sb else (fM.length : Int)))).bind fun x7 =>
 (app [] x7).bind fun x9 =>
 some (ai.mk x9 0)
theorem b8_0 (n : Nat) : K2 (A8 []) XE (Xv n) := fun fM sb r h =>
 be h fun x7 hx7 h =>
 be h fun x9 hx9 h =>
 rr h [(3, .eqv (R5.au fM)), (2, R5.cut hx7), (0, .born [] [] 11 true 5 1), (0, R5.app (xs := []) hx9 .dat), (3, .ren 13 200000), (0, R5.frz 11 x9), (0, .norm [] [(200000, .flat [.sl 0 0])])]
def F8 (n:Nat) (fM:List Int) (sb:Int):Option ai:=Xv n fM sb
theorem ev8 (n:Nat):K2 C8 XE (F8 n):=fun _ _ _ h=>ca (X:=x8) (b8_0 n h)
def Yl (r:(Int×ai)):AV:=.int .i64 r.1
def Te (r:(Int×ai)):List (Nat×Bx):= [(0,.flat 74 (br r.2))]
def x24:=fx E0 Tryz.f24 [0] [0]
def A24:=Ax x24 Yl Te
def C24:=Cx E0 24 Yl Te
def Ry (c0:ai) (n1:Int):LS:=⟨[(0,.loc 0 0),(1,.int .i64 n1)],[(0,.flat 74 (br c0))]⟩
def QF (n : Nat) (c0 : ai) (n1 : Int) : Option (Int × ai) :=
 if !decide (c0.fat < (c0.fh.length : Int)) then
 some (0, c0)
 else
 if decide (n1 < 1) then
 some (0, c0)
 else
 (idx c0.fh (w64 ((w64 (c0.fat + 1)) - 1))).bind fun x33 =>
 (rem (w64 (x33)) n1).bind fun x38 =>
 some ((Int.tmod (w64 (x33)) n1), (ai.mk c0.fh (w64 (c0.fat + 1))))
theorem agv (n : Nat) : K2 (A24 []) Ry (QF n) := fun c0 n1 r h =>
 ie h (fun c0_ h =>
 rr h [(9, .eqv (R5.au c0.fh)), (0, eb c0_)]) (fun c0_ h =>
 ie h (fun c1 h =>
 rr h [(9, .eqv (R5.au c0.fh)), (0, eb c0_), (2, eb c1)]) (fun c1 h =>
 be h fun x33 IA h =>
 be h fun x38 Ck h =>
 rr h [(9, .eqv (R5.au c0.fh)), (0, eb c0_), (2, eb c1), (18, R5.idx IA), (3, .nz (HB Ck).1)]))
def F24 (n:Nat) (c0:ai) (n1:Int):Option (Int×ai):=QF n c0 n1
theorem bJ (n:Nat):K2 C24 Ry (F24 n):=fun _ _ _ h=>ca (X:=x24) (agv n h)
def Yk (r:(Bool×ai)):AV:=.bool r.1
def Td (r:(Bool×ai)):List (Nat×Bx):= [(0,.flat 74 (br r.2))]
def x29:=fx E0 Tryz.f29 [0] [0]
def A29:=Ax x29 Yk Td
def C29:=Cx E0 29 Yk Td
def Rx (c0:ai) (n1:Int):LS:=⟨[(0,.loc 0 0),(1,.int .i64 n1)],[(0,.flat 74 (br c0))]⟩
def QE (n : Nat) (c0 : ai) (n1 : Int) : Option (Bool × ai) :=
 (F24 n c0 n1).bind fun x4 =>
 some (x4.1 == (w64 (n1 - 1)), x4.2)
theorem agu (n : Nat) : K2 (A29 []) Rx (QE n) := fun c0 n1 r h =>
 be h fun x4 hx4 h =>
 rr h [(3, .call (bJ n hx4) [] [(0, 0)] [])]
def F29 (n:Nat) (c0:ai) (n1:Int):Option (Bool×ai):=QE n c0 n1
theorem eP (n:Nat):K2 C29 Rx (F29 n):=fun _ _ _ h=>ca (X:=x29) (agu n h)
def Yj (r:aL):AV:=.agg (sO r)
def Tc (r:aL):List (Nat×Bx):= []
def x30:=fx E0 Tryz.f30 [] []
def A30:=Ax x30 Yj Tc
def C30:=Cx E0 30 Yj Tc
def Rw (vC:ByteArray) (hO:Int):LS:=⟨[(0,.str vC),(1,.int .i64 hO)],[]⟩
def QD (n : Nat) (vC : ByteArray) (hO : Int) : Option aL :=
 some (aL.mk vC hO)
theorem agt (n : Nat) : K2 (A30 []) Rw (QD n) := fun vC hO r h =>
 rr h []
def F30 (n:Nat) (vC:ByteArray) (hO:Int):Option aL:=QD n vC hO
theorem jf (n:Nat):K2 C30 Rw (F30 n):=fun _ _ _ h=>ca (X:=x30) (agt n h)
def Se (r:(Int×ai)):AV:=.int .i64 r.1
def Mq (r:(Int×ai)):List (Nat×Bx):= [(0,.flat 74 (br r.2))]
def x106:=fx E0 Tryz.f106 [0] [0]
def A106:=Ax x106 Se Mq
def C106:=Cx E0 106 Se Mq
def LU (c0:ai):LS:=⟨[(0,.loc 0 0)],[(0,.flat 74 (br c0))]⟩
def KB (n : Nat) (c0 : ai) : Option (Int × ai) :=
 (F24 n c0 12).bind fun x3 =>
 if x3.1 == 9 then
 some ((-1), x3.2)
 else
 if x3.1 == 10 then
 some (9223372036854775807, x3.2)
 else
 if x3.1 == 11 then
 some ((-9223372036854775808), x3.2)
 else
 (rem x3.1 4).bind fun x14 =>
 some ((Int.tmod x3.1 4), x3.2)
theorem acJ (n : Nat) : K1 (A106 []) LU (KB n) := fun c0 r h =>
 be h fun x3 hx3 h =>
 ie h (fun c0_ h =>
 rr h [(2, .call (bJ n hx3) [] [(0, 0)] []), (2, eb c0_)]) (fun c0_ h =>
 ie h (fun c1 h =>
 rr h [(2, .call (bJ n hx3) [] [(0, 0)] []), (2, eb c0_), (1, eb c1)]) (fun c1 h =>
 ie h (fun c2 h =>
 rr h [(2, .call (bJ n hx3) [] [(0, 0)] []), (2, eb c0_), (1, eb c1), (1, eb c2)]) (fun c2 h =>
 be h fun x14 gN h =>
 rr h [(2, .call (bJ n hx3) [] [(0, 0)] []), (2, eb c0_), (1, eb c1), (1, eb c2), (2, .nz (HB gN).1)])))
def P0 (n:Nat) (c0:ai):Option (Int×ai):=KB n c0
theorem aeq (n:Nat):K1 C106 LU (P0 n):=fun _ _ h=>ca (X:=x106) (acJ n h)
def Sd (r:(ByteArray×ai)):AV:=.str r.1
def Mp (r:(ByteArray×ai)):List (Nat×Bx):= [(0,.flat 74 (br r.2))]
def x107:=fx E0 Tryz.f107 [0] [0]
def ml:=Ax x107 Sd Mp
def C107:=Cx E0 107 Sd Mp
def BB (dF:ByteArray) (i4:Int) (b0:ai):LS:=⟨[(3,.str dF),(4,.int .i64 i4)],[(0,.flat 74 (br b0))]⟩
def BA (dF:ByteArray) (b0:ai):LS:=⟨[(3,.str dF)],[(0,.flat 74 (br b0))]⟩
def Bz (dF:ByteArray) (i5:Int) (b0:ai):LS:=⟨[(3,.str dF),(5,.int .i64 i5)],[(0,.flat 74 (br b0))]⟩
def By (dF:ByteArray) (b0:ai):LS:=⟨[(3,.str dF)],[(0,.flat 74 (br b0))]⟩
def LR (c0:ai):LS:=⟨[(0,.loc 0 0)],[(0,.flat 74 (br c0))]⟩
def A1 (k_1 : ByteArray → ai → Option (ByteArray × ai)) (back : ByteArray → Int → ai → Option (ByteArray × ai)) (n : Nat) (dF : ByteArray) (i4 : Int) (b0 : ai) : Option (ByteArray × ai) :=
 if decide (i4 < 64) then
 (cat dF (ByteArray.mk #[255])).bind fun x4 =>
 back (dF ++ (ByteArray.mk #[255])) (w64 (i4 + 1)) b0
 else
 k_1 dF b0
theorem acI {k_1} (aH : K2 (ml [1, 0, 1, 1, 1, 1, 1, 1, 1, 1, 1, 1, 1, 0, 1, 0, 1, 1]) BA k_1) {back} (ay : K3 (ml [0, 1, 0, 0, 1, 1, 1, 1, 1, 1, 1, 1, 1, 1, 1, 0, 1, 0, 1, 1]) BB back) (n : Nat) : K3 (ml [0, 1, 0, 0, 1, 1, 1, 1, 1, 1, 1, 1, 1, 1, 1, 0, 1, 0, 1, 1]) BB (A1 k_1 back n) := fun dF i4 b0 r h =>
 ie h (fun c0_ h =>
 be h fun x4 hx4 h =>
 ra (ay h) [(1, eb c0_), (1, .cat (Jh hx4).1)]) (fun c0_ h =>
 ra (aH h) [(1, eb c0_)])
def rB (k_1:ByteArray→ai→Option (ByteArray×ai)):Nat→ByteArray→Int→ai→Option (ByteArray×ai)
 |0,_,_,_=>none
 |n+1,dF,i4,b0=>A1 k_1 (rB k_1 n) n dF i4 b0
theorem TP {k_1} (aH:K2 (ml [1,0,1,1,1,1,1,1,1,1,1,1,1,0,1,0,1,1]) BA k_1):∀n:Nat,K3 (ml [0,1,0,0,1,1,1,1,1,1,1,1,1,1,1,0,1,0,1,1]) BB (rB k_1 n)
 |0=>fun _ _ _ _ h=>nz h
 |n+1=>fun _ _ _ _ h=>acI aH (TP aH n) n h
def U9 (n : Nat) (dF : ByteArray) (b0 : ai) : Option (ByteArray × ai) :=
 some (dF, b0)
theorem acH (n : Nat) : K2 (ml [1, 0, 1, 1, 1, 1, 1, 1, 1, 1, 1, 1, 1, 0, 1, 0, 1, 1]) BA (U9 n) := fun dF b0 r h =>
 rr h []
def A0 (k_3 : ByteArray → ai → Option (ByteArray × ai)) (back : ByteArray → Int → ai → Option (ByteArray × ai)) (n : Nat) (dF : ByteArray) (i5 : Int) (b0 : ai) : Option (ByteArray × ai) :=
 if decide (i5 < 64) then
 (cat dF (ByteArray.mk #[98])).bind fun x4 =>
 back (dF ++ (ByteArray.mk #[98])) (w64 (i5 + 1)) b0
 else
 k_3 dF b0
theorem acG {k_3} (bE : K2 (ml [1, 1, 1, 1]) By k_3) {back} (ay : K3 (ml [0, 1, 0, 1, 1, 1]) Bz back) (n : Nat) : K3 (ml [0, 1, 0, 1, 1, 1]) Bz (A0 k_3 back n) := fun dF i5 b0 r h =>
 ie h (fun c0_ h =>
 be h fun x4 hx4 h =>
 ra (ay h) [(1, eb c0_), (1, .cat (Jh hx4).1)]) (fun c0_ h =>
 ra (bE h) [(1, eb c0_)])
def rA (k_3:ByteArray→ai→Option (ByteArray×ai)):Nat→ByteArray→Int→ai→Option (ByteArray×ai)
 |0,_,_,_=>none
 |n+1,dF,i5,b0=>A0 k_3 (rA k_3 n) n dF i5 b0
theorem TO {k_3} (bE:K2 (ml [1,1,1,1]) By k_3):∀n:Nat,K3 (ml [0,1,0,1,1,1]) Bz (rA k_3 n)
 |0=>fun _ _ _ _ h=>nz h
 |n+1=>fun _ _ _ _ h=>acG bE (TO bE n) n h
def U8 (n : Nat) (dF : ByteArray) (b0 : ai) : Option (ByteArray × ai) :=
 some (dF, b0)
theorem acF (n : Nat) : K2 (ml [1, 1, 1, 1]) By (U8 n) := fun dF b0 r h =>
 rr h []
def KA (n : Nat) (c0 : ai) : Option (ByteArray × ai) :=
 (F24 n c0 10).bind fun x4 =>
 if x4.1 == 0 then
 some ((ByteArray.mk #[97]), x4.2)
 else
 if x4.1 == 1 then
 some ((ByteArray.mk #[97]), x4.2)
 else
 if x4.1 == 2 then
 some ((ByteArray.mk #[97]), x4.2)
 else
 if x4.1 == 3 then
 some ((ByteArray.mk #[98]), x4.2)
 else
 if x4.1 == 4 then
 some ((ByteArray.mk #[98]), x4.2)
 else
 if x4.1 == 5 then
 some (ByteArray.empty, x4.2)
 else
 if x4.1 == 6 then
 some ((ByteArray.mk #[97, 0]), x4.2)
 else
 if x4.1 == 7 then
 some ((ByteArray.mk #[255]), x4.2)
 else
 if x4.1 == 8 then
 rB (U9 n) n ByteArray.empty 0 x4.2
 else
 rA (U8 n) n ByteArray.empty 0 x4.2
theorem acE (n : Nat) : K1 (ml []) LR (KA n) := fun c0 r h =>
 be h fun x4 hx4 h =>
 ie h (fun c0_ h =>
 rr h [(3, .call (bJ n hx4) [] [(0, 0)] []), (0, eb c0_)]) (fun c0_ h =>
 ie h (fun c1 h =>
 rr h [(3, .call (bJ n hx4) [] [(0, 0)] []), (0, eb c0_), (1, eb c1)]) (fun c1 h =>
 ie h (fun c2 h =>
 rr h [(3, .call (bJ n hx4) [] [(0, 0)] []), (0, eb c0_), (1, eb c1), (1, eb c2)]) (fun c2 h =>
 ie h (fun c3 h =>
 rr h [(3, .call (bJ n hx4) [] [(0, 0)] []), (0, eb c0_), (1, eb c1), (1, eb c2), (1, eb c3)]) (fun c3 h =>
 ie h (fun c4 h =>
 rr h [(3, .call (bJ n hx4) [] [(0, 0)] []), (0, eb c0_), (1, eb c1), (1, eb c2), (1, eb c3), (1, eb c4)]) (fun c4 h =>
 ie h (fun c5 h =>
 rr h [(3, .call (bJ n hx4) [] [(0, 0)] []), (0, eb c0_), (1, eb c1), (1, eb c2), (1, eb c3), (1, eb c4), (1, eb c5)]) (fun c5 h =>
 ie h (fun c6 h =>
 rr h [(3, .call (bJ n hx4) [] [(0, 0)] []), (0, eb c0_), (1, eb c1), (1, eb c2), (1, eb c3), (1, eb c4), (1, eb c5), (1, eb c6)]) (fun c6 h =>
 ie h (fun c7 h =>
 rr h [(3, .call (bJ n hx4) [] [(0, 0)] []), (0, eb c0_), (1, eb c1), (1, eb c2), (1, eb c3), (1, eb c4), (1, eb c5), (1, eb c6), (1, eb c7)]) (fun c7 h =>
 ie h (fun c8 h =>
 ra (TP (acH n) n h) [(3, .call (bJ n hx4) [] [(0, 0)] []), (0, eb c0_), (1, eb c1), (1, eb c2), (1, eb c3), (1, eb c4), (1, eb c5), (1, eb c6), (1, eb c7), (1, eb c8)]) (fun c8 h =>
 ra (TO (acF n) n h) [(3, .call (bJ n hx4) [] [(0, 0)] []), (0, eb c0_), (1, eb c1), (1, eb c2), (1, eb c3), (1, eb c4), (1, eb c5), (1, eb c6), (1, eb c7), (1, eb c8)])))))))))
def PZ (n:Nat) (c0:ai):Option (ByteArray×ai):=KA n c0
theorem aep (n:Nat):K1 C107 LR (PZ n):=fun _ _ h=>ca (X:=x107) (acE n h)
def XX (r:(aa×ai)):AV:=.agg (gd r.1)
def SN (r:(aa×ai)):List (Nat×Bx):= [(0,.flat 74 (br r.2))]
def x74:=fx E0 Tryz.f74 [0] [0]
def A74:=Ax x74 XX SN
def C74:=Cx E0 74 XX SN
def Q9 (c0:ai) (hO:Int):LS:=⟨[(0,.loc 0 0),(1,.int .i64 hO)],[(0,.flat 74 (br c0))]⟩
def Qh (n : Nat) (c0 : ai) (hO : Int) : Option (aa × ai) :=
 if hO == 3 then
 (F24 n c0 2).bind fun x7 =>
 some ((aa.mk hO x7.1 ByteArray.empty), x7.2)
 else
 if hO == 4 then
 (P0 n c0).bind fun x9 =>
 some ((aa.mk hO x9.1 ByteArray.empty), x9.2)
 else
 (PZ n c0).bind fun x8 =>
 some ((aa.mk 5 0 x8.1), x8.2)
theorem afr (n : Nat) : K2 (A74 []) Q9 (Qh n) := fun c0 hO r h =>
 ie h (fun c0_ h =>
 be h fun x7 hx7 h =>
 rr h [(2, eb c0_), (3, .call (bJ n hx7) [] [(0, 0)] [])]) (fun c0_ h =>
 ie h (fun c1 h =>
 be h fun x9 hx9 h =>
 rr h [(2, eb c0_), (1, eb c1), (3, .call (aeq n hx9) [] [(0, 0)] [])]) (fun c1 h =>
 be h fun x8 hx8 h =>
 rr h [(2, eb c0_), (1, eb c1), (2, .call (aep n hx8) [] [(0, 0)] [])]))
def F74 (n:Nat) (c0:ai) (hO:Int):Option (aa×ai):=Qh n c0 hO
theorem IY (n:Nat):K2 C74 Q9 (F74 n):=fun _ _ _ h=>ca (X:=x74) (afr n h)
def Sj (r:(aw×ai)):AV:=.agg (jN r.1)
def Mv (r:(aw×ai)):List (Nat×Bx):= [(0,.flat 74 (br r.2))]
def x101:=fx E0 Tryz.f101 [0] [0]
def mn:=Ax x101 Sj Mv
def C101:=Cx E0 101 Sj Mv
def BN (params2:List Int) (cI:Int) (t15:List Int) (t16 t17:Int) (b0:ai) (b8:aw) (b29:List aw):LS:=⟨[(0,.loc 0 0),(2,.slice 3 1 (aR params2)),(3,.int .i64 cI),(8,.loc 8 0),(9,.ms 29 5 0 b29.length),(15,.slice 3 1 (aR t15)),(16,.int .i64 t16),(17,.int .i64 t17)],[(0,.flat 74 (br b0)),(8,.flat 82 (jN b8)),(29,.rows true 82 5 (qQ b29))]⟩
def BM (cI:Int) (t31:List Int) (t32 t33:Int) (b0:ai) (b8:aw) (b29:List aw):LS:=⟨[(0,.loc 0 0),(3,.int .i64 cI),(8,.loc 8 0),(9,.ms 29 5 0 b29.length),(31,.slice 3 1 (aR t31)),(32,.int .i64 t32),(33,.int .i64 t33)],[(0,.flat 74 (br b0)),(8,.flat 82 (jN b8)),(29,.rows true 82 5 (qQ b29))]⟩
def BL (cI:Int) (b0:ai) (b8:aw) (b29:List aw):LS:=⟨[(0,.loc 0 0),(3,.int .i64 cI),(8,.loc 8 0),(9,.ms 29 5 0 b29.length)],[(0,.flat 74 (br b0)),(8,.flat 82 (jN b8)),(29,.rows true 82 5 (qQ b29))]⟩
def BK (params2:List Int) (cI:Int) (b0:ai) (b8:aw) (b29:List aw):LS:=⟨[(0,.loc 0 0),(2,.slice 3 1 (aR params2)),(3,.int .i64 cI),(8,.loc 8 0),(9,.ms 29 5 0 b29.length)],[(0,.flat 74 (br b0)),(8,.flat 82 (jN b8)),(29,.rows true 82 5 (qQ b29))]⟩
def LW (c0:ai) (aQ params2:List Int) (cI:Int):LS:=⟨[(0,.loc 0 0),(1,.slice 3 1 (aR aQ)),(2,.slice 3 1 (aR params2)),(3,.int .i64 cI)],[(0,.flat 74 (br c0))]⟩
def Bc (k_3 : (List Int) → Int → ai → aw → (List aw) → Option (aw × ai)) (back : (List Int) → Int → (List Int) → Int → Int → ai → aw → (List aw) → Option (aw × ai)) (n : Nat) (params2 : List Int) (cI : Int) (t15 : List Int) (t16 t17 : Int) (b0 : ai) (b8 : aw) (b29 : List aw) : Option (aw × ai) :=
 if decide (t17 < t16) then
 (idx t15 t17).bind fun x3 =>
 if x3 == cI then
 (app b29 [(aw.mk 1 t17 (aa.mk 0 0 ByteArray.empty))]).bind fun x15 =>
 back params2 cI t15 t16 (w64 (t17 + 1)) b0 b8 x15
 else
 back params2 cI t15 t16 (w64 (t17 + 1)) b0 b8 b29
 else
 k_3 params2 cI b0 b8 b29
theorem ada {k_3} (bE : K5 (mn [1, 1, 1]) BK k_3) {back} (ay : K8 (mn [0, 1, 0, 1, 1]) BN back) (n : Nat) : K8 (mn [0, 1, 0, 1, 1]) BN (Bc k_3 back n) := fun params2 cI t15 t16 t17 b0 b8 b29 r h =>
 ie h (fun c0_ h =>
 be h fun x3 hx3 h =>
 ie h (fun c1 h =>
 be h fun x15 cV h =>
 ra (ay h) [(0, eb c0_), (1, R3.idx hx3), (5, eb c1), (4, R81.app cV (R81.srW [(aw.mk 1 t17 (aa.mk 0 0 ByteArray.empty))]))]) (fun c1 h =>
 ra (ay h) [(0, eb c0_), (1, R3.idx hx3), (5, eb c1)])) (fun c0_ h =>
 ra (bE h) [(0, eb c0_)])
def rG (k_3:(List Int)→Int→ai→aw→(List aw)→Option (aw×ai)):Nat→(List Int)→Int→(List Int)→Int→Int→ai→aw→(List aw)→Option (aw×ai)
 |0,_,_,_,_,_,_,_,_=>none
 |n+1,params2,cI,t15,t16,t17,b0,b8,b29=>Bc k_3 (rG k_3 n) n params2 cI t15 t16 t17 b0 b8 b29
theorem TV {k_3} (bE:K5 (mn [1,1,1]) BK k_3):∀n:Nat,K8 (mn [0,1,0,1,1]) BN (rG k_3 n)
 |0=>fun _ _ _ _ _ _ _ _ _ h=>nz h
 |n+1=>fun _ _ _ _ _ _ _ _ _ h=>ada bE (TV bE n) n h
def Bb (k_2 : Int → ai → aw → (List aw) → Option (aw × ai)) (back : Int → (List Int) → Int → Int → ai → aw → (List aw) → Option (aw × ai)) (n : Nat) (cI : Int) (t31 : List Int) (t32 t33 : Int) (b0 : ai) (b8 : aw) (b29 : List aw) : Option (aw × ai) :=
 if decide (t33 < t32) then
 (idx t31 t33).bind fun x3 =>
 if x3 == cI then
 (app b29 [(aw.mk 2 t33 (aa.mk 0 0 ByteArray.empty))]).bind fun x15 =>
 back cI t31 t32 (w64 (t33 + 1)) b0 b8 x15
 else
 back cI t31 t32 (w64 (t33 + 1)) b0 b8 b29
 else
 k_2 cI b0 b8 b29
theorem acZ {k_2} (bW : K4 (mn [1, 1, 1, 1]) BL k_2) {back} (ay : K7 (mn [0, 1, 0, 1, 1, 1]) BM back) (n : Nat) : K7 (mn [0, 1, 0, 1, 1, 1]) BM (Bb k_2 back n) := fun cI t31 t32 t33 b0 b8 b29 r h =>
 ie h (fun c0_ h =>
 be h fun x3 hx3 h =>
 ie h (fun c1 h =>
 be h fun x15 cV h =>
 ra (ay h) [(0, eb c0_), (1, R3.idx hx3), (5, eb c1), (4, R81.app cV (R81.srW [(aw.mk 2 t33 (aa.mk 0 0 ByteArray.empty))]))]) (fun c1 h =>
 ra (ay h) [(0, eb c0_), (1, R3.idx hx3), (5, eb c1)])) (fun c0_ h =>
 ra (bW h) [(0, eb c0_)])
def rF (k_2:Int→ai→aw→(List aw)→Option (aw×ai)):Nat→Int→(List Int)→Int→Int→ai→aw→(List aw)→Option (aw×ai)
 |0,_,_,_,_,_,_,_=>none
 |n+1,cI,t31,t32,t33,b0,b8,b29=>Bb k_2 (rF k_2 n) n cI t31 t32 t33 b0 b8 b29
theorem TU {k_2} (bW:K4 (mn [1,1,1,1]) BL k_2):∀n:Nat,K7 (mn [0,1,0,1,1,1]) BM (rF k_2 n)
 |0=>fun _ _ _ _ _ _ _ _ h=>nz h
 |n+1=>fun _ _ _ _ _ _ _ _ h=>acZ bW (TU bW n) n h
def vm (n : Nat) (cI : Int) (b0 : ai) (b8 : aw) (b29 : List aw) : Option (aw × ai) :=
 (F24 n b0 (w64 ((b29.length : Int) + 1))).bind fun x5 =>
 if decide (x5.1 < (b29.length : Int)) then
 (bnd b29.length x5.1).bind fun x14 =>
 (b29[0 + x14]?).bind fun x16 =>
 some (x16, x5.2)
 else
 (F74 n x5.2 cI).bind fun x14 =>
 some ((aw.mk 3 0 x14.1), x14.2)
theorem acY (n : Nat) : K4 (mn [1, 1, 1, 1]) BL (vm n) := fun cI b0 b8 b29 r h =>
 be h fun x5 hx5 h =>
 ie h (fun c0_ h =>
 be h fun x14 gN h =>
 be h fun x16 dG h =>
 rr h [(4, .call (bJ n hx5) [] [(0, 0)] []), (4, eb c0_), (2, cP gN), (0, R81.row dG)]) (fun c0_ h =>
 be h fun x14 gN h =>
 rr h [(4, .call (bJ n hx5) [] [(0, 0)] []), (4, eb c0_), (2, .call (IY n gN) [] [(0, 0)] [])])
def Ba (n : Nat) (params2 : List Int) (cI : Int) (b0 : ai) (b8 : aw) (b29 : List aw) : Option (aw × ai) :=
 rF (vm n) n cI params2 (params2.length : Int) 0 b0 b8 b29
theorem acX (n : Nat) : K5 (mn [1, 1, 1]) BK (Ba n) := fun params2 cI b0 b8 b29 r h =>
 ra (TU (acY n) n h) [(1, .eqv (R3.au params2))]
def Vb (n : Nat) (c0 : ai) (aQ params2 : List Int) (cI : Int) : Option (aw × ai) :=
 rG (Ba n) n params2 cI aQ (aQ.length : Int) 0 c0 (aw.mk 0 0 (aa.mk 0 0 ByteArray.empty)) []
theorem acW (n : Nat) : K4 (mn []) LW (Vb n) := fun c0 aQ params2 cI r h =>
 ra (TV (acX n) n h) [(3, .eqv (R3.au aQ)), (1, .born [9] [] 29 true 82 5)]
def P2 (n:Nat) (c0:ai) (aQ params2:List Int) (cI:Int):Option (aw×ai):=Vb n c0 aQ params2 cI
theorem O6 (n:Nat):K4 C101 LW (P2 n):=fun _ _ _ _ _ h=>ca (X:=x101) (acW n h)
def XZ (r:(ag×ai)):AV:=.agg (eX r.1)
def SQ (r:(ag×ai)):List (Nat×Bx):= [(0,.flat 74 (br r.2))]
def x72:=fx E0 Tryz.f72 [0] [0]
def A72:=Ax x72 XZ SQ
def C72:=Cx E0 72 XZ SQ
def abg (b0:ai) (b8 b11:ag):LS:=⟨[(0,.loc 0 0),(8,.loc 8 0),(11,.loc 11 0)],[(0,.flat 74 (br b0)),(8,.flat 84 [.int .i64 0,.int .i64 0,.int .i64 0,.int .i64 0,.int .i64 0,.int .i64 0,.str ByteArray.empty,.int .i64 0,.int .i64 0,.int .i64 0,.int .i64 0,.str ByteArray.empty,.aV]),(11,.flat 84 [.int .i64 3,.int .i64 b11.ga,.int .i64 b11.bw.ar,.int .i64 b11.bw.bH,.int .i64 b11.bw.aM.ar,.int .i64 b11.bw.aM.bL,.str b11.bw.aM.bj,.int .i64 b11.bf.ar,.int .i64 b11.bf.bH,.int .i64 b11.bf.aM.ar,.int .i64 b11.bf.aM.bL,.str b11.bf.aM.bj,.aV])]⟩
def abf (aQ params2:List Int) (rb:Int) (b0:ai) (b8:ag):LS:=⟨[(0,.loc 0 0),(1,.slice 3 1 (aR aQ)),(2,.slice 3 1 (aR params2)),(8,.loc 8 0),(10,.int .i64 rb)],[(0,.flat 74 (br b0)),(8,.flat 84 [.int .i64 0,.int .i64 0,.int .i64 0,.int .i64 0,.int .i64 0,.int .i64 0,.str ByteArray.empty,.int .i64 0,.int .i64 0,.int .i64 0,.int .i64 0,.str ByteArray.empty,.aV])]⟩
def Gz (aQ params2:List Int) (cX n13:Int) (b0:ai) (b8 b12:ag) (jZ:List ag):LS:=⟨[(0,.loc 0 0),(1,.slice 3 1 (aR aQ)),(2,.slice 3 1 (aR params2)),(3,.int .i64 cX),(8,.loc 8 0),(12,.loc 12 0),(13,.int .i64 n13)],[(0,.flat 74 (br b0)),(8,.flat 84 [.int .i64 b8.fOp,.int .i64 b8.ga,.int .i64 b8.bw.ar,.int .i64 b8.bw.bH,.int .i64 b8.bw.aM.ar,.int .i64 b8.bw.aM.bL,.str b8.bw.aM.bj,.int .i64 b8.bf.ar,.int .i64 b8.bf.bH,.int .i64 b8.bf.aM.ar,.int .i64 b8.bf.aM.bL,.str b8.bf.aM.bj,.aV]),(12,.flat 84 [.int .i64 b12.fOp,.int .i64 b12.ga,.int .i64 b12.bw.ar,.int .i64 b12.bw.bH,.int .i64 b12.bw.aM.ar,.int .i64 b12.bw.aM.bL,.str b12.bw.aM.bj,.int .i64 b12.bf.ar,.int .i64 b12.bf.bH,.int .i64 b12.bf.aM.ar,.int .i64 b12.bf.aM.bL,.str b12.bf.aM.bj,.ms 104 13 0 jZ.length]),(104,.rows true 84 13 (dV jZ))]⟩
def Gy (b0:ai) (b8 b12:ag) (jZ:List ag):LS:=⟨[(8,.loc 8 0),(12,.loc 12 0)],[(0,.flat 74 (br b0)),(8,.flat 84 [.int .i64 b8.fOp,.int .i64 b8.ga,.int .i64 b8.bw.ar,.int .i64 b8.bw.bH,.int .i64 b8.bw.aM.ar,.int .i64 b8.bw.aM.bL,.str b8.bw.aM.bj,.int .i64 b8.bf.ar,.int .i64 b8.bf.bH,.int .i64 b8.bf.aM.ar,.int .i64 b8.bf.aM.bL,.str b8.bf.aM.bj,.aV]),(12,.flat 84 [.int .i64 b12.fOp,.int .i64 b12.ga,.int .i64 b12.bw.ar,.int .i64 b12.bw.bH,.int .i64 b12.bw.aM.ar,.int .i64 b12.bw.aM.bL,.str b12.bw.aM.bj,.int .i64 b12.bf.ar,.int .i64 b12.bf.bH,.int .i64 b12.bf.aM.ar,.int .i64 b12.bf.aM.bL,.str b12.bf.aM.bj,.ms 104 13 0 jZ.length]),(104,.rows true 84 13 (dV jZ))]⟩
def abe (aQ params2:List Int) (cX op9:Int) (t27:Bool) (b0:ai) (b8:ag):LS:=⟨[(0,.loc 0 0),(1,.slice 3 1 (aR aQ)),(2,.slice 3 1 (aR params2)),(3,.int .i64 cX),(8,.loc 8 0),(9,.int .i64 op9),(27,.bool t27)],[(0,.flat 74 (br b0)),(8,.flat 84 [.int .i64 0,.int .i64 0,.int .i64 0,.int .i64 0,.int .i64 0,.int .i64 0,.str ByteArray.empty,.int .i64 0,.int .i64 0,.int .i64 0,.int .i64 0,.str ByteArray.empty,.aV])]⟩
def lj (c0:ai) (aQ params2:List Int) (cX:Int):LS:=⟨[(0,.loc 0 0),(1,.slice 3 1 (aR aQ)),(2,.slice 3 1 (aR params2)),(3,.int .i64 cX)],[(0,.flat 74 (br c0))]⟩
def AI (cU : ai → (List Int) → (List Int) → Int → Option (ag × ai)) (n : Nat) (b0 : ai) (b8 b11 : ag) : Option (ag × ai) :=
 (F29 n b0 6).bind fun x2 =>
 if x2.1 then
 some ((ag.mk 3 b11.ga b11.bf b11.bw []), x2.2)
 else
 some ((ag.mk 3 b11.ga b11.bw b11.bf []), x2.2)
theorem ZF {cU} (fy : K4 C72 lj cU) (n : Nat) : K3 (A72 [1, 1, 1, 1, 0, 1, 1, 1, 0, 0, 1, 1]) abg (AI cU n) := fun b0 b8 b11 r h =>
 be h fun x2 hx2 h =>
 ie h (fun c0_ h =>
 rr h [(1, .call (cb (eP n hx2) c0_) [] [(0, 0)] []), (10, .norm [] [(8, .flat [.same, .same, .same, .same, .same, .same, .same, .same, .same, .same, .same, .same, .sl 84 13])])]) (fun c0_ h =>
 rr h [(1, .call (cb (eP n hx2) c0_) [] [(0, 0)] []), (2, .norm [] [(8, .flat [.same, .same, .same, .same, .same, .same, .same, .same, .same, .same, .same, .same, .sl 84 13])])])
def AH (cU : ai → (List Int) → (List Int) → Int → Option (ag × ai)) (n : Nat) (aQ params2 : List Int) (rb : Int) (b0 : ai) (b8 : ag) : Option (ag × ai) :=
 (F24 n b0 6).bind fun x2 =>
 (P2 n x2.2 aQ params2 rb).bind fun x9 =>
 (F74 n x9.2 rb).bind fun x13 =>
 (F29 n x13.2 3).bind fun x20 =>
 if x20.1 then
 (P2 n x20.2 aQ params2 rb).bind fun x26 =>
 AI cU n x26.2 (ag.mk 0 0 (aw.mk 0 0 (aa.mk 0 0 ByteArray.empty)) (aw.mk 0 0 (aa.mk 0 0 ByteArray.empty)) []) (ag.mk 3 (w64 (1 + x2.1)) x9.1 x26.1 [])
 else
 AI cU n x20.2 (ag.mk 0 0 (aw.mk 0 0 (aa.mk 0 0 ByteArray.empty)) (aw.mk 0 0 (aa.mk 0 0 ByteArray.empty)) []) (ag.mk 3 (w64 (1 + x2.1)) x9.1 (aw.mk 3 0 x13.1) [])
theorem ZE {cU} (fy : K4 C72 lj cU) (n : Nat) : K5 (A72 [1, 1, 0, 1, 1, 1, 0, 0, 1, 1]) abf (AH cU n) := fun aQ params2 rb b0 b8 r h =>
 be h fun x2 hx2 h =>
 be h fun x9 hx9 h =>
 be h fun x13 bT h =>
 be h fun x20 lx h =>
 ie h (fun c0_ h =>
 be h fun x26 oH h =>
 ra (ZF fy n h) [(1, .call (bJ n hx2) [] [(0, 0)] []), (5, .call (O6 n hx9) [] [(0, 0)] []), (2, .call (IY n bT) [] [(0, 0)] []), (5, .call (cb (eP n lx) c0_) [] [(0, 0)] []), (4, .call (O6 n oH) [] [(0, 0)] [])]) (fun c0_ h =>
 ra (ZF fy n h) [(1, .call (bJ n hx2) [] [(0, 0)] []), (5, .call (O6 n hx9) [] [(0, 0)] []), (2, .call (IY n bT) [] [(0, 0)] []), (5, .call (cb (eP n lx) c0_) [] [(0, 0)] [])])
def E2 (cU : ai → (List Int) → (List Int) → Int → Option (ag × ai)) (k_3 : ai → ag → ag → (List ag) → Option (ag × ai)) (back : (List Int) → (List Int) → Int → Int → ai → ag → ag → (List ag) → Option (ag × ai)) (n : Nat) (aQ params2 : List Int) (cX n13 : Int) (b0 : ai) (b8 b12 : ag) (jZ : List ag) : Option (ag × ai) :=
 if !decide (n13 < 0) then
 (cU b0 aQ params2 (w64 (cX - 1))).bind fun x10 =>
 (app jZ [x10.1]).bind fun x13 =>
 back aQ params2 cX (w64 (n13 - 1)) x10.2 (ag.mk b8.fOp b8.ga b8.bw b8.bf []) (ag.mk b12.fOp b12.ga b12.bw b12.bf x13) x13
 else
 k_3 b0 (ag.mk b8.fOp b8.ga b8.bw b8.bf []) (ag.mk b12.fOp b12.ga b12.bw b12.bf jZ) jZ
theorem afv {cU} (fy : K4 C72 lj cU) {k_3} (bE : K4 (A72 [1, 1, 1, 1, 1]) Gy k_3) {back} (ay : K8 (A72 [0, 1, 0, 1, 1, 1, 1]) Gz back) (n : Nat) : K8 (A72 [0, 1, 0, 1, 1, 1, 1]) Gz (E2 cU k_3 back n) := fun aQ params2 cX n13 b0 b8 b12 jZ r h =>
 ie h (fun c0_ h =>
 be h fun x10 cx h =>
 be h fun x13 bT h =>
 ra (ay h) [(1, eb c0_), (7, .call (fy cx) [] [(0, 0)] []), (0, .laid (congrArg (fun q_ => Bx.rows false 84 13 q_) (R83.map [x10.1]).symm)), (0, R83.app bT (R83.srW [x10.1]))]) (fun c0_ h =>
 ra (bE h) [(1, eb c0_)])
def wo (cU:ai→(List Int)→(List Int)→Int→Option (ag×ai)) (k_3:ai→ag→ag→(List ag)→Option (ag×ai)):Nat→(List Int)→(List Int)→Int→Int→ai→ag→ag→(List ag)→Option (ag×ai)
 |0,_,_,_,_,_,_,_,_=>none
 |n+1,aQ,params2,cX,n13,b0,b8,b12,jZ=>E2 cU k_3 (wo cU k_3 n) n aQ params2 cX n13 b0 b8 b12 jZ
theorem YQ {cU} (fy:K4 C72 lj cU) {k_3} (bE:K4 (A72 [1,1,1,1,1]) Gy k_3):∀n:Nat,K8 (A72 [0,1,0,1,1,1,1]) Gz (wo cU k_3 n)
 |0=>fun _ _ _ _ _ _ _ _ _ h=>nz h
 |n+1=>fun _ _ _ _ _ _ _ _ _ h=>afv fy bE (YQ fy bE n) n h
def E1 (cU : ai → (List Int) → (List Int) → Int → Option (ag × ai)) (n : Nat) (b0 : ai) (b8 b12 : ag) (jZ : List ag) : Option (ag × ai) :=
 some ((ag.mk b12.fOp b12.ga b12.bw b12.bf jZ), b0)
theorem afu {cU} (fy : K4 C72 lj cU) (n : Nat) : K4 (A72 [1, 1, 1, 1, 1]) Gy (E1 cU n) := fun b0 b8 b12 jZ r h =>
 rr h [(2, R83.frz 104 jZ), (0, .norm [] [(8, .flat [.same, .same, .same, .same, .same, .same, .same, .same, .same, .same, .same, .same, .sl 0 0])])]
def nT (cU : ai → (List Int) → (List Int) → Int → Option (ag × ai)) (n : Nat) (aQ params2 : List Int) (cX op9 : Int) (t27 : Bool) (b0 : ai) (b8 : ag) : Option (ag × ai) :=
 if t27 then
 if decide (0 < (aQ.length : Int)) then
 (F24 n b0 (aQ.length : Int)).bind fun x9 =>
 (idx aQ x9.1).bind fun x11 =>
 AH cU n aQ params2 x11 x9.2 (ag.mk 0 0 (aw.mk 0 0 (aa.mk 0 0 ByteArray.empty)) (aw.mk 0 0 (aa.mk 0 0 ByteArray.empty)) [])
 else
 AH cU n aQ params2 4 b0 (ag.mk 0 0 (aw.mk 0 0 (aa.mk 0 0 ByteArray.empty)) (aw.mk 0 0 (aa.mk 0 0 ByteArray.empty)) [])
 else
 if op9 == 6 then
 (cU b0 aQ params2 (w64 (cX - 1))).bind fun x9 =>
 some ((ag.mk 6 0 (aw.mk 0 0 (aa.mk 0 0 ByteArray.empty)) (aw.mk 0 0 (aa.mk 0 0 ByteArray.empty)) [x9.1]), x9.2)
 else
 (F24 n b0 3).bind fun x11 =>
 wo cU (E1 cU n) n aQ params2 cX x11.1 x11.2 (ag.mk 0 0 (aw.mk 0 0 (aa.mk 0 0 ByteArray.empty)) (aw.mk 0 0 (aa.mk 0 0 ByteArray.empty)) []) (ag.mk (w64 ((w64 (4 + op9)) - 7)) 0 (aw.mk 0 0 (aa.mk 0 0 ByteArray.empty)) (aw.mk 0 0 (aa.mk 0 0 ByteArray.empty)) []) []
theorem Et {cU} (fy : K4 C72 lj cU) (n : Nat) : K7 (A72 [1, 1, 1, 0, 0, 1, 1]) abe (nT cU n) := fun aQ params2 cX op9 t27 b0 b8 r h =>
 ie h (fun c0_ g0 => by subst c0_; exact (
 ie g0 (fun c1 g0 =>
 be g0 fun x9 hx9 g0 =>
 be g0 fun x11 cF g0 =>
 ra (ZE fy n g0) [(2, .eqv (R3.au aQ)), (0, eb c1), (3, .eqv (R3.au aQ)), (0, .call (bJ n hx9) [] [(0, 0)] []), (0, R3.idx cF)]) (fun c1 g0 =>
 ra (ZE fy n g0) [(2, .eqv (R3.au aQ)), (0, eb c1)]))) (fun c0_ g0 => by subst c0_; exact (
 ie g0 (fun c1 g0 =>
 be g0 fun x9 hx9 g0 =>
 rr g0 [(1, eb c1), (6, .call (fy hx9) [] [(0, 0)] []), (0, .laid (congrArg (fun q_ => Bx.rows false 84 13 q_) (R83.map [x9.1]).symm)), (2, R83.frz 83 [x9.1])]) (fun c1 g0 =>
 be g0 fun x11 cF g0 =>
 ra (YQ fy (afu fy n) n g0) [(1, eb c1), (8, .call (bJ n cF) [] [(0, 0)] []), (1, .born [] [(12, 12)] 104 true 84 13)])))
def Qj (cU : ai → (List Int) → (List Int) → Int → Option (ag × ai)) (n : Nat) (c0 : ai) (aQ params2 : List Int) (cX : Int) : Option (ag × ai) :=
 (F24 n c0 9).bind fun x3 =>
 if x3.1 == 0 then
 (F29 n x3.2 2).bind fun x10 =>
 if x10.1 then
 (F24 n x10.2 2).bind fun x15 =>
 some ((ag.mk (w64 (1 + x15.1)) 0 (aw.mk 0 0 (aa.mk 0 0 ByteArray.empty)) (aw.mk 0 0 (aa.mk 0 0 ByteArray.empty)) []), x15.2)
 else
 if decide (x3.1 < 6) then
 nT cU n aQ params2 cX x3.1 true x10.2 (ag.mk 0 0 (aw.mk 0 0 (aa.mk 0 0 ByteArray.empty)) (aw.mk 0 0 (aa.mk 0 0 ByteArray.empty)) [])
 else
 nT cU n aQ params2 cX x3.1 (decide (cX < 1)) x10.2 (ag.mk 0 0 (aw.mk 0 0 (aa.mk 0 0 ByteArray.empty)) (aw.mk 0 0 (aa.mk 0 0 ByteArray.empty)) [])
 else
 if decide (x3.1 < 6) then
 nT cU n aQ params2 cX x3.1 true x3.2 (ag.mk 0 0 (aw.mk 0 0 (aa.mk 0 0 ByteArray.empty)) (aw.mk 0 0 (aa.mk 0 0 ByteArray.empty)) [])
 else
 nT cU n aQ params2 cX x3.1 (decide (cX < 1)) x3.2 (ag.mk 0 0 (aw.mk 0 0 (aa.mk 0 0 ByteArray.empty)) (aw.mk 0 0 (aa.mk 0 0 ByteArray.empty)) [])
theorem aft {cU} (fy : K4 C72 lj cU) (n : Nat) : K4 (A72 []) lj (Qj cU n) := fun c0 aQ params2 cX r h =>
 be h fun x3 hx3 h =>
 ie h (fun c0_ h =>
 be h fun x10 cx h =>
 ie h (fun c1 h =>
 be h fun x15 cV h =>
 rr h [(2, .call (bJ n hx3) [] [(0, 0)] []), (2, eb c0_), (2, .call (cb (eP n cx) c1) [] [(0, 0)] []), (3, .call (bJ n cV) [] [(0, 0)] []), (3, .norm [] [(8, .flat [.same, .same, .same, .same, .same, .same, .same, .same, .same, .same, .same, .same, .sl 84 13])])]) (fun c1 h =>
 ie h (fun c2 h =>
 ra (Et fy n h) [(2, .call (bJ n hx3) [] [(0, 0)] []), (2, eb c0_), (2, .call (cb (eP n cx) c1) [] [(0, 0)] []), (3, eb c2)]) (fun c2 h =>
 ra (Et fy n h) [(2, .call (bJ n hx3) [] [(0, 0)] []), (2, eb c0_), (2, .call (cb (eP n cx) c1) [] [(0, 0)] []), (3, eb c2)]))) (fun c0_ h =>
 ie h (fun c1 h =>
 ra (Et fy n h) [(2, .call (bJ n hx3) [] [(0, 0)] []), (2, eb c0_), (4, eb c1)]) (fun c1 h =>
 ra (Et fy n h) [(2, .call (bJ n hx3) [] [(0, 0)] []), (2, eb c0_), (4, eb c1)]))
def F72:Nat→ai→(List Int)→(List Int)→Int→Option (ag×ai)
 |0,_,_,_,_=>none
 |n+1,c0,aQ,params2,cX=>Qj (F72 n) n c0 aQ params2 cX
theorem OY:∀n:Nat,K4 C72 lj (F72 n)
 |0=>fun _ _ _ _ _ h=>nz h
 |n+1=>fun _ _ _ _ _ h=>ca (X:=x72) (aft (OY n) n h)
def R6 (r:Bool):AV:=.bool r
def Mi (r:Bool):List (Nat×Bx):= []
def x113:=fx E0 Tryz.f113 [] []
def A113:=Ax x113 R6 Mi
def C113:=Cx E0 113 R6 Mi
def LN (k0:Int):LS:=⟨[(0,.int .i64 k0)],[]⟩
def Ks (n : Nat) (k0 : Int) : Option Bool :=
 if k0 == 3 then
 some true
 else
 if k0 == 4 then
 some true
 else
 some (k0 == 5)
theorem ack (n : Nat) : K1 (A113 []) LN (Ks n) := fun k0 r h =>
 ie h (fun c0 h =>
 rr h [(2, eb c0)]) (fun c0 h =>
 ie h (fun c1 h =>
 rr h [(2, eb c0), (2, eb c1)]) (fun c1 h =>
 rr h [(2, eb c0), (2, eb c1)]))
def J4 (n:Nat) (k0:Int):Option Bool:=Ks n k0
theorem Eg (n:Nat):K1 C113 LN (J4 n):=fun _ _ h=>ca (X:=x113) (ack n h)
def Si (r:Bool):AV:=.bool r
def Mu (r:Bool):List (Nat×Bx):= []
def x102:=fx E0 Tryz.f102 [] []
def yw:=Ax x102 Si Mu
def C102:=Cx E0 102 Si Mu
def BJ (t5:List Int) (t6 t7:Int):LS:=⟨[(5,.slice 3 1 (aR t5)),(6,.int .i64 t6),(7,.int .i64 t7)],[]⟩
def BI:LS:=⟨[],[]⟩
def LV (l0:List Int):LS:=⟨[(0,.slice 3 1 (aR l0))],[]⟩
def A7 (k_1 : Option Bool) (back : (List Int) → Int → Int → Option Bool) (n : Nat) (t5 : List Int) (t6 t7 : Int) : Option Bool :=
 if decide (t7 < t6) then
 (idx t5 t7).bind fun x2 =>
 (J4 n x2).bind fun x7 =>
 if !x7 then
 some false
 else
 back t5 t6 (w64 (t7 + 1))
 else
 k_1
theorem acV {k_1} (aH : K0 (yw [1, 1]) BI k_1) {back} (ay : K3 (yw [0, 1, 0, 1]) BJ back) (n : Nat) : K3 (yw [0, 1, 0, 1]) BJ (A7 k_1 back n) := fun t5 t6 t7 r h =>
 ie h (fun c0 h =>
 be h fun x2 hx2 h =>
 be h fun x7 hx7 h =>
 ie h (fun c1 h =>
 rr h [(0, eb c0), (0, R3.idx hx2), (3, .call (Eg n hx7) [] [] []), (0, eb c1)]) (fun c1 h =>
 ra (ay h) [(0, eb c0), (0, R3.idx hx2), (3, .call (Eg n hx7) [] [] []), (0, eb c1)])) (fun c0 h =>
 ra (aH h) [(0, eb c0)])
def rE (k_1:Option Bool):Nat→(List Int)→Int→Int→Option Bool
 |0,_,_,_=>none
 |n+1,t5,t6,t7=>A7 k_1 (rE k_1 n) n t5 t6 t7
theorem TT {k_1} (aH:K0 (yw [1,1]) BI k_1):∀n:Nat,K3 (yw [0,1,0,1]) BJ (rE k_1 n)
 |0=>fun _ _ _ _ h=>nz h
 |n+1=>fun _ _ _ _ h=>acV aH (TT aH n) n h
def KJ (n : Nat) : Option Bool :=
 some true
theorem acU (n : Nat) : K0 (yw [1, 1]) BI (KJ n) := fun r h =>
 rr h []
def KH (n : Nat) (l0 : List Int) : Option Bool :=
 rE (KJ n) n l0 (l0.length : Int) 0
theorem acT (n : Nat) : K1 (yw []) LV (KH n) := fun l0 r h =>
 ra (TT (acU n) n h) [(2, .eqv (R3.au l0))]
def J8 (n:Nat) (l0:List Int):Option Bool:=KH n l0
theorem lB (n:Nat):K1 C102 LV (J8 n):=fun _ _ h=>ca (X:=x102) (acT n h)
def Sh (r:Int):AV:=.int .i64 r
def Mt (r:Int):List (Nat×Bx):= []
def x103:=fx E0 Tryz.f103 [] []
def yv:=Ax x103 Sh Mt
def Kc:=Cx E0 103 Sh Mt
def BH (n1 i5:Int) (b2:ag):LS:=⟨[(1,.int .i64 n1),(2,.loc 2 0),(5,.int .i64 i5)],[(2,.flat 84 (eX b2))]⟩
def BG (n1:Int):LS:=⟨[(1,.int .i64 n1)],[]⟩
def n4 (p0:ag) (n1:Int):LS:=⟨[(0,.agg (eX p0)),(1,.int .i64 n1)],[]⟩
def A6 (fq : ag → Int → Option Int) (k_1 : Int → Option Int) (back : Int → Int → ag → Option Int) (n : Nat) (n1 i5 : Int) (b2 : ag) : Option Int :=
 if decide (i5 < (b2.fArgs.length : Int)) then
 if !decide (24 < n1) then
 (idx b2.fArgs i5).bind fun x13 =>
 (fq x13 n1).bind fun x17 =>
 back x17 (w64 (i5 + 1)) b2
 else
 k_1 n1
 else
 k_1 n1
theorem acS {fq} (mM : K2 Kc n4 fq) {k_1} (aH : K1 (yv [1, 1, 1]) BG k_1) {back} (ay : K3 (yv [0, 1, 0, 1, 1]) BH back) (n : Nat) : K3 (yv [0, 1, 0, 1, 1]) BH (A6 fq k_1 back n) := fun n1 i5 b2 r h =>
 ie h (fun c0 h =>
 ie h (fun c1 h =>
 be h fun x13 bT h =>
 be h fun x17 fX h =>
 ra (ay h) [(3, .eqv (R83.au b2.fArgs)), (0, eb c0), (2, eb c1), (4, R83.idx bT), (2, .call (mM fX) [] [] [])]) (fun c1 h =>
 ra (aH h) [(3, .eqv (R83.au b2.fArgs)), (0, eb c0), (2, eb c1)])) (fun c0 h =>
 ra (aH h) [(3, .eqv (R83.au b2.fArgs)), (0, eb c0)])
def rD (fq:ag→Int→Option Int) (k_1:Int→Option Int):Nat→Int→Int→ag→Option Int
 |0,_,_,_=>none
 |n+1,n1,i5,b2=>A6 fq k_1 (rD fq k_1 n) n n1 i5 b2
theorem TS {fq} (mM:K2 Kc n4 fq) {k_1} (aH:K1 (yv [1,1,1]) BG k_1):∀n:Nat,K3 (yv [0,1,0,1,1]) BH (rD fq k_1 n)
 |0=>fun _ _ _ _ h=>nz h
 |n+1=>fun _ _ _ _ h=>acS mM aH (TS mM aH n) n h
def Va (fq : ag → Int → Option Int) (n : Nat) (n1 : Int) : Option Int :=
 some n1
theorem acR {fq} (mM : K2 Kc n4 fq) (n : Nat) : K1 (yv [1, 1, 1]) BG (Va fq n) := fun n1 r h =>
 rr h []
def KG (fq : ag → Int → Option Int) (n : Nat) (p0 : ag) (n1 : Int) : Option Int :=
 rD fq (Va fq n) n (w64 (n1 + 1)) 0 p0
theorem acQ {fq} (mM : K2 Kc n4 fq) (n : Nat) : K2 (yv []) n4 (KG fq n) := fun p0 n1 r h =>
 ra (TS mM (acR mM n) n h) []
def CO:Nat→ag→Int→Option Int
 |0,_,_=>none
 |n+1,p0,n1=>KG (CO n) n p0 n1
theorem zS:∀n:Nat,K2 Kc n4 (CO n)
 |0=>fun _ _ _ h=>nz h
 |n+1=>fun _ _ _ h=>ca (X:=x103) (acQ (zS n) n h)
def Sg (r:Bool):AV:=.bool r
def Ms (r:Bool):List (Nat×Bx):= []
def x104:=fx E0 Tryz.f104 [] []
def yu:=Ax x104 Sg Ms
def Kb:=Cx E0 104 Sg Ms
def BF (n1 t10 t11:Int) (b2:ag):LS:=⟨[(1,.int .i64 n1),(2,.loc 2 0),(10,.int .i64 t10),(11,.int .i64 t11)],[(2,.flat 84 (eX b2))]⟩
def BE:LS:=⟨[],[]⟩
def nZ (p0:ag) (n1:Int):LS:=⟨[(0,.agg (eX p0)),(1,.int .i64 n1)],[]⟩
def A5 (fm : ag → Int → Option Bool) (k_1 : Option Bool) (back : Int → Int → Int → ag → Option Bool) (n : Nat) (n1 t10 t11 : Int) (b2 : ag) : Option Bool :=
 if decide (t11 < t10) then
 (idx b2.fArgs t11).bind fun x7 =>
 (fm x7 (w64 (n1 - 1))).bind fun x12 =>
 if x12 then
 some true
 else
 back n1 t10 (w64 (t11 + 1)) b2
 else
 k_1
theorem acP {fm} (lz : K2 Kb nZ fm) {k_1} (aH : K0 (yu [1, 1, 1]) BE k_1) {back} (ay : K4 (yu [0, 1, 0, 1, 1]) BF back) (n : Nat) : K4 (yu [0, 1, 0, 1, 1]) BF (A5 fm k_1 back n) := fun n1 t10 t11 b2 r h =>
 ie h (fun c0 h =>
 be h fun x7 hx7 h =>
 be h fun x12 eA h =>
 ie h (fun c1 g0 => by subst c1; exact (
 rr g0 [(0, eb c0), (5, R83.idx hx7), (3, .call (lz eA) [] [] [])])) (fun c1 g0 => by subst c1; exact (
 ra (ay g0) [(0, eb c0), (5, R83.idx hx7), (3, .call (lz eA) [] [] [])]))) (fun c0 h =>
 ra (aH h) [(0, eb c0)])
def rC (fm:ag→Int→Option Bool) (k_1:Option Bool):Nat→Int→Int→Int→ag→Option Bool
 |0,_,_,_,_=>none
 |n+1,n1,t10,t11,b2=>A5 fm k_1 (rC fm k_1 n) n n1 t10 t11 b2
theorem TR {fm} (lz:K2 Kb nZ fm) {k_1} (aH:K0 (yu [1,1,1]) BE k_1):∀n:Nat,K4 (yu [0,1,0,1,1]) BF (rC fm k_1 n)
 |0=>fun _ _ _ _ _ h=>nz h
 |n+1=>fun _ _ _ _ _ h=>acP lz aH (TR lz aH n) n h
def KF (fm : ag → Int → Option Bool) (n : Nat) : Option Bool :=
 some false
theorem acO {fm} (lz : K2 Kb nZ fm) (n : Nat) : K0 (yu [1, 1, 1]) BE (KF fm n) := fun r h =>
 rr h []
def A4 (fm : ag → Int → Option Bool) (n : Nat) (p0 : ag) (n1 : Int) : Option Bool :=
 if n1 == 0 then
 some true
 else
 rC fm (KF fm n) n n1 (p0.fArgs.length : Int) 0 p0
theorem acN {fm} (lz : K2 Kb nZ fm) (n : Nat) : K2 (yu []) nZ (A4 fm n) := fun p0 n1 r h =>
 ie h (fun c0 h =>
 rr h [(3, eb c0)]) (fun c0 h =>
 ra (TR lz (acO lz n) n h) [(3, eb c0), (2, .eqv (R83.au p0.fArgs))])
def ve:Nat→ag→Int→Option Bool
 |0,_,_=>none
 |n+1,p0,n1=>A4 (ve n) n p0 n1
theorem Ei:∀n:Nat,K2 Kb nZ (ve n)
 |0=>fun _ _ _ h=>nz h
 |n+1=>fun _ _ _ h=>ca (X:=x104) (acN (Ei n) n h)
def RZ (r:Bool):AV:=.bool r
def Mc (r:Bool):List (Nat×Bx):= []
def x124:=fx E0 Tryz.f124 [] []
def A124:=Ax x124 RZ Mc
def C124:=Cx E0 124 RZ Mc
def LI (p0:ag):LS:=⟨[(0,.agg (eX p0))],[]⟩
def Kn (n : Nat) (p0 : ag) : Option Bool :=
 if p0.ga == 0 then
 if ((p0.bw.ar == 0) && ((p0.bw.bH == 0) && (((p0.bw.aM.ar == 0) && ((p0.bw.aM.bL == 0) && ((decide (p0.bw.aM.bj = ByteArray.empty)) && true))) && true))) then
 some ((p0.bf.ar == 0) && ((p0.bf.bH == 0) && (((p0.bf.aM.ar == 0) && ((p0.bf.aM.bL == 0) && ((decide (p0.bf.aM.bj = ByteArray.empty)) && true))) && true)))
 else
 some false
 else
 some false
theorem acf (n : Nat) : K1 (A124 []) LI (Kn n) := fun p0 r h =>
 ie h (fun c0 h =>
 ie h (fun c1 h =>
 rr h [(4, eb c0), (4, eb c1)]) (fun c1 h =>
 rr h [(4, eb c0), (4, eb c1)])) (fun c0 h =>
 rr h [(4, eb c0)])
def CL (n:Nat) (p0:ag):Option Bool:=Kn n p0
theorem vR (n:Nat):K1 C124 LI (CL n):=fun _ _ h=>ca (X:=x124) (acf n h)
def XJ (r:Bool):AV:=.bool r
def Sy (r:Bool):List (Nat×Bx):= []
def x88:=fx E0 Tryz.f88 [] []
def A88:=Ax x88 XJ Sy
def C88:=Cx E0 88 XJ Sy
def QS (v0:aa):LS:=⟨[(0,.agg (gd v0))],[]⟩
def P6 (n : Nat) (v0 : aa) : Option Bool :=
 if v0.ar == 1 then
 if v0.bL == 0 then
 some (decide (v0.bj = ByteArray.empty))
 else
 some false
 else
 if v0.ar == 2 then
 if v0.bL == 0 then
 some (decide (v0.bj = ByteArray.empty))
 else
 some false
 else
 if v0.ar == 3 then
 if v0.bL == 0 then
 some (decide (v0.bj = ByteArray.empty))
 else
 if v0.bL == 1 then
 some (decide (v0.bj = ByteArray.empty))
 else
 some false
 else
 if v0.ar == 4 then
 some (decide (v0.bj = ByteArray.empty))
 else
 if v0.ar == 5 then
 if v0.bL == 0 then
 some (!decide (64 < (v0.bj.size : Int)))
 else
 some false
 else
 some false
theorem aez (n : Nat) : K1 (A88 []) QS (P6 n) := fun v0 r h =>
 ie h (fun c0 h =>
 ie h (fun c1 h =>
 rr h [(4, eb c0), (3, eb c1)]) (fun c1 h =>
 rr h [(4, eb c0), (3, eb c1)])) (fun c0 h =>
 ie h (fun c1 h =>
 ie h (fun c2 h =>
 rr h [(4, eb c0), (1, eb c1), (3, eb c2)]) (fun c2 h =>
 rr h [(4, eb c0), (1, eb c1), (3, eb c2)])) (fun c1 h =>
 ie h (fun c2 h =>
 ie h (fun c3 h =>
 rr h [(4, eb c0), (1, eb c1), (1, eb c2), (3, eb c3)]) (fun c3 h =>
 ie h (fun c4 h =>
 rr h [(4, eb c0), (1, eb c1), (1, eb c2), (3, eb c3), (3, eb c4)]) (fun c4 h =>
 rr h [(4, eb c0), (1, eb c1), (1, eb c2), (3, eb c3), (3, eb c4)]))) (fun c2 h =>
 ie h (fun c3 h =>
 rr h [(4, eb c0), (1, eb c1), (1, eb c2), (1, eb c3)]) (fun c3 h =>
 ie h (fun c4 h =>
 ie h (fun c5 h =>
 rr h [(4, eb c0), (1, eb c1), (1, eb c2), (1, eb c3), (1, eb c4), (3, eb c5)]) (fun c5 h =>
 rr h [(4, eb c0), (1, eb c1), (1, eb c2), (1, eb c3), (1, eb c4), (3, eb c5)])) (fun c4 h =>
 rr h [(4, eb c0), (1, eb c1), (1, eb c2), (1, eb c3), (1, eb c4)])))))
def F88 (n:Nat) (v0:aa):Option Bool:=P6 n v0
theorem iv (n:Nat):K1 C88 QS (F88 n):=fun _ _ h=>ca (X:=x88) (aez n h)
def RT (r:Bool):AV:=.bool r
def L6 (r:Bool):List (Nat×Bx):= []
def x140:=fx E0 Tryz.f140 [] []
def A140:=Ax x140 RT L6
def C140:=Cx E0 140 RT L6
def LB (v0:aa):LS:=⟨[(0,.agg (gd v0))],[]⟩
def Kh (n : Nat) (v0 : aa) : Option Bool :=
 (F88 n v0).bind fun x4 =>
 if x4 then
 some (!decide (v0.ar < 3))
 else
 some false
theorem abY (n : Nat) : K1 (A140 []) LB (Kh n) := fun v0 r h =>
 be h fun x4 hx4 h =>
 ie h (fun c0 g0 => by subst c0; exact (
 rr g0 [(3, .call (iv n hx4) [] [] [])])) (fun c0 g0 => by subst c0; exact (
 rr g0 [(3, .call (iv n hx4) [] [] [])]))
def PT (n:Nat) (v0:aa):Option Bool:=Kh n v0
theorem Zr (n:Nat):K1 C140 LB (PT n):=fun _ _ h=>ca (X:=x140) (abY n h)
def RY (r:Int):AV:=.int .i64 r
def Mb (r:Int):List (Nat×Bx):= []
def x125:=fx E0 Tryz.f125 [] []
def A125:=Ax x125 RY Mb
def C125:=Cx E0 125 RY Mb
def ZY (pK:List Int) (b5:aw):LS:=⟨[(5,.loc 5 0),(7,.slice 3 1 (aR pK))],[(5,.flat 82 (jN b5))]⟩
def LH (aJ params1:List Int) (o2:aw):LS:=⟨[(0,.slice 3 1 (aR aJ)),(1,.slice 3 1 (aR params1)),(2,.agg (jN o2))],[]⟩
def vj (n : Nat) (pK : List Int) (b5 : aw) : Option Int :=
 if decide (b5.bH < 0) then
 some 0
 else
 if !decide (b5.bH < (pK.length : Int)) then
 some 0
 else
 if !((b5.aM.ar == 0) && ((b5.aM.bL == 0) && ((decide (b5.aM.bj = ByteArray.empty)) && true))) then
 some 0
 else
 (idx pK b5.bH).bind fun x20 =>
 some x20
theorem UC (n : Nat) : K2 (A125 [1, 1, 1]) ZY (vj n) := fun pK b5 r h =>
 ie h (fun c0 h =>
 rr h [(2, eb c0)]) (fun c0 h =>
 ie h (fun c1 h =>
 rr h [(2, eb c0), (4, .eqv (R3.au pK)), (0, eb c1)]) (fun c1 h =>
 ie h (fun c2 h =>
 rr h [(2, eb c0), (4, .eqv (R3.au pK)), (0, eb c1), (5, eb c2)]) (fun c2 h =>
 be h fun x20 lx h =>
 rr h [(2, eb c0), (4, .eqv (R3.au pK)), (0, eb c1), (5, eb c2), (4, R3.idx lx)])))
def Km (n : Nat) (aJ params1 : List Int) (o2 : aw) : Option Int :=
 if o2.ar == 3 then
 if o2.bH != 0 then
 some 0
 else
 (PT n o2.aM).bind fun x15 =>
 if !x15 then
 some 0
 else
 some o2.aM.ar
 else
 if o2.ar == 2 then
 vj n params1 o2
 else
 if o2.ar == 1 then
 vj n aJ o2
 else
 some 0
theorem ace (n : Nat) : K3 (A125 []) LH (Km n) := fun aJ params1 o2 r h =>
 ie h (fun c0 h =>
 ie h (fun c1 h =>
 rr h [(6, eb c0), (3, eb c1)]) (fun c1 h =>
 be h fun x15 cV h =>
 ie h (fun c2 h =>
 rr h [(6, eb c0), (3, eb c1), (3, .call (Zr n cV) [] [] []), (0, eb c2)]) (fun c2 h =>
 rr h [(6, eb c0), (3, eb c1), (3, .call (Zr n cV) [] [] []), (0, eb c2)]))) (fun c0 h =>
 ie h (fun c1 h =>
 ra (UC n h) [(6, eb c0), (1, eb c1)]) (fun c1 h =>
 ie h (fun c2 h =>
 ra (UC n h) [(6, eb c0), (1, eb c1), (1, eb c2)]) (fun c2 h =>
 rr h [(6, eb c0), (1, eb c1), (1, eb c2)])))
def J3 (n:Nat) (aJ params1:List Int) (o2:aw):Option Int:=Km n aJ params1 o2
theorem vQ (n:Nat):K3 C125 LH (J3 n):=fun _ _ _ _ h=>ca (X:=x125) (ace n h)
def Sf (r:Bool):AV:=.bool r
def Mr (r:Bool):List (Nat×Bx):= []
def x105:=fx E0 Tryz.f105 [] []
def vn:=Ax x105 Sf Mr
def CP:=Cx E0 105 Sf Mr
def BD (aJ params1:List Int) (t70 t71:Int) (b5:ag):LS:=⟨[(0,.slice 3 1 (aR aJ)),(1,.slice 3 1 (aR params1)),(5,.loc 5 0),(70,.int .i64 t70),(71,.int .i64 t71)],[(5,.flat 84 (eX b5))]⟩
def BC:LS:=⟨[],[]⟩
def Z3 (aJ params1:List Int) (b5:ag):LS:=⟨[(0,.slice 3 1 (aR aJ)),(1,.slice 3 1 (aR params1)),(5,.loc 5 0)],[(5,.flat 84 (eX b5))]⟩
def lQ (aJ params1:List Int) (p2:ag):LS:=⟨[(0,.slice 3 1 (aR aJ)),(1,.slice 3 1 (aR params1)),(2,.agg (eX p2))],[]⟩
def A2 (dC : (List Int) → (List Int) → ag → Option Bool) (k_1 : Option Bool) (back : (List Int) → (List Int) → Int → Int → ag → Option Bool) (n : Nat) (aJ params1 : List Int) (t70 t71 : Int) (b5 : ag) : Option Bool :=
 if decide (t71 < t70) then
 (idx b5.fArgs t71).bind fun x9 =>
 (dC aJ params1 x9).bind fun x12 =>
 if !x12 then
 some false
 else
 back aJ params1 t70 (w64 (t71 + 1)) b5
 else
 k_1
theorem acM {dC} (iq : K3 CP lQ dC) {k_1} (aH : K0 (vn [1, 1, 1, 1]) BC k_1) {back} (ay : K5 (vn [0, 1, 0, 1, 1, 1]) BD back) (n : Nat) : K5 (vn [0, 1, 0, 1, 1, 1]) BD (A2 dC k_1 back n) := fun aJ params1 t70 t71 b5 r h =>
 ie h (fun c0 h =>
 be h fun x9 hx9 h =>
 be h fun x12 eA h =>
 ie h (fun c1 h =>
 rr h [(0, eb c0), (7, R83.idx hx9), (1, .call (iq eA) [] [] []), (0, eb c1)]) (fun c1 h =>
 ra (ay h) [(0, eb c0), (7, R83.idx hx9), (1, .call (iq eA) [] [] []), (0, eb c1)])) (fun c0 h =>
 ra (aH h) [(0, eb c0)])
def pb (dC:(List Int)→(List Int)→ag→Option Bool) (k_1:Option Bool):Nat→(List Int)→(List Int)→Int→Int→ag→Option Bool
 |0,_,_,_,_,_=>none
 |n+1,aJ,params1,t70,t71,b5=>A2 dC k_1 (pb dC k_1 n) n aJ params1 t70 t71 b5
theorem TQ {dC} (iq:K3 CP lQ dC) {k_1} (aH:K0 (vn [1,1,1,1]) BC k_1):∀n:Nat,K5 (vn [0,1,0,1,1,1]) BD (pb dC k_1 n)
 |0=>fun _ _ _ _ _ _ h=>nz h
 |n+1=>fun _ _ _ _ _ _ h=>acM iq aH (TQ iq aH n) n h
def KD (dC : (List Int) → (List Int) → ag → Option Bool) (n : Nat) : Option Bool :=
 some true
theorem acL {dC} (iq : K3 CP lQ dC) (n : Nat) : K0 (vn [1, 1, 1, 1]) BC (KD dC n) := fun r h =>
 rr h []
def rL (dC : (List Int) → (List Int) → ag → Option Bool) (n : Nat) (aJ params1 : List Int) (b5 : ag) : Option Bool :=
 (CL n b5).bind fun x2 =>
 if !x2 then
 some false
 else
 pb dC (KD dC n) n aJ params1 (b5.fArgs.length : Int) 0 b5
theorem Jq {dC} (iq : K3 CP lQ dC) (n : Nat) : K3 (vn [1, 1]) Z3 (rL dC n) := fun aJ params1 b5 r h =>
 be h fun x2 hx2 h =>
 ie h (fun c0 h =>
 rr h [(1, .call (vR n hx2) [] [] []), (0, eb c0)]) (fun c0 h =>
 ra (TQ iq (acL iq n) n h) [(1, .call (vR n hx2) [] [] []), (0, eb c0), (2, .eqv (R83.au b5.fArgs))])
def KC (dC : (List Int) → (List Int) → ag → Option Bool) (n : Nat) (aJ params1 : List Int) (p2 : ag) : Option Bool :=
 if p2.fOp == 1 then
 (CL n p2).bind fun x8 =>
 if x8 then
 some ((p2.fArgs.length : Int) == 0)
 else
 some false
 else
 if p2.fOp == 2 then
 (CL n p2).bind fun x10 =>
 if x10 then
 some ((p2.fArgs.length : Int) == 0)
 else
 some false
 else
 if p2.fOp == 3 then
 (J3 n aJ params1 p2.bw).bind fun x15 =>
 if (p2.fArgs.length : Int) == 0 then
 if !decide (p2.ga < 1) then
 if !decide (6 < p2.ga) then
 if x15 != 0 then
 (J3 n aJ params1 p2.bf).bind fun x42 =>
 some (x15 == x42)
 else
 some false
 else
 some false
 else
 some false
 else
 some false
 else
 if p2.fOp == 4 then
 rL dC n aJ params1 p2
 else
 if p2.fOp == 5 then
 rL dC n aJ params1 p2
 else
 if p2.fOp == 6 then
 if (p2.fArgs.length : Int) != 1 then
 some false
 else
 rL dC n aJ params1 p2
 else
 some false
theorem acK {dC} (iq : K3 CP lQ dC) (n : Nat) : K3 (vn []) lQ (KC dC n) := fun aJ params1 p2 r h =>
 ie h (fun c0 h =>
 be h fun x8 hx8 h =>
 ie h (fun c1 g0 => by subst c1; exact (
 rr g0 [(4, eb c0), (2, .call (vR n hx8) [] [] []), (3, .eqv (R83.au p2.fArgs))])) (fun c1 g0 => by subst c1; exact (
 rr g0 [(4, eb c0), (2, .call (vR n hx8) [] [] [])]))) (fun c0 h =>
 ie h (fun c1 h =>
 be h fun x10 cx h =>
 ie h (fun c2 g0 => by subst c2; exact (
 rr g0 [(4, eb c0), (1, eb c1), (2, .call (vR n cx) [] [] []), (3, .eqv (R83.au p2.fArgs))])) (fun c2 g0 => by subst c2; exact (
 rr g0 [(4, eb c0), (1, eb c1), (2, .call (vR n cx) [] [] [])]))) (fun c1 h =>
 ie h (fun c2 h =>
 be h fun x15 cV h =>
 ie h (fun c3 h =>
 ie h (fun c4 h =>
 ie h (fun c5 h =>
 ie h (fun c6 h =>
 be h fun x42 so h =>
 rr h [(4, eb c0), (1, eb c1), (1, eb c2), (5, .call (vQ n cV) [] [] []), (3, .eqv (R83.au p2.fArgs)), (0, eb c3), (3, eb c4), (4, eb c5), (3, eb c6), (7, .call (vQ n so) [] [] [])]) (fun c6 h =>
 rr h [(4, eb c0), (1, eb c1), (1, eb c2), (5, .call (vQ n cV) [] [] []), (3, .eqv (R83.au p2.fArgs)), (0, eb c3), (3, eb c4), (4, eb c5), (3, eb c6)])) (fun c5 h =>
 rr h [(4, eb c0), (1, eb c1), (1, eb c2), (5, .call (vQ n cV) [] [] []), (3, .eqv (R83.au p2.fArgs)), (0, eb c3), (3, eb c4), (4, eb c5)])) (fun c4 h =>
 rr h [(4, eb c0), (1, eb c1), (1, eb c2), (5, .call (vQ n cV) [] [] []), (3, .eqv (R83.au p2.fArgs)), (0, eb c3), (3, eb c4)])) (fun c3 h =>
 rr h [(4, eb c0), (1, eb c1), (1, eb c2), (5, .call (vQ n cV) [] [] []), (3, .eqv (R83.au p2.fArgs)), (0, eb c3)])) (fun c2 h =>
 ie h (fun c3 h =>
 ra (Jq iq n h) [(4, eb c0), (1, eb c1), (1, eb c2), (1, eb c3)]) (fun c3 h =>
 ie h (fun c4 h =>
 ra (Jq iq n h) [(4, eb c0), (1, eb c1), (1, eb c2), (1, eb c3), (1, eb c4)]) (fun c4 h =>
 ie h (fun c5 h =>
 ie h (fun c6 h =>
 rr h [(4, eb c0), (1, eb c1), (1, eb c2), (1, eb c3), (1, eb c4), (1, eb c5), (3, .eqv (R83.au p2.fArgs)), (0, eb c6)]) (fun c6 h =>
 ra (Jq iq n h) [(4, eb c0), (1, eb c1), (1, eb c2), (1, eb c3), (1, eb c4), (1, eb c5), (3, .eqv (R83.au p2.fArgs)), (0, eb c6)])) (fun c5 h =>
 rr h [(4, eb c0), (1, eb c1), (1, eb c2), (1, eb c3), (1, eb c4), (1, eb c5)]))))))
def vd:Nat→(List Int)→(List Int)→ag→Option Bool
 |0,_,_,_=>none
 |n+1,aJ,params1,p2=>KC (vd n) n aJ params1 p2
theorem O5:∀n:Nat,K3 CP lQ (vd n)
 |0=>fun _ _ _ _ h=>nz h
 |n+1=>fun _ _ _ _ h=>ca (X:=x105) (acK (O5 n) n h)
def XY (r:Int):AV:=.int .i64 r
def SP (r:Int):List (Nat×Bx):= []
def x73:=fx E0 Tryz.f73 [] []
def A73:=Ax x73 XY SP
def C73:=Cx E0 73 XY SP
def Ra (aJ params1:List Int) (p2:ag):LS:=⟨[(0,.slice 3 1 (aR aJ)),(1,.slice 3 1 (aR params1)),(2,.agg (eX p2))],[]⟩
def Qi (n : Nat) (aJ params1 : List Int) (p2 : ag) : Option Int :=
 (J8 n aJ).bind fun x4 =>
 if !x4 then
 some 1
 else
 (J8 n params1).bind fun x9 =>
 if !x9 then
 some 1
 else
 (CO n p2 0).bind fun x14 =>
 if decide (24 < x14) then
 some 2
 else
 (ve n p2 8).bind fun x19 =>
 if x19 then
 some 2
 else
 (vd n aJ params1 p2).bind fun x25 =>
 if !x25 then
 some 50
 else
 some 0
theorem afs (n : Nat) : K3 (A73 []) Ra (Qi n) := fun aJ params1 p2 r h =>
 be h fun x4 hx4 h =>
 ie h (fun c0 h =>
 rr h [(3, .call (lB n hx4) [] [] []), (0, eb c0)]) (fun c0 h =>
 be h fun x9 hx9 h =>
 ie h (fun c1 h =>
 rr h [(3, .call (lB n hx4) [] [] []), (0, eb c0), (2, .call (lB n hx9) [] [] []), (0, eb c1)]) (fun c1 h =>
 be h fun x14 gN h =>
 ie h (fun c2 h =>
 rr h [(3, .call (lB n hx4) [] [] []), (0, eb c0), (2, .call (lB n hx9) [] [] []), (0, eb c1), (2, .call (zS n gN) [] [] []), (0, eb c2)]) (fun c2 h =>
 be h fun x19 dA h =>
 ie h (fun c3 g0 => by subst c3; exact (
 rr g0 [(3, .call (lB n hx4) [] [] []), (0, eb c0), (2, .call (lB n hx9) [] [] []), (0, eb c1), (2, .call (zS n gN) [] [] []), (0, eb c2), (2, .call (Ei n dA) [] [] [])])) (fun c3 g0 => by subst c3; exact (
 be g0 fun x25 oI g0 =>
 ie g0 (fun c4 g0 =>
 rr g0 [(3, .call (lB n hx4) [] [] []), (0, eb c0), (2, .call (lB n hx9) [] [] []), (0, eb c1), (2, .call (zS n gN) [] [] []), (0, eb c2), (2, .call (Ei n dA) [] [] []), (4, .call (O5 n oI) [] [] []), (0, eb c4)]) (fun c4 g0 =>
 rr g0 [(3, .call (lB n hx4) [] [] []), (0, eb c0), (2, .call (lB n hx9) [] [] []), (0, eb c1), (2, .call (zS n gN) [] [] []), (0, eb c2), (2, .call (Ei n dA) [] [] []), (4, .call (O5 n oI) [] [] []), (0, eb c4)]))))))
def F73 (n:Nat) (aJ params1:List Int) (p2:ag):Option Int:=Qi n aJ params1 p2
theorem OX (n:Nat):K3 C73 Ra (F73 n):=fun _ _ _ _ h=>ca (X:=x73) (afs n h)
def Yi (r:(ag×ai)):AV:=.agg (eX r.1)
def Tb (r:(ag×ai)):List (Nat×Bx):= [(0,.flat 74 (br r.2))]
def x31:=fx E0 Tryz.f31 [0] [0]
def A31:=Ax x31 Yi Tb
def C31:=Cx E0 31 Yi Tb
def Rv (c0:ai) (aQ params2:List Int) (cX:Int):LS:=⟨[(0,.loc 0 0),(1,.slice 3 1 (aR aQ)),(2,.slice 3 1 (aR params2)),(3,.int .i64 cX)],[(0,.flat 74 (br c0))]⟩
def QC (n : Nat) (c0 : ai) (aQ params2 : List Int) (cX : Int) : Option (ag × ai) :=
 (F72 n c0 aQ params2 cX).bind fun x6 =>
 (F73 n aQ params2 x6.1).bind fun x13 =>
 if x13 == 2 then
 (F72 n x6.2 aQ params2 1).bind fun x19 =>
 some (x19.1, x19.2)
 else
 some (x6.1, x6.2)
theorem ags (n : Nat) : K4 (A31 []) Rv (QC n) := fun c0 aQ params2 cX r h =>
 be h fun x6 hx6 h =>
 be h fun x13 bT h =>
 ie h (fun c0_ h =>
 be h fun x19 dA h =>
 rr h [(5, .call (OY n hx6) [] [(0, 0)] []), (5, .call (OX n bT) [] [] []), (0, eb c0_), (3, .call (OY n dA) [] [(0, 0)] [])]) (fun c0_ h =>
 rr h [(5, .call (OY n hx6) [] [(0, 0)] []), (5, .call (OX n bT) [] [] []), (0, eb c0_)])
def F31 (n:Nat) (c0:ai) (aQ params2:List Int) (cX:Int):Option (ag×ai):=QC n c0 aQ params2 cX
theorem ev31 (n:Nat):K4 C31 Rv (F31 n):=fun _ _ _ _ _ h=>ca (X:=x31) (ags n h)
end Go.Proofs.YtmealahmjddpcaaGreatDoor
end
