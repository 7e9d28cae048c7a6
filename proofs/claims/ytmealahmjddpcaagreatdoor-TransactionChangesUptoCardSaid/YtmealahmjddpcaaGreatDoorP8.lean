/- Texts that belong together. The first: What an argument of a call reads as is plain data of its type, no greater than its bulk. Conditions: a set of types without pointers, maps, interfaces and functions; structs and arrays are laid out without gaps (computed). -/
import Derived.Test.YtmealahmjddpcaaGreatDoorRows
import Derived.Test.YtmealahmjddpcaaGreatDoorP7
import Derived.WalkKit
import Derived.ProofKit
import Derived.Deep.DeepHandedRow
import Derived.Test.YtmealahmjddpcaaGreatDoorProg
import Derived.Test.YtmealahmjddpcaaGreatDoorP4
import Derived.KernelRfl
set_option linter.all false
set_option maxRecDepth 1000000
noncomputable section
namespace Go.Sim
open Go.RowKit Go.Proofs.YtmealahmjddpcaaGreatDoor
section
mutual
def ka:AV→Nat
 | .str s=>s.size+1
 | .slice _ _ rows=>gg rows+1
 |_=>1
def gg:List (List AV)→Nat
 | []=>0
 |r::rs=>cU r+gg rs
def cU:List AV→Nat
 | []=>0
 |x::xs=>ka x+cU xs
end
theorem wc (xs ys:List AV):cU (xs++ys)=cU xs+cU ys:=by
 induction xs with
 |nil=>simp[cU]
 |cons x xs ih=>simp[cU,ih];omega
def mf {α β:Type} (R:α→β→Prop):List α→List β→Prop
 | [],[]=>True
 |a::l,b::m=>R a b∧mf R l m
 |_,_=>False
def bG (P:Program):Nat→TypeId→List AV→Prop
 |0,_,_=>False
 |n+1,t,xs=>
  match P.underlying t with
  |some .bool=>∃b,xs= [.bool b]
  |some (.int k)=>∃i,xs= [.int k i]∧(Lit.int k i).wf=true
  |some .string=>∃s:ByteArray,xs= [.str s]∧s.size≤maxLen
  |some (.slice e)=>∃rows,xs= [.slice e (P.cellsOf e) rows]∧∀r∈rows,bG P n e r
  |some (.struct fs)=>∃xss:List (List AV),xs=xss.flatten∧mf (fun f ys=>bG P n f.type ys) fs.toList xss
  |some (.array m e)=>∃xss:List (List AV),xs=xss.flatten∧xss.length=m∧∀ys∈xss,bG P n e ys
  |_=>False
def lz (P:Program) (S:TypeId→Bool) (total:Nat):Nat→List Field→Bool
 |off,[]=>off==total
 |off,f::fs=>f.offset==off&&S f.type&&lz P S total (off+P.cellsOf f.type) fs
def rV (P:Program) (S:TypeId→Bool) (t:TypeId):Bool:=
 match P.underlying t with
 |some .bool|some (.int _)|some .string=>true
 |some (.struct fs)=>lz P S (P.cellsOf t) 0 fs.toList
 |some (.array n e)=>P.cellsOf t==n*P.cellsOf e&&S e
 |some (.slice e)=>S e&&decide (0<P.cellsOf e)
 |_=>false
def CR (W:World) (cs:List Value) (xs:List AV):Prop:=VAs (jD W).get .no (cs.map (img W.heap.size)) xs∧∀v∈cs,isU (img W.heap.size v)=false
section
variable {H:Type} {enc:TypeId×Value→H} {P:Program} {S:TypeId→Bool} {w:World} {base:Nat} {spare:Nat→Bool} {held:Bool}
theorem VAs.app {F:Hf} {g:Gb}:∀{a b:List SV} {x y:List AV},VAs F g a x→VAs F g b y→VAs F g (a++b) (x++y)
 |_,_,_,_,.nil,k=>k
 |_,_,_,_,.cons h t,k=>.cons h (t.app k)
theorem CR.nil:CR w [] []:=⟨.nil,fun v hv=>by cases hv⟩
theorem CR.append {a b:List Value} {x y:List AV} (h:CR w a x) (k:CR w b y):CR w (a++b) (x++y):=⟨by rw[List.map_append];exact h.1.app k.1,fun v hv=>(List.mem_append.1 hv).elim (h.2 v) (k.2 v)⟩
theorem CR.one {v:Value} {x:AV} (h:VA (jD w).get .no (img w.heap.size v) x) (hu:isU (img w.heap.size v)=false):CR w [v] [x]:=⟨.cons h .nil,fun u hu'=>by rw[List.mem_singleton.1 hu'];exact hu⟩
theorem CR.length {a:List Value} {x:List AV} (h:CR w a x):a.length=x.length:=by have:=h.1.length;simpa using this
theorem ni {α β:Type} {f:α→Option β}:∀{l:List α} {r:List β},l.mapM f=some r→mf (fun a b=>f a=some b) l r
 | [],r,h=>by simp at h;subst h;trivial
 |a::l,r,h=>by
  rw[List.mapM_cons] at h;cases ha:f a with
  |none=>simp[ha] at h
  |some b=>
   cases hl:l.mapM f with
   |none=>simp[ha,hl] at h
   |some m=>
    simp[ha,hl] at h;subst h;exact ⟨ha,ni hl⟩
theorem yO {α β:Type} {R:α→β→Prop}:∀{l:List α} {m:List β},mf R l m→l.length=m.length
 | [],[],_=>rfl
 |_::_,_::_,h=>by simp[yO h.2]
 | [],_::_,h=>h.elim
 |_::_,[],h=>h.elim
theorem zH {α β:Type} {R:α→β→Prop}:∀{l:List α} {m:List β},mf R l m→∀{i:Nat} {b:β},m[i]? =some b→∃a,l[i]? =some a∧R a b
 | [],[],_,_,_,h=>by simp at h
 |a::l,b::m,h,i,x,hx=>by
  cases i with
  |zero=>simp at hx;subst hx;exact ⟨a,rfl,h.1⟩
  |succ i=>simp at hx;obtain ⟨y,h1,h2⟩:=zH h.2 hx;exact ⟨y,by simpa using h1,h2⟩
 | [],_::_,h,_,_,_=>h.elim
 |_::_,[],h,_,_,_=>h.elim
theorem aaI {α β:Type} {R:α→β→Prop} {l:List α} {m:List β} (h:mf R l m) {b:β} (hb:b∈m):∃a,R a b:=by
 obtain ⟨i,hi⟩:=List.mem_iff_getElem?.1 hb;obtain ⟨a,_,ha⟩:=zH h hi;exact ⟨a,ha⟩
theorem uI (n:Nat)
  (ih:∀t cs x,S t=true→DataW.trod enc P w base spare held n t cs=some x→∃xs,CR w cs xs∧bG P n t xs∧cU xs≤Rows.uptoBulk x.1) (total:Nat):
  ∀(fs:List Field) (off:Nat) (cs:List Value) (ys:List (DataW H×List MemPlace)),lz P S total off fs=true→cs.length=total→
   mf (fun f y=>DataW.trod enc P w base spare held n f.type ((cs.drop f.offset).take (P.cellsOf f.type))=some y) fs ys→off≤total→
   ∃xss:List (List AV),CR w (cs.drop off) xss.flatten∧mf (fun f zs=>bG P n f.type zs) fs xss∧cU xss.flatten≤Rows.uptoBulkAll (ys.map (·.1))
 | [],off,cs,ys,ht,hl,h2,_=>by
  simp[lz] at ht;refine ⟨[],?_,trivial,by simp[cU]⟩
  rw[List.drop_of_length_le (by omega)]
  exact .nil
 |f::fs,off,cs,[],_,_,h2,_=>h2.elim
 |f::fs,off,cs,y::ys,ht,hl,h2,ho=>by
  simp only[lz,Bool.and_eq_true,beq_iff_eq] at ht;obtain ⟨⟨ht0,htt⟩,ht1⟩:=ht;obtain ⟨h0,h1⟩:=h2;obtain ⟨xs,c1,c2,c3⟩:=ih _ _ _ htt h0;have hle:∀(fs:List Field) (o:Nat),lz P S total o fs=true→o≤total:=by
   intro fs;induction fs with
   |nil=>intro o h;simp[lz] at h;omega
   |cons g gs ihg=>intro o h;simp only[lz,Bool.and_eq_true] at h;have:=ihg _ h.2;omega
  have hle':=hle fs _ ht1;obtain ⟨xss,d1,d2,d3⟩:=uI n ih total fs (off+P.cellsOf f.type) cs ys ht1 hl h1 hle';refine ⟨xs::xss,?_,⟨c2,d2⟩,?_⟩
  ·rw[ht0] at c1;have:cs.drop off=(cs.drop off).take (P.cellsOf f.type)++cs.drop (off+P.cellsOf f.type):=by
    rw[←List.drop_drop];exact (List.take_append_drop _ _).symm
   rw[this];exact c1.append d1
  ·simp only[List.flatten_cons,List.map_cons,Rows.uptoBulkAll,wc];omega
theorem wh (n:Nat) (e:TypeId) (he:S e=true)
  (ih:∀t cs x,S t=true→DataW.trod enc P w base spare held n t cs=some x→∃xs,CR w cs xs∧bG P n t xs∧cU xs≤Rows.uptoBulk x.1) (cs:List Value):
  ∀(m k:Nat) (ys:List (DataW H×List MemPlace)),cs.length=(k+m)*P.cellsOf e→
   mf (fun i y=>DataW.trod enc P w base spare held n e ((cs.drop (i*P.cellsOf e)).take (P.cellsOf e))=some y) (List.range' k m) ys→
   ∃xss:List (List AV),CR w (cs.drop (k*P.cellsOf e)) xss.flatten∧xss.length=m∧(∀zs∈xss,bG P n e zs)∧cU xss.flatten≤Rows.uptoBulkAll (ys.map (·.1))
 |0,k,ys,hl,h2=>by
  refine ⟨[],?_,rfl,by simp,by simp[cU]⟩
  rw[List.drop_of_length_le (by simp at hl;omega)]
  exact .nil
 |m+1,k,[],_,h2=>by simp[List.range'_succ,mf] at h2
 |m+1,k,y::ys,hl,h2=>by
  rw[List.range'_succ] at h2;obtain ⟨h0,h1⟩:=h2;obtain ⟨xs,c1,c2,c3⟩:=ih _ _ _ he h0;obtain ⟨xss,d1,d2,d3,d4⟩:=wh n e he ih cs m (k+1) ys (by rw[hl];congr 1;omega) h1
  refine ⟨xs::xss,?_,by simp[d2],?_,?_⟩
  ·have:cs.drop (k*P.cellsOf e)=(cs.drop (k*P.cellsOf e)).take (P.cellsOf e)++cs.drop ((k+1)*P.cellsOf e):=by
    rw[Nat.add_mul,Nat.one_mul,←List.drop_drop];exact (List.take_append_drop _ _).symm
   rw[this];exact c1.append d1
  ·intro zs hz;rcases List.mem_cons.1 hz with rfl|hz
   ·exact c2
   ·exact d3 zs hz
  ·simp only[List.flatten_cons,List.map_cons,Rows.uptoBulkAll,wc];omega
theorem afx (a:Addr) (k j:Nat) (h:a.spot=none∨0<k):(a.add k).add j=⟨a.block,a.off+k+j,none⟩:=by
 obtain ⟨b,o,s⟩:=a;by_cases hk:k=0
 ·subst hk;simp at h;subst h;by_cases hj:j=0<;>simp[Addr.add,hj]
 ·by_cases hj:j=0<;>simp[Addr.add,hk,hj]
theorem u7 (n:Nat) (e:TypeId) (he:S e=true) (a:Addr)
  (ih:∀t cs x,S t=true→DataW.trod enc P w base spare held n t cs=some x→∃xs,CR w cs xs∧bG P n t xs∧cU xs≤Rows.uptoBulk x.1) (hs:0<P.cellsOf e):
  ∀(m k:Nat) (ys:List (DataW H×List MemPlace)),
   mf (fun i y=>((w.cells? base (a.add (i*P.cellsOf e)) (P.cellsOf e)).bind (DataW.trod enc P w base spare held n e))=some y) (List.range' k m) ys→
   ∃(rows:List (List AV)) (vs:List Value),CR w vs rows.flatten∧vs.length=m*P.cellsOf e∧(∀j v,vs[j]? =some v→w.cell? ⟨a.block,a.off+k*P.cellsOf e+j,none⟩=some v)∧rows.length=m∧(∀zs∈rows,bG P n e zs∧zs.length=P.cellsOf e)∧gg rows≤Rows.uptoBulkAll (ys.map (·.1))∧(k=0→0<m→a.spot=none)
 |0,k,ys,h2=>⟨[],[],.nil,by simp,fun j v hv=>(by simp at hv),rfl,by simp,by simp[gg],by simp⟩
 |m+1,k,[],h2=>by simp[List.range'_succ,mf] at h2
 |m+1,k,y::ys,h2=>by
  rw[List.range'_succ] at h2;obtain ⟨h0,h1⟩:=h2;obtain ⟨rows,vs,d1,dl,dc,d2,d3,d4,d5⟩:=u7 n e he a ih hs m (k+1) ys h1;cases hc:w.cells? base (a.add (k*P.cellsOf e)) (P.cellsOf e) with
  |none=>simp[hc] at h0
  |some cs=>
   simp only[hc,Option.bind_some] at h0;obtain ⟨xs,c1,c2,c3⟩:=ih _ _ _ he h0;unfold World.cells? at hc;split at hc
   ·have nO:=ni hc;have hlen:cs.length=P.cellsOf e:=by have:=yO nO;simpa using this.symm
    have om:∀j v,cs[j]? =some v→w.cell? ((a.add (k*P.cellsOf e)).add j)=some v:=by
     intro j v hj;obtain ⟨i,hi,hv⟩:=zH nO hj;have hi':i=j:=by
      have:=(List.getElem?_eq_some_iff.1 hi);obtain ⟨q1,q2⟩:=this;simpa using q2.symm
     rw[←hi'];exact hv
    have adH:a.spot=none∨0<k*P.cellsOf e:=by
     by_cases hk:0<k*P.cellsOf e
     ·exact .inr hk
     ·have hk0:k*P.cellsOf e=0:=by omega
      have h00:=om 0 (cs[0]'(by omega)) (by simp)
      rw[hk0] at h00;simp only[Addr.add,if_true] at h00;unfold World.cell? at h00;split at h00
      ·split at h00
       ·simp at h00
       ·rename_i q;left;simpa using q
      ·simp at h00
    refine ⟨xs::rows,cs++vs,?_,?_,fun j v hj=> ?_,by simp[d2],?_,?_,?_⟩
    ·rw[List.flatten_cons];exact c1.append d1
    ·rw[List.length_append,hlen,dl,Nat.add_mul];omega
    ·by_cases hjl:j<cs.length
     ·rw[List.getElem?_append_left hjl] at hj;have h:=om j v hj;rw[afx a _ j adH] at h;exact h
     ·rw[List.getElem?_append_right (by omega)] at hj
      have h:=dc _ v hj;rw[hlen] at h;rw[hlen] at hjl;rw[Nat.add_mul,Nat.one_mul] at h;rw[show a.off+k*P.cellsOf e+j=a.off+(k*P.cellsOf e+P.cellsOf e)+(j-P.cellsOf e) by omega]
      exact h
    ·intro zs hz;rcases List.mem_cons.1 hz with rfl|hz
     ·exact ⟨c2,by rw[←c1.length,hlen]⟩
     ·exact d3 zs hz
    ·simp only[gg,List.map_cons,Rows.uptoBulkAll];omega
    ·intro hk0 _;rcases adH with h|h
     ·exact h
     ·subst hk0;simp at h
   ·simp at hc
theorem YL {b o n c s:Nat} {e:TypeId} {vs:List Value} {rows:List (List AV)} (h:CR w vs rows.flatten) (hl:vs.length=n*s) (hc:∀j v,vs[j]? =some v→w.cell? ⟨b,o+j,none⟩=some v) (hn:rows.length=n) (hn0:0<n) (hs:0<s) (hu:∀r∈rows,r.length=s) (fB:n≤c):
  VA (jD w).get .no (img w.heap.size (.slice (some ⟨b,o,none⟩) n c)) (.slice e s rows)∧isU (img w.heap.size (.slice (some ⟨b,o,none⟩) n c))=false:=by
 have mI:0<n*s:=Nat.mul_pos hn0 hs;have hb:∃cur et fz,w.heap[b]? =some (.cells cur et fz):=by
  have h0:=hc 0 (vs[0]'(by omega)) (by simp)
  unfold World.cell? at h0;split at h0
  ·rename_i cur et fz q;exact ⟨cur,et,fz,q⟩
  ·simp at h0
 obtain ⟨cur,et,fz,hb⟩:=hb;have hlt:b<w.heap.size:=(Array.getElem?_eq_some_iff.1 hb).1;have fj:∀j v,vs[j]? =some v→cur[o+j]? =some v:=fun j v hj=>by
  have:=hc j v hj;unfold World.cell? at this;rw[hb] at this;simpa using this
 have hle:o+n*s≤cur.size:=by
  have h0:=fj (n*s-1) (vs[n*s-1]'(by omega)) (by simp)
  have:=(Array.getElem?_eq_some_iff.1 h0).1;omega
 have heq:(cur.toList.drop o).take (n*s)=vs:=by
  apply List.ext_getElem?;intro j;rw[List.getElem?_take];split
  ·rename_i hj;rw[List.getElem?_drop];have:=fj j (vs[j]'(by omega)) (by simp)
   rw[Array.getElem?_toList,this];simp
  ·rename_i hj;rw[List.getElem?_eq_none (by omega)]
 have himg:img w.heap.size (.slice (some ⟨b,o,none⟩) n c)= .sl b o n (.k c):=by
  show (if n=0 then _ else if b<w.heap.size∧n≤c then SV.sl b o n (.k c) else .undef)=_
  rw[if_neg (by omega),if_pos ⟨hlt,fB⟩]
 have hwin:((cur.toList.map (img w.heap.size)).drop o).take (n*s)=vs.map (img w.heap.size):=by
  rw[←List.map_drop,←List.map_take,heq]
 have hF:cW ((jD w).get b) o (n*s)=some (0,cur.toList.map (img w.heap.size)):=by
  rw[th,hb];show sel (kC (((cur.toList.map (img w.heap.size)).drop o).take (n*s))) (some (0,cur.toList.map (img w.heap.size))) none=_;rw[hwin,aB,if_pos (vY fun j x hx=> ?_)]
  rw[List.getElem?_map] at hx;cases hv:vs[j]? with
  |none=>rw[hv] at hx;cases hx
  |some v=>rw[hv] at hx;cases hx;exact h.2 v (List.mem_of_getElem? hv)
 rw[himg];exact ⟨.slice hF fB hn.symm hu (by simpa using hle) (by rw[hwin];exact h.1),rfl⟩
theorem vA {nb:Nat} {a:Option Addr} {c:Nat} {F:Hf} {e:TypeId} {s:Nat}:VA F .no (img nb (.slice a 0 c)) (.slice e s [])∧isU (img nb (.slice a 0 c))=false:=by
 have h:img nb (.slice a 0 c)=if a=none∧c=0 then SV.aY else .sle:=by simp[img]
 rw[h];split
 ·exact ⟨.jB _ _,rfl⟩
 ·exact ⟨.dJ _ _,rfl⟩
theorem sT (hP:∀t,S t=true→rV P S t=true):∀(n:Nat) (t:TypeId) (cs:List Value) (x:DataW H×List MemPlace),S t=true→DataW.trod enc P w base spare held n t cs=some x→
  ∃xs,CR w cs xs∧bG P n t xs∧cU xs≤Rows.uptoBulk x.1
 |0,_,_,_,_,h=>by simp[DataW.trod] at h
 |n+1,t,cs,x,hlt,h=>by
  have ih:=sT hP n;have iB:=hP t hlt;unfold DataW.trod at h;unfold rV at iB;split at h
  ·rename_i b hu;simp at h;subst h;exact ⟨[.bool b],.one (.bool b) rfl,by simp[bG,hu],by simp[cU,ka,Rows.uptoBulk]⟩
  ·rename_i k k' i hu;split at h
   ·rename_i hc;obtain ⟨rfl,hw⟩:=hc;simp at h;subst h;exact ⟨[.int k' i],.one (.int _ _) rfl,by simp[bG,hu,hw],by simp[cU,ka,Rows.uptoBulk]⟩
   ·simp at h
  ·rename_i k k' i hu;rw[hu] at iB;cases iB
  ·rename_i s hu;split at h
   ·rename_i hc;simp at h;subst h;exact ⟨[.str s],.one (.str _) rfl,by simp[bG,hu,hc],by simp[cU,ka,Rows.uptoBulk]⟩
   ·simp at h
  ·rename_i hu;rw[hu] at iB;cases iB
  ·rename_i e a hu;rw[hu] at iB;cases iB
  ·rename_i e hu;simp at h;subst h;exact ⟨[.slice e (P.cellsOf e) []],.one (vA (a:=none) (c:=0)).1 (vA (F:=fun _=>none) (e:=0) (s:=0)).2,by simp[bG,hu],by simp[cU,ka,gg,Rows.uptoBulk]⟩
  ·rename_i e a len cap hu;simp only at h;split at h
   ·rename_i hc;cases hr:(List.range len).mapM fun i=>(w.cells? base (a.add (i*P.cellsOf e)) (P.cellsOf e)).bind (DataW.trod enc P w base spare held n e) with
    |none=>simp[hr] at h
    |some ys=>
     simp only[hr,Option.bind_some,Option.map_eq_some_iff] at h;obtain ⟨rest,_,rfl⟩:=h;simp only[hu,Bool.and_eq_true,decide_eq_true_eq] at iB;obtain ⟨he,hs⟩:=iB;have h2:=ni hr;rw[List.range_eq_range'] at h2;obtain ⟨rows,vs,d1,dl,dc,d2,d3,d4,d5⟩:=u7 n e he a ih hs len 0 ys h2;have key:VA (jD w).get .no (img w.heap.size (.slice (some a) len cap)) (.slice e (P.cellsOf e) rows)∧isU (img w.heap.size (.slice (some a) len cap))=false:=by
      by_cases hl0:len=0
      ·subst hl0;rw[List.eq_nil_of_length_eq_zero d2];exact vA
      ·have hsp:=d5 rfl (by omega)
       obtain ⟨ab,ao,asp⟩:=a;simp at hsp;subst hsp;exact YL d1 dl (fun j v hj=>by have:=dc j v hj;simpa using this) d2 (by omega) hs (fun r hr=>(d3 r hr).2) hc.2.1
     refine ⟨[.slice e (P.cellsOf e) rows],.one key.1 key.2,?_,?_⟩
     ·simp only[bG,hu];exact ⟨rows,rfl,fun r hr=>(d3 r hr).1⟩
     ·simp only[cU,ka,Rows.uptoBulk];omega
   ·simp at h
  ·rename_i fs hu;split at h
   ·rename_i hl;simp only[Option.map_eq_some_iff] at h;obtain ⟨ys,hm,rfl⟩:=h;simp only[hu] at iB;obtain ⟨xss,d1,d2,d3⟩:=uI n ih _ fs.toList 0 _ ys iB hl (ni hm) (Nat.zero_le _);exact ⟨xss.flatten,by simpa using d1,by simp only[bG,hu];exact ⟨xss,rfl,d2⟩,by simp only[Rows.uptoBulk];omega⟩
   ·simp at h
  ·rename_i m e hu;split at h
   ·rename_i hl;simp only[Option.map_eq_some_iff] at h;obtain ⟨ys,hm,rfl⟩:=h;simp only[hu,beq_iff_eq,Bool.and_eq_true] at iB;have h2:=ni hm;rw[List.range_eq_range'] at h2;obtain ⟨xss,d1,d2,d3,d4⟩:=wh n e iB.2 ih _ m 0 ys (by rw[hl,iB.1];simp) h2
    exact ⟨xss.flatten,by simpa using d1,by simp only[bG,hu];exact ⟨xss,rfl,d2,d3⟩,by simp only[Rows.uptoBulk];omega⟩
   ·simp at h
  all_goals first
   |(rename_i hu;rw[hu] at iB;cases iB;done)
   |(cases h;done)
mutual
def Bg:AV→Prop
 | .int k n=>(Lit.int k n).wf=true
 | .str s=>s.size≤maxLen
 | .slice _ _ rows=>pU rows
 |_=>True
def pU:List (List AV)→Prop
 | []=>True
 |r::rs=>j6 r∧pU rs
def j6:List AV→Prop
 | []=>True
 |x::xs=>Bg x∧j6 xs
end
theorem Lb {xs ys:List AV} (h:j6 xs) (k:j6 ys):j6 (xs++ys):=by
 induction xs with
 |nil=>exact k
 |cons x xs ih=>exact ⟨h.1,ih h.2⟩
theorem NL {rows:List (List AV)} (h:∀r∈rows,j6 r):pU rows:=by
 induction rows with
 |nil=>trivial
 |cons r rs ih=>exact ⟨h r (by simp),ih fun x hx=>h x (by simp[hx])⟩
theorem uK {rows:List (List AV)} (h:∀r∈rows,j6 r):j6 rows.flatten:=by
 induction rows with
 |nil=>trivial
 |cons r rs ih=>exact Lb (h r (by simp)) (ih fun x hx=>h x (by simp[hx]))
theorem sS:∀(n:Nat) (t:TypeId) (xs:List AV),bG P n t xs→j6 xs
 |0,_,_,h=>h.elim
 |n+1,t,xs,h=>by
  have ih:=sS n;unfold bG at h;split at h
  ·obtain ⟨b,rfl⟩:=h;exact ⟨trivial,trivial⟩
  ·obtain ⟨b,rfl,hw⟩:=h;exact ⟨hw,trivial⟩
  ·obtain ⟨b,rfl,hw⟩:=h;exact ⟨hw,trivial⟩
  ·obtain ⟨rows,rfl,hr⟩:=h;exact ⟨NL fun r h=>ih _ _ (hr r h),trivial⟩
  ·obtain ⟨xss,rfl,h2⟩:=h;exact uK fun r hr=>by obtain ⟨f,hf⟩:=aaI h2 hr;exact ih _ _ hf
  ·obtain ⟨xss,rfl,_,h2⟩:=h;exact uK fun r hr=>ih _ _ (h2 r hr)
  ·exact h.elim
theorem oU {α:Type} {en:α→List AV} {rows:List (List AV)} (h:∀r∈rows,∃x,r=en x):∃ys:List α,rows=ys.map en:=by
 induction rows with
 |nil=>exact ⟨[],rfl⟩
 |cons r rs ih=>
  obtain ⟨y,rfl⟩:=h r (by simp)
  obtain ⟨ys,rfl⟩:=ih fun x hx=>h x (by simp[hx])
  exact ⟨y::ys,rfl⟩
def AR (W:World) (P:Program) (v:Value) (x:AV):Prop:=VA (jD W).get .no (KB W.heap.size v) x∧VR (gW P W) v (KB W.heap.size v)
theorem Pb {P:Program} {W:World}:∀{cs:List Value},(∀v∈cs,isU (img W.heap.size v)=false)→VCs (gW P W) cs (cs.map (img W.heap.size))
 | [],_=>.nil
 |v::cs,h=>.cons (O4 (h v (by simp))) (KA v) (Pb fun u hu=>h u (by simp[hu]))
theorem afw (hP:∀t,S t=true→rV P S t=true) {t:TypeId} (ht:S t=true) {v:Value} {d:DataW H} {ps:List MemPlace} (h:DataW.Trod enc P w base spare held t v d ps) {cs:Array Value} (hv:v= .agg cs):
  ∃xs n,AR w P v (.agg xs)∧bG P n t xs∧cU xs≤Rows.uptoBulk d:=by
 obtain ⟨n,hn⟩:=h;obtain ⟨xs,h1,h2,h3⟩:=sT hP n t _ _ ht hn;subst hv;exact ⟨xs,n,⟨.agg h1.1,.agg (Pb h1.2)⟩,h2,h3⟩
theorem Pa (hP:∀t,S t=true→rV P S t=true) {t:TypeId} (ht:S t=true) {v:Value} {d:DataW H} {ps:List MemPlace} (h:DataW.Trod enc P w base spare held t v d ps) (hv:v.cells.toList= [v]):
  ∃x n,AR w P v x∧bG P n t [x]∧cU [x]≤Rows.uptoBulk d:=by
 obtain ⟨n,hn⟩:=h;obtain ⟨xs,h1,h2,h3⟩:=sT hP n t _ _ ht hn;rw[hv] at h1;obtain ⟨h1,hu⟩:=h1;cases h1 with
 |cons hd ht=>
  cases ht;have e:KB w.heap.size v=img w.heap.size v:=by
   cases v<;>first|rfl|(have:=hu _ (List.mem_singleton.2 rfl);cases this;done)
  exact ⟨_,n,⟨by rw[e];exact hd,by rw[e];exact KA v⟩,h2,h3⟩
end
end
end Go.Sim
namespace Go.Sim
open Go.RowKit Go.ChangeShapes Go.Proofs.YtmealahmjddpcaaGreatDoor
section
section
variable {H:Type} {enc:TypeId×Value→H} {P:Program}
theorem uH (hl:laidOutB P=true) {W W':World} {sp:Nat→Bool}:∀{ts:List TypeId} {vs:List Value} {ds:List (DataW H)} {ps:List MemPlace},
  (∀t∈ts,P.readableRec t=true∧t<P.types.size)→DataW.TrodAll enc P W 0 (fun _=>true) true ts vs ds ps→Below W.heap.size W W'→(∀p∈ps,p.block<W.heap.size)→(∀p∈ps,sp p.block=true)→
  DataW.TrodAll enc P W' 0 sp true ts vs ds ps
 | [],_,_,_,_,h,_,_,_=>by
  obtain ⟨rfl,rfl,rfl⟩:=trodAll_nil h;exact rfl
 |t::ts,_,_,_,ht,h,hb,hlt,hsp=>by
  obtain ⟨v,vs,d,ds,p,q,rfl,rfl,rfl,h1,h2⟩:=trodAll_cons h;refine ⟨p,q,?_,uH hl (fun t h=>ht t (by simp[h])) h2 hb (fun x hx=>hlt x (by simp[hx])) (fun x hx=>hsp x (by simp[hx])),rfl⟩
  exact WideElems.Trod_stays hl (ht t (by simp)).1 (ht t (by simp)).2 h1 (fun x hx=>hb.same (hlt x (by simp[hx]))) (fun x hx=>hsp x (by simp[hx]))
theorem Nh {W:World}:∀{vs:List Value} {xs:List AV},mf (AR W P) vs xs→VAs (jD W).get .no (vs.map (KB W.heap.size)) xs∧VRs (gW P W) vs (vs.map (KB W.heap.size))
 | [],[],_=>⟨.nil,.nil⟩
 |v::vs,x::xs,h=>⟨.cons h.1.1 (Nh h.2).1,.cons h.1.2 (Nh h.2).2⟩
 | [],_::_,h=>h.elim
 |_::_,[],h=>h.elim
theorem law_contract {E:Env} (hS:jk E) (hE:∀W,bu E (gW E.P W)) {f:FuncId} (hgo:tG E (.fn (.func f) [] [])=true) {fn:Func} {s:ChangeSpec} {tb:TypeId} (hl:laidOutB E.P=true) (hts:(fn.params.toList.all fun t=>E.P.readableRec t&&decide (t<E.P.types.size))=true)
  (bf:fn.resultTypes= #[tb]) (htb:E.P.underlying tb=some .bool) (hv:s.vars= []) (hfn:∀ds:List (DataW H),ds.length=fn.params.size→s.fn H ds={results:= [.lit (.bool true)],args:=ds})
  {W:World} {args:Array Value} {ds gs:List (DataW H)} {before:List MemPlace}
  (hW:DataW.Whole enc E.P fn.params.toList s.vars false W args.toList ds gs before)
  (tF:∃xs:List AV,bW E f [] xs (.bool true) []∧mf (AR W E.P) args.toList xs):
  Calls E.P f args W fun e W'=>∃v,e= .returned v∧s.post enc E.P fn false true false false W args v W':=by
 obtain ⟨xs,hs,h2⟩:=tF;obtain ⟨k1,k2⟩:=Nh h2;have hc:=RU hS (hE W) hs hgo k1 k2;rw[Array.toArray_toList] at hc;refine hc.mono ?_;rintro e W' ⟨rfl,hb⟩;refine ⟨_,rfl,?_⟩;have hW':=hW;obtain ⟨p,q,hA,hV,rfl,hfz,hnd⟩:=hW;rw[hv] at hV;obtain ⟨rfl,rfl⟩:=trodVars_none hV;have hdl:ds.length=fn.params.size:=by
  have:∀{ts:List TypeId} {vs:List Value} {ds:List (DataW H)} {ps:List MemPlace},DataW.TrodAll enc E.P W 0 (fun _=>true) true ts vs ds ps→ds.length=ts.length:=by
   intro ts;induction ts with
   |nil=>intro vs ds ps h;obtain ⟨rfl,rfl,rfl⟩:=trodAll_nil h;rfl
   |cons t ts ih=>intro vs ds ps h;obtain ⟨v,vs,d,ds,p,q,rfl,rfl,rfl,h1,h2⟩:=trodAll_cons h;simp[ih h2]
  simpa using this hA
 have hf:=hfn (ds++ []) (by simpa using hdl)
 have hlt:∀x∈p,x.block<W.heap.size:=fun x hx=>hW'.lt x (by simp[hx])
 have htt:∀t∈fn.params.toList,E.P.readableRec t=true∧t<E.P.types.size:=fun t ht=>by
  have:=List.all_eq_true.1 hts t ht;simpa using this
 have hold:∀x∈p,(fun b=>decide (b<W.heap.size)) x.block=true:=fun x hx=>by simpa using hlt x hx
 refine ⟨ds,[],p++ [],[],p,[],hW',?_,?_,?_,hb.frame _,fun h=>by cases h⟩
 ·rw[hf,bf];exact trodAll_cons_mk (shut_bool htb _) trodAll_mk0
 ·rw[hf];simp only[List.append_nil];exact uH hl htt hA hb hlt hold
 ·rw[hf,hv];exact rfl
theorem yz {W:World} {base:Nat} {t e:TypeId} {v:Value} (hu:P.underlying t=some (.slice e)) (h:Value.okWide P W .any base t v):v.cells.toList= [v]:=by
 simp only[Value.okWide,hu,Cell.okWide,Cell.ok] at h;split at h<;>first|rfl|(simp_all;done)|(exact h.elim)
theorem NR {W:World} {base:Nat} {t:TypeId} {fs:Array Field} {v:Value} (hu:P.underlying t=some (.struct fs)) (h:Value.okWide P W .any base t v):∃cs,v= .agg cs:=by
 simp only[Value.okWide,hu] at h;obtain ⟨cs,h,_⟩:=h;exact ⟨cs,h⟩
end
end
end Go.Sim
namespace Go.Proofs.YtmealahmjddpcaaGreatDoor
open Go.Sim
def tyT:Tr TI:=aaV Tryz.prog 338
def fnT:Tr Func:=adP Tryz.prog
def env (aiN:List Nat) (afK:List (Nat×Nat)) (fL:List Mo) (stop:List Nat) (lt eq:List (SI×SI×Bool)) (done:List (Nat×SV)):Env:=⟨Tryz.prog,tyT,fnT,lt,eq,done,aiN,afK,fL,stop⟩
theorem Fl:xr Tryz.prog tyT fnT:=afM 338 158 (fe:=Tryz.f158) (by kernel_rfl) (by kernel_rfl) Tryz.func158 (by kernel_rfl) (by kernel_rfl) (by kernel_rfl)
def E0:Env:=env [] [] [] [] [] [] [(15,.bool true)]
def BH (f:Func):Code:=f.body.getD .skip
def D4 (x:Int):List AV:= [.int .i64 x]
def aX (xs:List Int):List (List AV):=xs.map D4
theorem ve (xs:List Int):aX xs=xs.map D4:=rfl
theorem R3:RowsK D4 aX:=⟨ve⟩
def enc2 (x:Int):List AV:= [.int .i64 x]
def enc9 (x:ByteArray):List AV:= [.str x]
def n5 (xs:List ByteArray):List (List AV):=xs.map enc9
structure I where
 ax:Int
 bQ:Int
 bq:ByteArray
def fF (x:I):List AV:= [.int .i64 x.ax,.int .i64 x.bQ,.str x.bq]
def aI (xs:List I):List (List AV):=xs.map fF
theorem sX (xs:List I):aI xs=xs.map fF:=rfl
theorem R64:RowsK fF aI:=⟨sX⟩
def Bo (x:(List I)):List AV:= [.slice 65 3 (aI x)]
def fJ (xs:List (List I)):List (List AV):=xs.map Bo
theorem sZ (xs:List (List I)):fJ xs=xs.map Bo:=rfl
theorem R42:RowsK Bo fJ:=⟨sZ⟩
structure az where
 cm:Int
 du:Int
 ar:Int
 av:(List I)
def Bn (x:az):List AV:= [.int .i64 x.cm,.int .i64 x.du,.int .i64 x.ar,.slice 65 3 (aI x.av)]
structure qi where
 pS:az
def agF (x:qi):List AV:= [.int .i64 x.pS.cm,.int .i64 x.pS.du,.int .i64 x.pS.ar,.slice 65 3 (aI x.pS.av)]
inductive eD where
 |nil
 |c35 (x:Int)
 |ua (x:qi)
def pZ:eD→AV
 | .nil=>.cq
 | .c35 x=>.ifc 35 (.int .i64 x)
 | .ua x=>.ifc 145 (.agg (agF x))
def lT {α:Type} (x:eD) (a:α) (f35:Int→α) (f145:qi→α):α:=
 match x with
 | .nil=>a
 | .c35 x=>f35 x
 | .ua x=>f145 x
theorem ice {α:Type} {x:eD} {a:Option α} {f35:Int→Option α} {f145:qi→Option α} {r:α} {G:Prop} (h:lT x a f35 f145=some r) (k:x= .nil→a=some r→G) (k35:∀y,x= .c35 y→f35 y=some r→G) (k145:∀y,x= .ua y→f145 y=some r→G):G:=by
 cases x with
 |nil=>exact k rfl h
 |c35 y=>exact k35 y rfl h
 |ua y=>exact k145 y rfl h
def Lr (x:Int):List AV:= [.int .u8 x]
def mU (xs:List Int):List (List AV):=xs.map Lr
theorem Eu (xs:List Int):mU xs=xs.map Lr:=rfl
theorem R5:RowsK Lr mU:=⟨Eu⟩
structure ak where
 fOp:Int
 ar:Int
 av:(List I)
 af:(List Int)
 aJ:(List I)
def fq (x:ak):List AV:= [.int .i64 x.fOp,.int .i64 x.ar,.slice 65 3 (aI x.av),.slice 3 1 (aX x.af),.slice 65 3 (aI x.aJ)]
def cn (xs:List ak):List (List AV):=xs.map fq
theorem sY (xs:List ak):cn xs=xs.map fq:=rfl
theorem R54:RowsK fq cn:=⟨sY⟩
structure aS where
 br:ByteArray
 ax:Int
def xi (x:aS):List AV:= [.str x.br,.int .i64 x.ax]
def kz (xs:List aS):List (List AV):=xs.map xi
theorem P2 (xs:List aS):kz xs=xs.map xi:=rfl
theorem R76:RowsK xi kz:=⟨P2⟩
structure aF where
 af:(List Int)
 ar:Int
def tT (x:aF):List AV:= [.slice 3 1 (aX x.af),.int .i64 x.ar]
def ib (xs:List aF):List (List AV):=xs.map tT
theorem P0 (xs:List aF):ib xs=xs.map tT:=rfl
theorem R79:RowsK tT ib:=⟨P0⟩
structure aA where
 ax:Int
 bL:Int
 aT:I
def kQ (x:aA):List AV:= [.int .i64 x.ax,.int .i64 x.bL,.int .i64 x.aT.ax,.int .i64 x.aT.bQ,.str x.aT.bq]
def rZ (xs:List aA):List (List AV):=xs.map kQ
theorem PZ (xs:List aA):rZ xs=xs.map kQ:=rfl
theorem R81:RowsK kQ rZ:=⟨PZ⟩
structure ag where
 fOp:Int
 gD:Int
 bD:aA
 bl:aA
 fArgs:(List ag)
mutual
def Lq:ag→List AV
 |⟨fOp,gD,bD,bl,fArgs⟩=> [.int .i64 fOp,.int .i64 gD,.int .i64 bD.ax,.int .i64 bD.bL,.int .i64 bD.aT.ax,.int .i64 bD.aT.bQ,.str bD.aT.bq,.int .i64 bl.ax,.int .i64 bl.bL,.int .i64 bl.aT.ax,.int .i64 bl.aT.bQ,.str bl.aT.bq,.slice 84 13 (fw fArgs)]
def fw:List ag→List (List AV)
 | []=> []
 |x::xs=>Lq x::fw xs
end
def fZ (x:ag):List AV:= [.int .i64 x.fOp,.int .i64 x.gD,.int .i64 x.bD.ax,.int .i64 x.bD.bL,.int .i64 x.bD.aT.ax,.int .i64 x.bD.aT.bQ,.str x.bD.aT.bq,.int .i64 x.bl.ax,.int .i64 x.bl.bL,.int .i64 x.bl.aT.ax,.int .i64 x.bl.aT.bQ,.str x.bl.aT.bq,.slice 84 13 (fw x.fArgs)]
theorem XK (x:ag):Lq x=fZ x:=by cases x;simp[Lq,fZ]
theorem PY (xs:List ag):fw xs=xs.map fZ:=by
 induction xs with
 |nil=>simp[fw]
 |cons x xs ih=>simp[fw,ih,XK]
theorem R83:RowsK fZ fw:=⟨PY⟩
structure ai where
 br:ByteArray
 af:(List aS)
 av:Int
 bg:(List aF)
 bV:(List ag)
def fm (x:ai):List AV:= [.str x.br,.slice 77 2 (kz x.af),.int .i64 x.av,.slice 80 2 (ib x.bg),.slice 84 13 (fw x.bV)]
def cO (xs:List ai):List (List AV):=xs.map fm
theorem P3 (xs:List ai):cO xs=xs.map fm:=rfl
theorem R62:RowsK fm cO:=⟨P3⟩
structure aa where
 bE:Int
 J:(List ai)
def aV (x:aa):List AV:= [.int .i64 x.bE,.slice 63 5 (cO x.J)]
structure aj where
 fO:(List Int)
 fat:Int
def bA (x:aj):List AV:= [.slice 5 1 (mU x.fO),.int .i64 x.fat]
def FV (x:(List (List I))):List AV:= [.slice 43 1 (fJ x)]
def dK (xs:List (List (List I))):List (List AV):=xs.map FV
theorem sW (xs:List (List (List I))):dK xs=xs.map FV:=rfl
theorem R66:RowsK FV dK:=⟨sW⟩
structure an where
 J:(List (List (List I)))
def cN (x:an):List AV:= [.slice 66 1 (dK x.J)]
structure aD where
 ar:Int
 nP:(List I)
 pW:(List I)
def l5 (x:aD):List AV:= [.int .i64 x.ar,.slice 65 3 (aI x.nP),.slice 65 3 (aI x.pW)]
def eF (xs:List aD):List (List AV):=xs.map l5
theorem Np (xs:List aD):eF xs=xs.map l5:=rfl
theorem dO:RowsK l5 eF:=⟨Np⟩
structure cQ where
 eX:(List Int)
 fY:(List Int)
def sv (x:cQ):List AV:= [.slice 3 1 (aX x.eX),.slice 3 1 (aX x.fY)]
def Sk (_n:Nat) (a b:ByteArray):Option Int:=some (Lib.compareBytes a.data.toList b.data.toList)
def JN (r:Int):AV:=.int .i64 r
def aeL (_r:Int):List (Nat×Bx):= []
def C158:=Cx E0 158 JN aeL
def aex (a b:ByteArray):LS:=⟨[(0,.str a),(1,.str b)],[]⟩
theorem ajc (n:Nat):K2 C158 aex (Sk n):=fun a b r h=>by
 have e:=Option.some.inj h;subst e;show bW E0 158 [] [.str a,.str b] (JN (Lib.compareBytes a.data.toList b.data.toList)) [];rw[show JN (Lib.compareBytes a.data.toList b.data.toList)= .int .i64 (p9 a b) from congrArg (AV.int .i64) (EX a b)];exact bW.cmp (fn:=Tryz.f158) (by kernel_rfl) (by kernel_rfl) (by kernel_rfl) (by kernel_rfl) (by kernel_rfl) (by kernel_rfl)
def F15 (_n:Nat):Option Bool:=some true
def aiE (r:Bool):AV:=.bool r
def agj (_r:Bool):List (Nat×Bx):= []
def C15:=Cx E0 15 aiE agj
def aga:LS:=⟨[],[]⟩
theorem ev15 (n:Nat):K0 C15 aga (F15 n):=fun r h=>by
 have e:=Option.some.inj h;subst e;exact bW.done (v:=.bool true) (by kernel_rfl) fun F g=>.bool true
def res8 (r:aj):AV:=.loc 200000 0
def acw (r:aj):List (Nat×Bx):= [(200000,.flat 74 (bA r))]
def x8:=fx E0 Tryz.f8 [] [200000]
def A8:=Ax x8 res8 acw
def C8:=Cx E0 8 res8 acw
def aba (gp:List Int) (tg:Int):LS:=⟨[(0,.slice 5 1 (mU gp)),(1,.int .i64 tg)],[]⟩
def aaR (n : Nat) (gp : List Int) (tg : Int) : Option aj :=
 (cut gp none (some (if tg < (gp.length : Int) then tg else (gp.length : Int)))).bind fun x7 =>
 (app [] x7).bind fun x9 =>
 some (aj.mk x9 0)
theorem b8_0 (n : Nat) : K2 (A8 []) aba (aaR n) := fun gp tg r h =>
 be h fun x7 hx7 h =>
 be h fun x9 hx9 h =>
 rr h [(3, .eqv (R5.au gp)), (2, R5.cut hx7), (0, .born [] [] 11 true 5 1), (0, R5.app (xs := []) hx9 .dat), (3, .ren 13 200000), (0, R5.frz 11 x9), (0, .norm [] [(200000, .flat [.sl 0 0])])]
def F8 (n:Nat) (gp:List Int) (tg:Int):Option aj:=aaR n gp tg
theorem ev8 (n:Nat):K2 C8 aba (F8 n):=fun _ _ _ h=>ca (X:=x8) (b8_0 n h)
def acg (r:(Int×aj)):AV:=.int .i64 r.1
def Wz (r:(Int×aj)):List (Nat×Bx):= [(0,.flat 74 (bA r.2))]
def x24:=fx E0 Tryz.f24 [0] [0]
def A24:=Ax x24 acg Wz
def C24:=Cx E0 24 acg Wz
def UG (c0:aj) (n1:Int):LS:=⟨[(0,.loc 0 0),(1,.int .i64 n1)],[(0,.flat 74 (bA c0))]⟩
def Tk (n : Nat) (c0 : aj) (n1 : Int) : Option (Int × aj) :=
 if !decide (c0.fat < (c0.fO.length : Int)) then
 some (0, c0)
 else
 if decide (n1 < 1) then
 some (0, c0)
 else
 (idx c0.fO (w64 ((w64 (c0.fat + 1)) - 1))).bind fun x33 =>
 (rem (w64 (x33)) n1).bind fun x38 =>
 some ((Int.tmod (w64 (x33)) n1), (aj.mk c0.fO (w64 (c0.fat + 1))))
theorem alR (n : Nat) : K2 (A24 []) UG (Tk n) := fun c0 n1 r h =>
 ie h (fun c0_ h =>
 rr h [(9, .eqv (R5.au c0.fO)), (0, eb c0_)]) (fun c0_ h =>
 ie h (fun c1 h =>
 rr h [(9, .eqv (R5.au c0.fO)), (0, eb c0_), (2, eb c1)]) (fun c1 h =>
 be h fun x33 lj h =>
 be h fun x38 vD h =>
 rr h [(9, .eqv (R5.au c0.fO)), (0, eb c0_), (2, eb c1), (18, R5.idx lj), (3, .nz (JO vD).1)]))
def F24 (n:Nat) (c0:aj) (n1:Int):Option (Int×aj):=Tk n c0 n1
theorem bO (n:Nat):K2 C24 UG (F24 n):=fun _ _ _ h=>ca (X:=x24) (alR n h)
def ace (r:(Bool×aj)):AV:=.bool r.1
def Wx (r:(Bool×aj)):List (Nat×Bx):= [(0,.flat 74 (bA r.2))]
def x29:=fx E0 Tryz.f29 [0] [0]
def A29:=Ax x29 ace Wx
def C29:=Cx E0 29 ace Wx
def UE (c0:aj) (n1:Int):LS:=⟨[(0,.loc 0 0),(1,.int .i64 n1)],[(0,.flat 74 (bA c0))]⟩
def Ti (n : Nat) (c0 : aj) (n1 : Int) : Option (Bool × aj) :=
 (F24 n c0 n1).bind fun x4 =>
 some (x4.1 == (w64 (n1 - 1)), x4.2)
theorem alL (n : Nat) : K2 (A29 []) UE (Ti n) := fun c0 n1 r h =>
 be h fun x4 hx4 h =>
 rr h [(3, .call (bO n hx4) [] [(0, 0)] [])]
def F29 (n:Nat) (c0:aj) (n1:Int):Option (Bool×aj):=Ti n c0 n1
theorem fk (n:Nat):K2 C29 UE (F29 n):=fun _ _ _ h=>ca (X:=x29) (alL n h)
def acd (r:aS):AV:=.agg (xi r)
def Ww (r:aS):List (Nat×Bx):= []
def x30:=fx E0 Tryz.f30 [] []
def A30:=Ax x30 acd Ww
def C30:=Cx E0 30 acd Ww
def UC (wX:ByteArray) (iA:Int):LS:=⟨[(0,.str wX),(1,.int .i64 iA)],[]⟩
def Th (n : Nat) (wX : ByteArray) (iA : Int) : Option aS :=
 some (aS.mk wX iA)
theorem alK (n : Nat) : K2 (A30 []) UC (Th n) := fun wX iA r h =>
 rr h []
def F30 (n:Nat) (wX:ByteArray) (iA:Int):Option aS:=Th n wX iA
theorem jx (n:Nat):K2 C30 UC (F30 n):=fun _ _ _ h=>ca (X:=x30) (alK n h)
def Vq (r:(Int×aj)):AV:=.int .i64 r.1
def OO (r:(Int×aj)):List (Nat×Bx):= [(0,.flat 74 (bA r.2))]
def x106:=fx E0 Tryz.f106 [0] [0]
def A106:=Ax x106 Vq OO
def C106:=Cx E0 106 Vq OO
def Og (c0:aj):LS:=⟨[(0,.loc 0 0)],[(0,.flat 74 (bA c0))]⟩
def M9 (n : Nat) (c0 : aj) : Option (Int × aj) :=
 (F24 n c0 12).bind fun x3 =>
 if x3.1 == 9 then
 some ((-1), x3.2)
 else
 if x3.1 == 10 then
 some (9223372036854775807, x3.2)
 else
 if x3.1 == 11 then
 some ((-9223372036854775808), x3.2)
 else
 (rem x3.1 4).bind fun x14 =>
 some ((Int.tmod x3.1 4), x3.2)
theorem ahs (n : Nat) : K1 (A106 []) Og (M9 n) := fun c0 r h =>
 be h fun x3 hx3 h =>
 ie h (fun c0_ h =>
 rr h [(2, .call (bO n hx3) [] [(0, 0)] []), (2, eb c0_)]) (fun c0_ h =>
 ie h (fun c1 h =>
 rr h [(2, .call (bO n hx3) [] [(0, 0)] []), (2, eb c0_), (1, eb c1)]) (fun c1 h =>
 ie h (fun c2 h =>
 rr h [(2, .call (bO n hx3) [] [(0, 0)] []), (2, eb c0_), (1, eb c1), (1, eb c2)]) (fun c2 h =>
 be h fun x14 gB h =>
 rr h [(2, .call (bO n hx3) [] [(0, 0)] []), (2, eb c0_), (1, eb c1), (1, eb c2), (2, .nz (JO gB).1)])))
def Su (n:Nat) (c0:aj):Option (Int×aj):=M9 n c0
theorem ajg (n:Nat):K1 C106 Og (Su n):=fun _ _ h=>ca (X:=x106) (ahs n h)
def Vp (r:(ByteArray×aj)):AV:=.str r.1
def ON (r:(ByteArray×aj)):List (Nat×Bx):= [(0,.flat 74 (bA r.2))]
def x107:=fx E0 Tryz.f107 [0] [0]
def mR:=Ax x107 Vp ON
def C107:=Cx E0 107 Vp ON
def CU (dS:ByteArray) (i4:Int) (b0:aj):LS:=⟨[(3,.str dS),(4,.int .i64 i4)],[(0,.flat 74 (bA b0))]⟩
def CT (dS:ByteArray) (b0:aj):LS:=⟨[(3,.str dS)],[(0,.flat 74 (bA b0))]⟩
def CS (dS:ByteArray) (i5:Int) (b0:aj):LS:=⟨[(3,.str dS),(5,.int .i64 i5)],[(0,.flat 74 (bA b0))]⟩
def CQ (dS:ByteArray) (b0:aj):LS:=⟨[(3,.str dS)],[(0,.flat 74 (bA b0))]⟩
def Of (c0:aj):LS:=⟨[(0,.loc 0 0)],[(0,.flat 74 (bA c0))]⟩
def Cn (k_1 : ByteArray → aj → Option (ByteArray × aj)) (back : ByteArray → Int → aj → Option (ByteArray × aj)) (n : Nat) (dS : ByteArray) (i4 : Int) (b0 : aj) : Option (ByteArray × aj) :=
 if decide (i4 < 64) then
 (cat dS (ByteArray.mk #[255])).bind fun x4 =>
 back (dS ++ (ByteArray.mk #[255])) (w64 (i4 + 1)) b0
 else
 k_1 dS b0
theorem ahr {k_1} (aG : K2 (mR [1, 0, 1, 1, 1, 1, 1, 1, 1, 1, 1, 1, 1, 0, 1, 0, 1, 1]) CT k_1) {back} (aw : K3 (mR [0, 1, 0, 0, 1, 1, 1, 1, 1, 1, 1, 1, 1, 1, 1, 0, 1, 0, 1, 1]) CU back) (n : Nat) : K3 (mR [0, 1, 0, 0, 1, 1, 1, 1, 1, 1, 1, 1, 1, 1, 1, 0, 1, 0, 1, 1]) CU (Cn k_1 back n) := fun dS i4 b0 r h =>
 ie h (fun c0_ h =>
 be h fun x4 hx4 h =>
 ra (aw h) [(1, eb c0_), (1, .cat (LB hx4).1)]) (fun c0_ h =>
 ra (aG h) [(1, eb c0_)])
def sD (k_1:ByteArray→aj→Option (ByteArray×aj)):Nat→ByteArray→Int→aj→Option (ByteArray×aj)
 |0,_,_,_=>none
 |n+1,dS,i4,b0=>Cn k_1 (sD k_1 n) n dS i4 b0
theorem Xg {k_1} (aG:K2 (mR [1,0,1,1,1,1,1,1,1,1,1,1,1,0,1,0,1,1]) CT k_1):∀n:Nat,K3 (mR [0,1,0,0,1,1,1,1,1,1,1,1,1,1,1,0,1,0,1,1]) CU (sD k_1 n)
 |0=>fun _ _ _ _ h=>nz h
 |n+1=>fun _ _ _ _ h=>ahr aG (Xg aG n) n h
def Yx (n : Nat) (dS : ByteArray) (b0 : aj) : Option (ByteArray × aj) :=
 some (dS, b0)
theorem ahq (n : Nat) : K2 (mR [1, 0, 1, 1, 1, 1, 1, 1, 1, 1, 1, 1, 1, 0, 1, 0, 1, 1]) CT (Yx n) := fun dS b0 r h =>
 rr h []
def Cm (k_3 : ByteArray → aj → Option (ByteArray × aj)) (back : ByteArray → Int → aj → Option (ByteArray × aj)) (n : Nat) (dS : ByteArray) (i5 : Int) (b0 : aj) : Option (ByteArray × aj) :=
 if decide (i5 < 64) then
 (cat dS (ByteArray.mk #[98])).bind fun x4 =>
 back (dS ++ (ByteArray.mk #[98])) (w64 (i5 + 1)) b0
 else
 k_3 dS b0
theorem ahp {k_3} (bw : K2 (mR [1, 1, 1, 1]) CQ k_3) {back} (aw : K3 (mR [0, 1, 0, 1, 1, 1]) CS back) (n : Nat) : K3 (mR [0, 1, 0, 1, 1, 1]) CS (Cm k_3 back n) := fun dS i5 b0 r h =>
 ie h (fun c0_ h =>
 be h fun x4 hx4 h =>
 ra (aw h) [(1, eb c0_), (1, .cat (LB hx4).1)]) (fun c0_ h =>
 ra (bw h) [(1, eb c0_)])
def sC (k_3:ByteArray→aj→Option (ByteArray×aj)):Nat→ByteArray→Int→aj→Option (ByteArray×aj)
 |0,_,_,_=>none
 |n+1,dS,i5,b0=>Cm k_3 (sC k_3 n) n dS i5 b0
theorem Xf {k_3} (bw:K2 (mR [1,1,1,1]) CQ k_3):∀n:Nat,K3 (mR [0,1,0,1,1,1]) CS (sC k_3 n)
 |0=>fun _ _ _ _ h=>nz h
 |n+1=>fun _ _ _ _ h=>ahp bw (Xf bw n) n h
def Yw (n : Nat) (dS : ByteArray) (b0 : aj) : Option (ByteArray × aj) :=
 some (dS, b0)
theorem aho (n : Nat) : K2 (mR [1, 1, 1, 1]) CQ (Yw n) := fun dS b0 r h =>
 rr h []
def M8 (n : Nat) (c0 : aj) : Option (ByteArray × aj) :=
 (F24 n c0 10).bind fun x4 =>
 if x4.1 == 0 then
 some ((ByteArray.mk #[97]), x4.2)
 else
 if x4.1 == 1 then
 some ((ByteArray.mk #[97]), x4.2)
 else
 if x4.1 == 2 then
 some ((ByteArray.mk #[97]), x4.2)
 else
 if x4.1 == 3 then
 some ((ByteArray.mk #[98]), x4.2)
 else
 if x4.1 == 4 then
 some ((ByteArray.mk #[98]), x4.2)
 else
 if x4.1 == 5 then
 some (ByteArray.empty, x4.2)
 else
 if x4.1 == 6 then
 some ((ByteArray.mk #[97, 0]), x4.2)
 else
 if x4.1 == 7 then
 some ((ByteArray.mk #[255]), x4.2)
 else
 if x4.1 == 8 then
 sD (Yx n) n ByteArray.empty 0 x4.2
 else
 sC (Yw n) n ByteArray.empty 0 x4.2
theorem ahn (n : Nat) : K1 (mR []) Of (M8 n) := fun c0 r h =>
 be h fun x4 hx4 h =>
 ie h (fun c0_ h =>
 rr h [(3, .call (bO n hx4) [] [(0, 0)] []), (0, eb c0_)]) (fun c0_ h =>
 ie h (fun c1 h =>
 rr h [(3, .call (bO n hx4) [] [(0, 0)] []), (0, eb c0_), (1, eb c1)]) (fun c1 h =>
 ie h (fun c2 h =>
 rr h [(3, .call (bO n hx4) [] [(0, 0)] []), (0, eb c0_), (1, eb c1), (1, eb c2)]) (fun c2 h =>
 ie h (fun c3 h =>
 rr h [(3, .call (bO n hx4) [] [(0, 0)] []), (0, eb c0_), (1, eb c1), (1, eb c2), (1, eb c3)]) (fun c3 h =>
 ie h (fun c4 h =>
 rr h [(3, .call (bO n hx4) [] [(0, 0)] []), (0, eb c0_), (1, eb c1), (1, eb c2), (1, eb c3), (1, eb c4)]) (fun c4 h =>
 ie h (fun c5 h =>
 rr h [(3, .call (bO n hx4) [] [(0, 0)] []), (0, eb c0_), (1, eb c1), (1, eb c2), (1, eb c3), (1, eb c4), (1, eb c5)]) (fun c5 h =>
 ie h (fun c6 h =>
 rr h [(3, .call (bO n hx4) [] [(0, 0)] []), (0, eb c0_), (1, eb c1), (1, eb c2), (1, eb c3), (1, eb c4), (1, eb c5), (1, eb c6)]) (fun c6 h =>
 ie h (fun c7 h =>
 rr h [(3, .call (bO n hx4) [] [(0, 0)] []), (0, eb c0_), (1, eb c1), (1, eb c2), (1, eb c3), (1, eb c4), (1, eb c5), (1, eb c6), (1, eb c7)]) (fun c7 h =>
 ie h (fun c8 h =>
 ra (Xg (ahq n) n h) [(3, .call (bO n hx4) [] [(0, 0)] []), (0, eb c0_), (1, eb c1), (1, eb c2), (1, eb c3), (1, eb c4), (1, eb c5), (1, eb c6), (1, eb c7), (1, eb c8)]) (fun c8 h =>
 ra (Xf (aho n) n h) [(3, .call (bO n hx4) [] [(0, 0)] []), (0, eb c0_), (1, eb c1), (1, eb c2), (1, eb c3), (1, eb c4), (1, eb c5), (1, eb c6), (1, eb c7), (1, eb c8)])))))))))
def Ss (n:Nat) (c0:aj):Option (ByteArray×aj):=M8 n c0
theorem ajf (n:Nat):K1 C107 Of (Ss n):=fun _ _ h=>ca (X:=x107) (ahn n h)
def abv (r:(I×aj)):AV:=.agg (fF r.1)
def VY (r:(I×aj)):List (Nat×Bx):= [(0,.flat 74 (bA r.2))]
def x74:=fx E0 Tryz.f74 [0] [0]
def A74:=Ax x74 abv VY
def C74:=Cx E0 74 abv VY
def TV (c0:aj) (iA:Int):LS:=⟨[(0,.loc 0 0),(1,.int .i64 iA)],[(0,.flat 74 (bA c0))]⟩
def SK (n : Nat) (c0 : aj) (iA : Int) : Option (I × aj) :=
 if iA == 3 then
 (F24 n c0 2).bind fun x7 =>
 some ((I.mk iA x7.1 ByteArray.empty), x7.2)
 else
 if iA == 4 then
 (Su n c0).bind fun x9 =>
 some ((I.mk iA x9.1 ByteArray.empty), x9.2)
 else
 (Ss n c0).bind fun x8 =>
 some ((I.mk 5 0 x8.1), x8.2)
theorem aki (n : Nat) : K2 (A74 []) TV (SK n) := fun c0 iA r h =>
 ie h (fun c0_ h =>
 be h fun x7 hx7 h =>
 rr h [(2, eb c0_), (3, .call (bO n hx7) [] [(0, 0)] [])]) (fun c0_ h =>
 ie h (fun c1 h =>
 be h fun x9 hx9 h =>
 rr h [(2, eb c0_), (1, eb c1), (3, .call (ajg n hx9) [] [(0, 0)] [])]) (fun c1 h =>
 be h fun x8 hx8 h =>
 rr h [(2, eb c0_), (1, eb c1), (2, .call (ajf n hx8) [] [(0, 0)] [])]))
def F74 (n:Nat) (c0:aj) (iA:Int):Option (I×aj):=SK n c0 iA
theorem Lh (n:Nat):K2 C74 TV (F74 n):=fun _ _ _ h=>ca (X:=x74) (aki n h)
def Vv (r:(aA×aj)):AV:=.agg (kQ r.1)
def OU (r:(aA×aj)):List (Nat×Bx):= [(0,.flat 74 (bA r.2))]
def x101:=fx E0 Tryz.f101 [0] [0]
def mS:=Ax x101 Vv OU
def C101:=Cx E0 101 Vv OU
def C7 (params2:List Int) (cS:Int) (t15:List Int) (t16 t17:Int) (b0:aj) (b8:aA) (b29:List aA):LS:=⟨[(0,.loc 0 0),(2,.slice 3 1 (aX params2)),(3,.int .i64 cS),(8,.loc 8 0),(9,.ms 29 5 0 b29.length),(15,.slice 3 1 (aX t15)),(16,.int .i64 t16),(17,.int .i64 t17)],[(0,.flat 74 (bA b0)),(8,.flat 82 (kQ b8)),(29,.rows true 82 5 (rZ b29))]⟩
def C6 (cS:Int) (t31:List Int) (t32 t33:Int) (b0:aj) (b8:aA) (b29:List aA):LS:=⟨[(0,.loc 0 0),(3,.int .i64 cS),(8,.loc 8 0),(9,.ms 29 5 0 b29.length),(31,.slice 3 1 (aX t31)),(32,.int .i64 t32),(33,.int .i64 t33)],[(0,.flat 74 (bA b0)),(8,.flat 82 (kQ b8)),(29,.rows true 82 5 (rZ b29))]⟩
def C5 (cS:Int) (b0:aj) (b8:aA) (b29:List aA):LS:=⟨[(0,.loc 0 0),(3,.int .i64 cS),(8,.loc 8 0),(9,.ms 29 5 0 b29.length)],[(0,.flat 74 (bA b0)),(8,.flat 82 (kQ b8)),(29,.rows true 82 5 (rZ b29))]⟩
def C3 (params2:List Int) (cS:Int) (b0:aj) (b8:aA) (b29:List aA):LS:=⟨[(0,.loc 0 0),(2,.slice 3 1 (aX params2)),(3,.int .i64 cS),(8,.loc 8 0),(9,.ms 29 5 0 b29.length)],[(0,.flat 74 (bA b0)),(8,.flat 82 (kQ b8)),(29,.rows true 82 5 (rZ b29))]⟩
def Oi (c0:aj) (aW params2:List Int) (cS:Int):LS:=⟨[(0,.loc 0 0),(1,.slice 3 1 (aX aW)),(2,.slice 3 1 (aX params2)),(3,.int .i64 cS)],[(0,.flat 74 (bA c0))]⟩
def Cw (k_3 : (List Int) → Int → aj → aA → (List aA) → Option (aA × aj)) (back : (List Int) → Int → (List Int) → Int → Int → aj → aA → (List aA) → Option (aA × aj)) (n : Nat) (params2 : List Int) (cS : Int) (t15 : List Int) (t16 t17 : Int) (b0 : aj) (b8 : aA) (b29 : List aA) : Option (aA × aj) :=
 if decide (t17 < t16) then
 (idx t15 t17).bind fun x3 =>
 if x3 == cS then
 (app b29 [(aA.mk 1 t17 (I.mk 0 0 ByteArray.empty))]).bind fun x15 =>
 back params2 cS t15 t16 (w64 (t17 + 1)) b0 b8 x15
 else
 back params2 cS t15 t16 (w64 (t17 + 1)) b0 b8 b29
 else
 k_3 params2 cS b0 b8 b29
theorem ahJ {k_3} (bw : K5 (mS [1, 1, 1]) C3 k_3) {back} (aw : K8 (mS [0, 1, 0, 1, 1]) C7 back) (n : Nat) : K8 (mS [0, 1, 0, 1, 1]) C7 (Cw k_3 back n) := fun params2 cS t15 t16 t17 b0 b8 b29 r h =>
 ie h (fun c0_ h =>
 be h fun x3 hx3 h =>
 ie h (fun c1 h =>
 be h fun x15 cK h =>
 ra (aw h) [(0, eb c0_), (1, R3.idx hx3), (5, eb c1), (4, R81.app cK (R81.srW [(aA.mk 1 t17 (I.mk 0 0 ByteArray.empty))]))]) (fun c1 h =>
 ra (aw h) [(0, eb c0_), (1, R3.idx hx3), (5, eb c1)])) (fun c0_ h =>
 ra (bw h) [(0, eb c0_)])
def sI (k_3:(List Int)→Int→aj→aA→(List aA)→Option (aA×aj)):Nat→(List Int)→Int→(List Int)→Int→Int→aj→aA→(List aA)→Option (aA×aj)
 |0,_,_,_,_,_,_,_,_=>none
 |n+1,params2,cS,t15,t16,t17,b0,b8,b29=>Cw k_3 (sI k_3 n) n params2 cS t15 t16 t17 b0 b8 b29
theorem Xm {k_3} (bw:K5 (mS [1,1,1]) C3 k_3):∀n:Nat,K8 (mS [0,1,0,1,1]) C7 (sI k_3 n)
 |0=>fun _ _ _ _ _ _ _ _ _ h=>nz h
 |n+1=>fun _ _ _ _ _ _ _ _ _ h=>ahJ bw (Xm bw n) n h
def Cv (k_2 : Int → aj → aA → (List aA) → Option (aA × aj)) (back : Int → (List Int) → Int → Int → aj → aA → (List aA) → Option (aA × aj)) (n : Nat) (cS : Int) (t31 : List Int) (t32 t33 : Int) (b0 : aj) (b8 : aA) (b29 : List aA) : Option (aA × aj) :=
 if decide (t33 < t32) then
 (idx t31 t33).bind fun x3 =>
 if x3 == cS then
 (app b29 [(aA.mk 2 t33 (I.mk 0 0 ByteArray.empty))]).bind fun x15 =>
 back cS t31 t32 (w64 (t33 + 1)) b0 b8 x15
 else
 back cS t31 t32 (w64 (t33 + 1)) b0 b8 b29
 else
 k_2 cS b0 b8 b29
theorem ahI {k_2} (bP : K4 (mS [1, 1, 1, 1]) C5 k_2) {back} (aw : K7 (mS [0, 1, 0, 1, 1, 1]) C6 back) (n : Nat) : K7 (mS [0, 1, 0, 1, 1, 1]) C6 (Cv k_2 back n) := fun cS t31 t32 t33 b0 b8 b29 r h =>
 ie h (fun c0_ h =>
 be h fun x3 hx3 h =>
 ie h (fun c1 h =>
 be h fun x15 cK h =>
 ra (aw h) [(0, eb c0_), (1, R3.idx hx3), (5, eb c1), (4, R81.app cK (R81.srW [(aA.mk 2 t33 (I.mk 0 0 ByteArray.empty))]))]) (fun c1 h =>
 ra (aw h) [(0, eb c0_), (1, R3.idx hx3), (5, eb c1)])) (fun c0_ h =>
 ra (bP h) [(0, eb c0_)])
def sH (k_2:Int→aj→aA→(List aA)→Option (aA×aj)):Nat→Int→(List Int)→Int→Int→aj→aA→(List aA)→Option (aA×aj)
 |0,_,_,_,_,_,_,_=>none
 |n+1,cS,t31,t32,t33,b0,b8,b29=>Cv k_2 (sH k_2 n) n cS t31 t32 t33 b0 b8 b29
theorem Xl {k_2} (bP:K4 (mS [1,1,1,1]) C5 k_2):∀n:Nat,K7 (mS [0,1,0,1,1,1]) C6 (sH k_2 n)
 |0=>fun _ _ _ _ _ _ _ _ h=>nz h
 |n+1=>fun _ _ _ _ _ _ _ _ h=>ahI bP (Xl bP n) n h
def wI (n : Nat) (cS : Int) (b0 : aj) (b8 : aA) (b29 : List aA) : Option (aA × aj) :=
 (F24 n b0 (w64 ((b29.length : Int) + 1))).bind fun x5 =>
 if decide (x5.1 < (b29.length : Int)) then
 (bnd b29.length x5.1).bind fun x14 =>
 (b29[0 + x14]?).bind fun x16 =>
 some (x16, x5.2)
 else
 (F74 n x5.2 cS).bind fun x14 =>
 some ((aA.mk 3 0 x14.1), x14.2)
theorem ahH (n : Nat) : K4 (mS [1, 1, 1, 1]) C5 (wI n) := fun cS b0 b8 b29 r h =>
 be h fun x5 hx5 h =>
 ie h (fun c0_ h =>
 be h fun x14 gB h =>
 be h fun x16 dz h =>
 rr h [(4, .call (bO n hx5) [] [(0, 0)] []), (4, eb c0_), (2, cY gB), (0, R81.row dz)]) (fun c0_ h =>
 be h fun x14 gB h =>
 rr h [(4, .call (bO n hx5) [] [(0, 0)] []), (4, eb c0_), (2, .call (Lh n gB) [] [(0, 0)] [])])
def Cu (n : Nat) (params2 : List Int) (cS : Int) (b0 : aj) (b8 : aA) (b29 : List aA) : Option (aA × aj) :=
 sH (wI n) n cS params2 (params2.length : Int) 0 b0 b8 b29
theorem ahG (n : Nat) : K5 (mS [1, 1, 1]) C3 (Cu n) := fun params2 cS b0 b8 b29 r h =>
 ra (Xl (ahH n) n h) [(1, .eqv (R3.au params2))]
def Yz (n : Nat) (c0 : aj) (aW params2 : List Int) (cS : Int) : Option (aA × aj) :=
 sI (Cu n) n params2 cS aW (aW.length : Int) 0 c0 (aA.mk 0 0 (I.mk 0 0 ByteArray.empty)) []
theorem ahF (n : Nat) : K4 (mS []) Oi (Yz n) := fun c0 aW params2 cS r h =>
 ra (Xm (ahG n) n h) [(3, .eqv (R3.au aW)), (1, .born [9] [] 29 true 82 5)]
def Sv (n:Nat) (c0:aj) (aW params2:List Int) (cS:Int):Option (aA×aj):=Yz n c0 aW params2 cS
theorem Rw (n:Nat):K4 C101 Oi (Sv n):=fun _ _ _ _ _ h=>ca (X:=x101) (ahF n h)
def abx (r:(ag×aj)):AV:=.agg (fZ r.1)
def V0 (r:(ag×aj)):List (Nat×Bx):= [(0,.flat 74 (bA r.2))]
def x72:=fx E0 Tryz.f72 [0] [0]
def A72:=Ax x72 abx V0
def C72:=Cx E0 72 abx V0
def afQ (b0:aj) (b8 b11:ag):LS:=⟨[(0,.loc 0 0),(8,.loc 8 0),(11,.loc 11 0)],[(0,.flat 74 (bA b0)),(8,.flat 84 [.int .i64 0,.int .i64 0,.int .i64 0,.int .i64 0,.int .i64 0,.int .i64 0,.str ByteArray.empty,.int .i64 0,.int .i64 0,.int .i64 0,.int .i64 0,.str ByteArray.empty,.aY]),(11,.flat 84 [.int .i64 3,.int .i64 b11.gD,.int .i64 b11.bD.ax,.int .i64 b11.bD.bL,.int .i64 b11.bD.aT.ax,.int .i64 b11.bD.aT.bQ,.str b11.bD.aT.bq,.int .i64 b11.bl.ax,.int .i64 b11.bl.bL,.int .i64 b11.bl.aT.ax,.int .i64 b11.bl.aT.bQ,.str b11.bl.aT.bq,.aY])]⟩
def afP (aW params2:List Int) (sj:Int) (b0:aj) (b8:ag):LS:=⟨[(0,.loc 0 0),(1,.slice 3 1 (aX aW)),(2,.slice 3 1 (aX params2)),(8,.loc 8 0),(10,.int .i64 sj)],[(0,.flat 74 (bA b0)),(8,.flat 84 [.int .i64 0,.int .i64 0,.int .i64 0,.int .i64 0,.int .i64 0,.int .i64 0,.str ByteArray.empty,.int .i64 0,.int .i64 0,.int .i64 0,.int .i64 0,.str ByteArray.empty,.aY])]⟩
def Ix (aW params2:List Int) (dh n13:Int) (b0:aj) (b8 b12:ag) (kq:List ag):LS:=⟨[(0,.loc 0 0),(1,.slice 3 1 (aX aW)),(2,.slice 3 1 (aX params2)),(3,.int .i64 dh),(8,.loc 8 0),(12,.loc 12 0),(13,.int .i64 n13)],[(0,.flat 74 (bA b0)),(8,.flat 84 [.int .i64 b8.fOp,.int .i64 b8.gD,.int .i64 b8.bD.ax,.int .i64 b8.bD.bL,.int .i64 b8.bD.aT.ax,.int .i64 b8.bD.aT.bQ,.str b8.bD.aT.bq,.int .i64 b8.bl.ax,.int .i64 b8.bl.bL,.int .i64 b8.bl.aT.ax,.int .i64 b8.bl.aT.bQ,.str b8.bl.aT.bq,.aY]),(12,.flat 84 [.int .i64 b12.fOp,.int .i64 b12.gD,.int .i64 b12.bD.ax,.int .i64 b12.bD.bL,.int .i64 b12.bD.aT.ax,.int .i64 b12.bD.aT.bQ,.str b12.bD.aT.bq,.int .i64 b12.bl.ax,.int .i64 b12.bl.bL,.int .i64 b12.bl.aT.ax,.int .i64 b12.bl.aT.bQ,.str b12.bl.aT.bq,.ms 104 13 0 kq.length]),(104,.rows true 84 13 (fw kq))]⟩
def Iw (b0:aj) (b8 b12:ag) (kq:List ag):LS:=⟨[(8,.loc 8 0),(12,.loc 12 0)],[(0,.flat 74 (bA b0)),(8,.flat 84 [.int .i64 b8.fOp,.int .i64 b8.gD,.int .i64 b8.bD.ax,.int .i64 b8.bD.bL,.int .i64 b8.bD.aT.ax,.int .i64 b8.bD.aT.bQ,.str b8.bD.aT.bq,.int .i64 b8.bl.ax,.int .i64 b8.bl.bL,.int .i64 b8.bl.aT.ax,.int .i64 b8.bl.aT.bQ,.str b8.bl.aT.bq,.aY]),(12,.flat 84 [.int .i64 b12.fOp,.int .i64 b12.gD,.int .i64 b12.bD.ax,.int .i64 b12.bD.bL,.int .i64 b12.bD.aT.ax,.int .i64 b12.bD.aT.bQ,.str b12.bD.aT.bq,.int .i64 b12.bl.ax,.int .i64 b12.bl.bL,.int .i64 b12.bl.aT.ax,.int .i64 b12.bl.aT.bQ,.str b12.bl.aT.bq,.ms 104 13 0 kq.length]),(104,.rows true 84 13 (fw kq))]⟩
def afO (aW params2:List Int) (dh op9:Int) (t27:Bool) (b0:aj) (b8:ag):LS:=⟨[(0,.loc 0 0),(1,.slice 3 1 (aX aW)),(2,.slice 3 1 (aX params2)),(3,.int .i64 dh),(8,.loc 8 0),(9,.int .i64 op9),(27,.bool t27)],[(0,.flat 74 (bA b0)),(8,.flat 84 [.int .i64 0,.int .i64 0,.int .i64 0,.int .i64 0,.int .i64 0,.int .i64 0,.str ByteArray.empty,.int .i64 0,.int .i64 0,.int .i64 0,.int .i64 0,.str ByteArray.empty,.aY])]⟩
def lN (c0:aj) (aW params2:List Int) (dh:Int):LS:=⟨[(0,.loc 0 0),(1,.slice 3 1 (aX aW)),(2,.slice 3 1 (aX params2)),(3,.int .i64 dh)],[(0,.flat 74 (bA c0))]⟩
def B3 (df : aj → (List Int) → (List Int) → Int → Option (ag × aj)) (n : Nat) (b0 : aj) (b8 b11 : ag) : Option (ag × aj) :=
 (F29 n b0 6).bind fun x2 =>
 if x2.1 then
 some ((ag.mk 3 b11.gD b11.bl b11.bD []), x2.2)
 else
 some ((ag.mk 3 b11.gD b11.bD b11.bl []), x2.2)
theorem aef {df} (fX : K4 C72 lN df) (n : Nat) : K3 (A72 [1, 1, 1, 1, 0, 1, 1, 1, 0, 0, 1, 1]) afQ (B3 df n) := fun b0 b8 b11 r h =>
 be h fun x2 hx2 h =>
 ie h (fun c0_ h =>
 rr h [(1, .call (cb (fk n hx2) c0_) [] [(0, 0)] []), (10, .norm [] [(8, .flat [.same, .same, .same, .same, .same, .same, .same, .same, .same, .same, .same, .same, .sl 84 13])])]) (fun c0_ h =>
 rr h [(1, .call (cb (fk n hx2) c0_) [] [(0, 0)] []), (2, .norm [] [(8, .flat [.same, .same, .same, .same, .same, .same, .same, .same, .same, .same, .same, .same, .sl 84 13])])])
def B2 (df : aj → (List Int) → (List Int) → Int → Option (ag × aj)) (n : Nat) (aW params2 : List Int) (sj : Int) (b0 : aj) (b8 : ag) : Option (ag × aj) :=
 (F24 n b0 6).bind fun x2 =>
 (Sv n x2.2 aW params2 sj).bind fun x9 =>
 (F74 n x9.2 sj).bind fun x13 =>
 (F29 n x13.2 3).bind fun x20 =>
 if x20.1 then
 (Sv n x20.2 aW params2 sj).bind fun x26 =>
 B3 df n x26.2 (ag.mk 0 0 (aA.mk 0 0 (I.mk 0 0 ByteArray.empty)) (aA.mk 0 0 (I.mk 0 0 ByteArray.empty)) []) (ag.mk 3 (w64 (1 + x2.1)) x9.1 x26.1 [])
 else
 B3 df n x20.2 (ag.mk 0 0 (aA.mk 0 0 (I.mk 0 0 ByteArray.empty)) (aA.mk 0 0 (I.mk 0 0 ByteArray.empty)) []) (ag.mk 3 (w64 (1 + x2.1)) x9.1 (aA.mk 3 0 x13.1) [])
theorem aee {df} (fX : K4 C72 lN df) (n : Nat) : K5 (A72 [1, 1, 0, 1, 1, 1, 0, 0, 1, 1]) afP (B2 df n) := fun aW params2 sj b0 b8 r h =>
 be h fun x2 hx2 h =>
 be h fun x9 hx9 h =>
 be h fun x13 bY h =>
 be h fun x20 iH h =>
 ie h (fun c0_ h =>
 be h fun x26 iw h =>
 ra (aef fX n h) [(1, .call (bO n hx2) [] [(0, 0)] []), (5, .call (Rw n hx9) [] [(0, 0)] []), (2, .call (Lh n bY) [] [(0, 0)] []), (5, .call (cb (fk n iH) c0_) [] [(0, 0)] []), (4, .call (Rw n iw) [] [(0, 0)] [])]) (fun c0_ h =>
 ra (aef fX n h) [(1, .call (bO n hx2) [] [(0, 0)] []), (5, .call (Rw n hx9) [] [(0, 0)] []), (2, .call (Lh n bY) [] [(0, 0)] []), (5, .call (cb (fk n iH) c0_) [] [(0, 0)] [])])
def GH (df : aj → (List Int) → (List Int) → Int → Option (ag × aj)) (k_3 : aj → ag → ag → (List ag) → Option (ag × aj)) (back : (List Int) → (List Int) → Int → Int → aj → ag → ag → (List ag) → Option (ag × aj)) (n : Nat) (aW params2 : List Int) (dh n13 : Int) (b0 : aj) (b8 b12 : ag) (kq : List ag) : Option (ag × aj) :=
 if !decide (n13 < 0) then
 (df b0 aW params2 (w64 (dh - 1))).bind fun x10 =>
 (app kq [x10.1]).bind fun x13 =>
 back aW params2 dh (w64 (n13 - 1)) x10.2 (ag.mk b8.fOp b8.gD b8.bD b8.bl []) (ag.mk b12.fOp b12.gD b12.bD b12.bl x13) x13
 else
 k_3 b0 (ag.mk b8.fOp b8.gD b8.bD b8.bl []) (ag.mk b12.fOp b12.gD b12.bD b12.bl kq) kq
theorem akm {df} (fX : K4 C72 lN df) {k_3} (bw : K4 (A72 [1, 1, 1, 1, 1]) Iw k_3) {back} (aw : K8 (A72 [0, 1, 0, 1, 1, 1, 1]) Ix back) (n : Nat) : K8 (A72 [0, 1, 0, 1, 1, 1, 1]) Ix (GH df k_3 back n) := fun aW params2 dh n13 b0 b8 b12 kq r h =>
 ie h (fun c0_ h =>
 be h fun x10 cg h =>
 be h fun x13 bY h =>
 ra (aw h) [(1, eb c0_), (7, .call (fX cg) [] [(0, 0)] []), (0, .laid (congrArg (fun q_ => Bx.rows false 84 13 q_) (R83.map [x10.1]).symm)), (0, R83.app bY (R83.srW [x10.1]))]) (fun c0_ h =>
 ra (bw h) [(1, eb c0_)])
def xE (df:aj→(List Int)→(List Int)→Int→Option (ag×aj)) (k_3:aj→ag→ag→(List ag)→Option (ag×aj)):Nat→(List Int)→(List Int)→Int→Int→aj→ag→ag→(List ag)→Option (ag×aj)
 |0,_,_,_,_,_,_,_,_=>none
 |n+1,aW,params2,dh,n13,b0,b8,b12,kq=>GH df k_3 (xE df k_3 n) n aW params2 dh n13 b0 b8 b12 kq
theorem acS {df} (fX:K4 C72 lN df) {k_3} (bw:K4 (A72 [1,1,1,1,1]) Iw k_3):∀n:Nat,K8 (A72 [0,1,0,1,1,1,1]) Ix (xE df k_3 n)
 |0=>fun _ _ _ _ _ _ _ _ _ h=>nz h
 |n+1=>fun _ _ _ _ _ _ _ _ _ h=>akm fX bw (acS fX bw n) n h
def GG (df : aj → (List Int) → (List Int) → Int → Option (ag × aj)) (n : Nat) (b0 : aj) (b8 b12 : ag) (kq : List ag) : Option (ag × aj) :=
 some ((ag.mk b12.fOp b12.gD b12.bD b12.bl kq), b0)
theorem akl {df} (fX : K4 C72 lN df) (n : Nat) : K4 (A72 [1, 1, 1, 1, 1]) Iw (GG df n) := fun b0 b8 b12 kq r h =>
 rr h [(2, R83.frz 104 kq), (0, .norm [] [(8, .flat [.same, .same, .same, .same, .same, .same, .same, .same, .same, .same, .same, .same, .sl 0 0])])]
def oJ (df : aj → (List Int) → (List Int) → Int → Option (ag × aj)) (n : Nat) (aW params2 : List Int) (dh op9 : Int) (t27 : Bool) (b0 : aj) (b8 : ag) : Option (ag × aj) :=
 if t27 then
 if decide (0 < (aW.length : Int)) then
 (F24 n b0 (aW.length : Int)).bind fun x9 =>
 (idx aW x9.1).bind fun x11 =>
 B2 df n aW params2 x11 x9.2 (ag.mk 0 0 (aA.mk 0 0 (I.mk 0 0 ByteArray.empty)) (aA.mk 0 0 (I.mk 0 0 ByteArray.empty)) [])
 else
 B2 df n aW params2 4 b0 (ag.mk 0 0 (aA.mk 0 0 (I.mk 0 0 ByteArray.empty)) (aA.mk 0 0 (I.mk 0 0 ByteArray.empty)) [])
 else
 if op9 == 6 then
 (df b0 aW params2 (w64 (dh - 1))).bind fun x9 =>
 some ((ag.mk 6 0 (aA.mk 0 0 (I.mk 0 0 ByteArray.empty)) (aA.mk 0 0 (I.mk 0 0 ByteArray.empty)) [x9.1]), x9.2)
 else
 (F24 n b0 3).bind fun x11 =>
 xE df (GG df n) n aW params2 dh x11.1 x11.2 (ag.mk 0 0 (aA.mk 0 0 (I.mk 0 0 ByteArray.empty)) (aA.mk 0 0 (I.mk 0 0 ByteArray.empty)) []) (ag.mk (w64 ((w64 (4 + op9)) - 7)) 0 (aA.mk 0 0 (I.mk 0 0 ByteArray.empty)) (aA.mk 0 0 (I.mk 0 0 ByteArray.empty)) []) []
theorem F3 {df} (fX : K4 C72 lN df) (n : Nat) : K7 (A72 [1, 1, 1, 0, 0, 1, 1]) afO (oJ df n) := fun aW params2 dh op9 t27 b0 b8 r h =>
 ie h (fun c0_ g0 => by subst c0_; exact (
 ie g0 (fun c1 g0 =>
 be g0 fun x9 hx9 g0 =>
 be g0 fun x11 cM g0 =>
 ra (aee fX n g0) [(2, .eqv (R3.au aW)), (0, eb c1), (3, .eqv (R3.au aW)), (0, .call (bO n hx9) [] [(0, 0)] []), (0, R3.idx cM)]) (fun c1 g0 =>
 ra (aee fX n g0) [(2, .eqv (R3.au aW)), (0, eb c1)]))) (fun c0_ g0 => by subst c0_; exact (
 ie g0 (fun c1 g0 =>
 be g0 fun x9 hx9 g0 =>
 rr g0 [(1, eb c1), (6, .call (fX hx9) [] [(0, 0)] []), (0, .laid (congrArg (fun q_ => Bx.rows false 84 13 q_) (R83.map [x9.1]).symm)), (2, R83.frz 83 [x9.1])]) (fun c1 g0 =>
 be g0 fun x11 cM g0 =>
 ra (acS fX (akl fX n) n g0) [(1, eb c1), (8, .call (bO n cM) [] [(0, 0)] []), (1, .born [] [(12, 12)] 104 true 84 13)])))
def SM (df : aj → (List Int) → (List Int) → Int → Option (ag × aj)) (n : Nat) (c0 : aj) (aW params2 : List Int) (dh : Int) : Option (ag × aj) :=
 (F24 n c0 9).bind fun x3 =>
 if x3.1 == 0 then
 (F29 n x3.2 2).bind fun x10 =>
 if x10.1 then
 (F24 n x10.2 2).bind fun x15 =>
 some ((ag.mk (w64 (1 + x15.1)) 0 (aA.mk 0 0 (I.mk 0 0 ByteArray.empty)) (aA.mk 0 0 (I.mk 0 0 ByteArray.empty)) []), x15.2)
 else
 if decide (x3.1 < 6) then
 oJ df n aW params2 dh x3.1 true x10.2 (ag.mk 0 0 (aA.mk 0 0 (I.mk 0 0 ByteArray.empty)) (aA.mk 0 0 (I.mk 0 0 ByteArray.empty)) [])
 else
 oJ df n aW params2 dh x3.1 (decide (dh < 1)) x10.2 (ag.mk 0 0 (aA.mk 0 0 (I.mk 0 0 ByteArray.empty)) (aA.mk 0 0 (I.mk 0 0 ByteArray.empty)) [])
 else
 if decide (x3.1 < 6) then
 oJ df n aW params2 dh x3.1 true x3.2 (ag.mk 0 0 (aA.mk 0 0 (I.mk 0 0 ByteArray.empty)) (aA.mk 0 0 (I.mk 0 0 ByteArray.empty)) [])
 else
 oJ df n aW params2 dh x3.1 (decide (dh < 1)) x3.2 (ag.mk 0 0 (aA.mk 0 0 (I.mk 0 0 ByteArray.empty)) (aA.mk 0 0 (I.mk 0 0 ByteArray.empty)) [])
theorem akk {df} (fX : K4 C72 lN df) (n : Nat) : K4 (A72 []) lN (SM df n) := fun c0 aW params2 dh r h =>
 be h fun x3 hx3 h =>
 ie h (fun c0_ h =>
 be h fun x10 cg h =>
 ie h (fun c1 h =>
 be h fun x15 cK h =>
 rr h [(2, .call (bO n hx3) [] [(0, 0)] []), (2, eb c0_), (2, .call (cb (fk n cg) c1) [] [(0, 0)] []), (3, .call (bO n cK) [] [(0, 0)] []), (3, .norm [] [(8, .flat [.same, .same, .same, .same, .same, .same, .same, .same, .same, .same, .same, .same, .sl 84 13])])]) (fun c1 h =>
 ie h (fun c2 h =>
 ra (F3 fX n h) [(2, .call (bO n hx3) [] [(0, 0)] []), (2, eb c0_), (2, .call (cb (fk n cg) c1) [] [(0, 0)] []), (3, eb c2)]) (fun c2 h =>
 ra (F3 fX n h) [(2, .call (bO n hx3) [] [(0, 0)] []), (2, eb c0_), (2, .call (cb (fk n cg) c1) [] [(0, 0)] []), (3, eb c2)]))) (fun c0_ h =>
 ie h (fun c1 h =>
 ra (F3 fX n h) [(2, .call (bO n hx3) [] [(0, 0)] []), (2, eb c0_), (4, eb c1)]) (fun c1 h =>
 ra (F3 fX n h) [(2, .call (bO n hx3) [] [(0, 0)] []), (2, eb c0_), (4, eb c1)]))
def F72:Nat→aj→(List Int)→(List Int)→Int→Option (ag×aj)
 |0,_,_,_,_=>none
 |n+1,c0,aW,params2,dh=>SM (F72 n) n c0 aW params2 dh
theorem Rl:∀n:Nat,K4 C72 lN (F72 n)
 |0=>fun _ _ _ _ _ h=>nz h
 |n+1=>fun _ _ _ _ _ h=>ca (X:=x72) (akk (Rl n) n h)
def Vj (r:Bool):AV:=.bool r
def OH (r:Bool):List (Nat×Bx):= []
def x113:=fx E0 Tryz.f113 [] []
def A113:=Ax x113 Vj OH
def C113:=Cx E0 113 Vj OH
def N9 (k0:Int):LS:=⟨[(0,.int .i64 k0)],[]⟩
def MZ (n : Nat) (k0 : Int) : Option Bool :=
 if k0 == 3 then
 some true
 else
 if k0 == 4 then
 some true
 else
 some (k0 == 5)
theorem agV (n : Nat) : K1 (A113 []) N9 (MZ n) := fun k0 r h =>
 ie h (fun c0 h =>
 rr h [(2, eb c0)]) (fun c0 h =>
 ie h (fun c1 h =>
 rr h [(2, eb c0), (2, eb c1)]) (fun c1 h =>
 rr h [(2, eb c0), (2, eb c1)]))
def MB (n:Nat) (k0:Int):Option Bool:=MZ n k0
theorem FK (n:Nat):K1 C113 N9 (MB n):=fun _ _ h=>ca (X:=x113) (agV n h)
def Vu (r:Bool):AV:=.bool r
def OT (r:Bool):List (Nat×Bx):= []
def x102:=fx E0 Tryz.f102 [] []
def zP:=Ax x102 Vu OT
def C102:=Cx E0 102 Vu OT
def C2 (t5:List Int) (t6 t7:Int):LS:=⟨[(5,.slice 3 1 (aX t5)),(6,.int .i64 t6),(7,.int .i64 t7)],[]⟩
def C1:LS:=⟨[],[]⟩
def Oh (l0:List Int):LS:=⟨[(0,.slice 3 1 (aX l0))],[]⟩
def Ct (k_1 : Option Bool) (back : (List Int) → Int → Int → Option Bool) (n : Nat) (t5 : List Int) (t6 t7 : Int) : Option Bool :=
 if decide (t7 < t6) then
 (idx t5 t7).bind fun x2 =>
 (MB n x2).bind fun x7 =>
 if !x7 then
 some false
 else
 back t5 t6 (w64 (t7 + 1))
 else
 k_1
theorem ahE {k_1} (aG : K0 (zP [1, 1]) C1 k_1) {back} (aw : K3 (zP [0, 1, 0, 1]) C2 back) (n : Nat) : K3 (zP [0, 1, 0, 1]) C2 (Ct k_1 back n) := fun t5 t6 t7 r h =>
 ie h (fun c0 h =>
 be h fun x2 hx2 h =>
 be h fun x7 hx7 h =>
 ie h (fun c1 h =>
 rr h [(0, eb c0), (0, R3.idx hx2), (3, .call (FK n hx7) [] [] []), (0, eb c1)]) (fun c1 h =>
 ra (aw h) [(0, eb c0), (0, R3.idx hx2), (3, .call (FK n hx7) [] [] []), (0, eb c1)])) (fun c0 h =>
 ra (aG h) [(0, eb c0)])
def sG (k_1:Option Bool):Nat→(List Int)→Int→Int→Option Bool
 |0,_,_,_=>none
 |n+1,t5,t6,t7=>Ct k_1 (sG k_1 n) n t5 t6 t7
theorem Xk {k_1} (aG:K0 (zP [1,1]) C1 k_1):∀n:Nat,K3 (zP [0,1,0,1]) C2 (sG k_1 n)
 |0=>fun _ _ _ _ h=>nz h
 |n+1=>fun _ _ _ _ h=>ahE aG (Xk aG n) n h
def Ng (n : Nat) : Option Bool :=
 some true
theorem ahD (n : Nat) : K0 (zP [1, 1]) C1 (Ng n) := fun r h =>
 rr h []
def Nf (n : Nat) (l0 : List Int) : Option Bool :=
 sG (Ng n) n l0 (l0.length : Int) 0
theorem ahC (n : Nat) : K1 (zP []) Oh (Nf n) := fun l0 r h =>
 ra (Xk (ahD n) n h) [(2, .eqv (R3.au l0))]
def MF (n:Nat) (l0:List Int):Option Bool:=Nf n l0
theorem l4 (n:Nat):K1 C102 Oh (MF n):=fun _ _ h=>ca (X:=x102) (ahC n h)
def Vt (r:Int):AV:=.int .i64 r
def OS (r:Int):List (Nat×Bx):= []
def x103:=fx E0 Tryz.f103 [] []
def zO:=Ax x103 Vt OS
def MJ:=Cx E0 103 Vt OS
def C0 (n1 i5:Int) (b2:ag):LS:=⟨[(1,.int .i64 n1),(2,.loc 2 0),(5,.int .i64 i5)],[(2,.flat 84 (fZ b2))]⟩
def CZ (n1:Int):LS:=⟨[(1,.int .i64 n1)],[]⟩
def oT (p0:ag) (n1:Int):LS:=⟨[(0,.agg (fZ p0)),(1,.int .i64 n1)],[]⟩
def Cs (fT : ag → Int → Option Int) (k_1 : Int → Option Int) (back : Int → Int → ag → Option Int) (n : Nat) (n1 i5 : Int) (b2 : ag) : Option Int :=
 if decide (i5 < (b2.fArgs.length : Int)) then
 if !decide (24 < n1) then
 (idx b2.fArgs i5).bind fun x13 =>
 (fT x13 n1).bind fun x17 =>
 back x17 (w64 (i5 + 1)) b2
 else
 k_1 n1
 else
 k_1 n1
theorem ahB {fT} (np : K2 MJ oT fT) {k_1} (aG : K1 (zO [1, 1, 1]) CZ k_1) {back} (aw : K3 (zO [0, 1, 0, 1, 1]) C0 back) (n : Nat) : K3 (zO [0, 1, 0, 1, 1]) C0 (Cs fT k_1 back n) := fun n1 i5 b2 r h =>
 ie h (fun c0 h =>
 ie h (fun c1 h =>
 be h fun x13 bY h =>
 be h fun x17 eO h =>
 ra (aw h) [(3, .eqv (R83.au b2.fArgs)), (0, eb c0), (2, eb c1), (4, R83.idx bY), (2, .call (np eO) [] [] [])]) (fun c1 h =>
 ra (aG h) [(3, .eqv (R83.au b2.fArgs)), (0, eb c0), (2, eb c1)])) (fun c0 h =>
 ra (aG h) [(3, .eqv (R83.au b2.fArgs)), (0, eb c0)])
def sF (fT:ag→Int→Option Int) (k_1:Int→Option Int):Nat→Int→Int→ag→Option Int
 |0,_,_,_=>none
 |n+1,n1,i5,b2=>Cs fT k_1 (sF fT k_1 n) n n1 i5 b2
theorem Xj {fT} (np:K2 MJ oT fT) {k_1} (aG:K1 (zO [1,1,1]) CZ k_1):∀n:Nat,K3 (zO [0,1,0,1,1]) C0 (sF fT k_1 n)
 |0=>fun _ _ _ _ h=>nz h
 |n+1=>fun _ _ _ _ h=>ahB np aG (Xj np aG n) n h
def Yy (fT : ag → Int → Option Int) (n : Nat) (n1 : Int) : Option Int :=
 some n1
theorem ahA {fT} (np : K2 MJ oT fT) (n : Nat) : K1 (zO [1, 1, 1]) CZ (Yy fT n) := fun n1 r h =>
 rr h []
def Nd (fT : ag → Int → Option Int) (n : Nat) (p0 : ag) (n1 : Int) : Option Int :=
 sF fT (Yy fT n) n (w64 (n1 + 1)) 0 p0
theorem ahz {fT} (np : K2 MJ oT fT) (n : Nat) : K2 (zO []) oT (Nd fT n) := fun p0 n1 r h =>
 ra (Xj np (ahA np n) n h) []
def Ei:Nat→ag→Int→Option Int
 |0,_,_=>none
 |n+1,p0,n1=>Nd (Ei n) n p0 n1
theorem Bj:∀n:Nat,K2 MJ oT (Ei n)
 |0=>fun _ _ _ h=>nz h
 |n+1=>fun _ _ _ h=>ca (X:=x103) (ahz (Bj n) n h)
def Vs (r:Bool):AV:=.bool r
def OQ (r:Bool):List (Nat×Bx):= []
def x104:=fx E0 Tryz.f104 [] []
def zN:=Ax x104 Vs OQ
def MI:=Cx E0 104 Vs OQ
def CY (n1 t10 t11:Int) (b2:ag):LS:=⟨[(1,.int .i64 n1),(2,.loc 2 0),(10,.int .i64 t10),(11,.int .i64 t11)],[(2,.flat 84 (fZ b2))]⟩
def CX:LS:=⟨[],[]⟩
def oS (p0:ag) (n1:Int):LS:=⟨[(0,.agg (fZ p0)),(1,.int .i64 n1)],[]⟩
def Cr (fS : ag → Int → Option Bool) (k_1 : Option Bool) (back : Int → Int → Int → ag → Option Bool) (n : Nat) (n1 t10 t11 : Int) (b2 : ag) : Option Bool :=
 if decide (t11 < t10) then
 (idx b2.fArgs t11).bind fun x7 =>
 (fS x7 (w64 (n1 - 1))).bind fun x12 =>
 if x12 then
 some true
 else
 back n1 t10 (w64 (t11 + 1)) b2
 else
 k_1
theorem ahy {fS} (lX : K2 MI oS fS) {k_1} (aG : K0 (zN [1, 1, 1]) CX k_1) {back} (aw : K4 (zN [0, 1, 0, 1, 1]) CY back) (n : Nat) : K4 (zN [0, 1, 0, 1, 1]) CY (Cr fS k_1 back n) := fun n1 t10 t11 b2 r h =>
 ie h (fun c0 h =>
 be h fun x7 hx7 h =>
 be h fun x12 bT h =>
 ie h (fun c1 g0 => by subst c1; exact (
 rr g0 [(0, eb c0), (5, R83.idx hx7), (3, .call (lX bT) [] [] [])])) (fun c1 g0 => by subst c1; exact (
 ra (aw g0) [(0, eb c0), (5, R83.idx hx7), (3, .call (lX bT) [] [] [])]))) (fun c0 h =>
 ra (aG h) [(0, eb c0)])
def sE (fS:ag→Int→Option Bool) (k_1:Option Bool):Nat→Int→Int→Int→ag→Option Bool
 |0,_,_,_,_=>none
 |n+1,n1,t10,t11,b2=>Cr fS k_1 (sE fS k_1 n) n n1 t10 t11 b2
theorem Xi {fS} (lX:K2 MI oS fS) {k_1} (aG:K0 (zN [1,1,1]) CX k_1):∀n:Nat,K4 (zN [0,1,0,1,1]) CY (sE fS k_1 n)
 |0=>fun _ _ _ _ _ h=>nz h
 |n+1=>fun _ _ _ _ _ h=>ahy lX aG (Xi lX aG n) n h
def Nc (fS : ag → Int → Option Bool) (n : Nat) : Option Bool :=
 some false
theorem ahx {fS} (lX : K2 MI oS fS) (n : Nat) : K0 (zN [1, 1, 1]) CX (Nc fS n) := fun r h =>
 rr h []
def Cq (fS : ag → Int → Option Bool) (n : Nat) (p0 : ag) (n1 : Int) : Option Bool :=
 if n1 == 0 then
 some true
 else
 sE fS (Nc fS n) n n1 (p0.fArgs.length : Int) 0 p0
theorem ahw {fS} (lX : K2 MI oS fS) (n : Nat) : K2 (zN []) oS (Cq fS n) := fun p0 n1 r h =>
 ie h (fun c0 h =>
 rr h [(3, eb c0)]) (fun c0 h =>
 ra (Xi lX (ahx lX n) n h) [(3, eb c0), (2, .eqv (R83.au p0.fArgs))])
def wz:Nat→ag→Int→Option Bool
 |0,_,_=>none
 |n+1,p0,n1=>Cq (wz n) n p0 n1
theorem FN:∀n:Nat,K2 MI oS (wz n)
 |0=>fun _ _ _ h=>nz h
 |n+1=>fun _ _ _ h=>ca (X:=x104) (ahw (FN n) n h)
def Ve (r:Bool):AV:=.bool r
def OC (r:Bool):List (Nat×Bx):= []
def x124:=fx E0 Tryz.f124 [] []
def A124:=Ax x124 Ve OC
def C124:=Cx E0 124 Ve OC
def N4 (p0:ag):LS:=⟨[(0,.agg (fZ p0))],[]⟩
def MU (n : Nat) (p0 : ag) : Option Bool :=
 if p0.gD == 0 then
 if ((p0.bD.ax == 0) && ((p0.bD.bL == 0) && (((p0.bD.aT.ax == 0) && ((p0.bD.aT.bQ == 0) && ((decide (p0.bD.aT.bq = ByteArray.empty)) && true))) && true))) then
 some ((p0.bl.ax == 0) && ((p0.bl.bL == 0) && (((p0.bl.aT.ax == 0) && ((p0.bl.aT.bQ == 0) && ((decide (p0.bl.aT.bq = ByteArray.empty)) && true))) && true)))
 else
 some false
 else
 some false
theorem agQ (n : Nat) : K1 (A124 []) N4 (MU n) := fun p0 r h =>
 ie h (fun c0 h =>
 ie h (fun c1 h =>
 rr h [(4, eb c0), (4, eb c1)]) (fun c1 h =>
 rr h [(4, eb c0), (4, eb c1)])) (fun c0 h =>
 rr h [(4, eb c0)])
def Ef (n:Nat) (p0:ag):Option Bool:=MU n p0
theorem xg (n:Nat):K1 C124 N4 (Ef n):=fun _ _ h=>ca (X:=x124) (agQ n h)
def abg (r:Bool):AV:=.bool r
def VJ (r:Bool):List (Nat×Bx):= []
def x88:=fx E0 Tryz.f88 [] []
def A88:=Ax x88 abg VJ
def C88:=Cx E0 88 abg VJ
def TF (v0:I):LS:=⟨[(0,.agg (fF v0))],[]⟩
def Sz (n : Nat) (v0 : I) : Option Bool :=
 if v0.ax == 1 then
 if v0.bQ == 0 then
 some (decide (v0.bq = ByteArray.empty))
 else
 some false
 else
 if v0.ax == 2 then
 if v0.bQ == 0 then
 some (decide (v0.bq = ByteArray.empty))
 else
 some false
 else
 if v0.ax == 3 then
 if v0.bQ == 0 then
 some (decide (v0.bq = ByteArray.empty))
 else
 if v0.bQ == 1 then
 some (decide (v0.bq = ByteArray.empty))
 else
 some false
 else
 if v0.ax == 4 then
 some (decide (v0.bq = ByteArray.empty))
 else
 if v0.ax == 5 then
 if v0.bQ == 0 then
 some (!decide (64 < (v0.bq.size : Int)))
 else
 some false
 else
 some false
theorem ajq (n : Nat) : K1 (A88 []) TF (Sz n) := fun v0 r h =>
 ie h (fun c0 h =>
 ie h (fun c1 h =>
 rr h [(4, eb c0), (3, eb c1)]) (fun c1 h =>
 rr h [(4, eb c0), (3, eb c1)])) (fun c0 h =>
 ie h (fun c1 h =>
 ie h (fun c2 h =>
 rr h [(4, eb c0), (1, eb c1), (3, eb c2)]) (fun c2 h =>
 rr h [(4, eb c0), (1, eb c1), (3, eb c2)])) (fun c1 h =>
 ie h (fun c2 h =>
 ie h (fun c3 h =>
 rr h [(4, eb c0), (1, eb c1), (1, eb c2), (3, eb c3)]) (fun c3 h =>
 ie h (fun c4 h =>
 rr h [(4, eb c0), (1, eb c1), (1, eb c2), (3, eb c3), (3, eb c4)]) (fun c4 h =>
 rr h [(4, eb c0), (1, eb c1), (1, eb c2), (3, eb c3), (3, eb c4)]))) (fun c2 h =>
 ie h (fun c3 h =>
 rr h [(4, eb c0), (1, eb c1), (1, eb c2), (1, eb c3)]) (fun c3 h =>
 ie h (fun c4 h =>
 ie h (fun c5 h =>
 rr h [(4, eb c0), (1, eb c1), (1, eb c2), (1, eb c3), (1, eb c4), (3, eb c5)]) (fun c5 h =>
 rr h [(4, eb c0), (1, eb c1), (1, eb c2), (1, eb c3), (1, eb c4), (3, eb c5)])) (fun c4 h =>
 rr h [(4, eb c0), (1, eb c1), (1, eb c2), (1, eb c3), (1, eb c4)])))))
def F88 (n:Nat) (v0:I):Option Bool:=Sz n v0
theorem iM (n:Nat):K1 C88 TF (F88 n):=fun _ _ h=>ca (X:=x88) (ajq n h)
def U8 (r:Bool):AV:=.bool r
def Ow (r:Bool):List (Nat×Bx):= []
def x140:=fx E0 Tryz.f140 [] []
def A140:=Ax x140 U8 Ow
def C140:=Cx E0 140 U8 Ow
def NY (v0:I):LS:=⟨[(0,.agg (fF v0))],[]⟩
def MO (n : Nat) (v0 : I) : Option Bool :=
 (F88 n v0).bind fun x4 =>
 if x4 then
 some (!decide (v0.ax < 3))
 else
 some false
theorem agK (n : Nat) : K1 (A140 []) NY (MO n) := fun v0 r h =>
 be h fun x4 hx4 h =>
 ie h (fun c0 g0 => by subst c0; exact (
 rr g0 [(3, .call (iM n hx4) [] [] [])])) (fun c0 g0 => by subst c0; exact (
 rr g0 [(3, .call (iM n hx4) [] [] [])]))
def Sl (n:Nat) (v0:I):Option Bool:=MO n v0
theorem adR (n:Nat):K1 C140 NY (Sl n):=fun _ _ h=>ca (X:=x140) (agK n h)
def Vd (r:Int):AV:=.int .i64 r
def OB (r:Int):List (Nat×Bx):= []
def x125:=fx E0 Tryz.f125 [] []
def A125:=Ax x125 Vd OB
def C125:=Cx E0 125 Vd OB
def aez (qF:List Int) (b5:aA):LS:=⟨[(5,.loc 5 0),(7,.slice 3 1 (aX qF))],[(5,.flat 82 (kQ b5))]⟩
def N3 (aQ params1:List Int) (o2:aA):LS:=⟨[(0,.slice 3 1 (aX aQ)),(1,.slice 3 1 (aX params1)),(2,.agg (kQ o2))],[]⟩
def wF (n : Nat) (qF : List Int) (b5 : aA) : Option Int :=
 if decide (b5.bL < 0) then
 some 0
 else
 if !decide (b5.bL < (qF.length : Int)) then
 some 0
 else
 if !((b5.aT.ax == 0) && ((b5.aT.bQ == 0) && ((decide (b5.aT.bq = ByteArray.empty)) && true))) then
 some 0
 else
 (idx qF b5.bL).bind fun x20 =>
 some x20
theorem XS (n : Nat) : K2 (A125 [1, 1, 1]) aez (wF n) := fun qF b5 r h =>
 ie h (fun c0 h =>
 rr h [(2, eb c0)]) (fun c0 h =>
 ie h (fun c1 h =>
 rr h [(2, eb c0), (4, .eqv (R3.au qF)), (0, eb c1)]) (fun c1 h =>
 ie h (fun c2 h =>
 rr h [(2, eb c0), (4, .eqv (R3.au qF)), (0, eb c1), (5, eb c2)]) (fun c2 h =>
 be h fun x20 iH h =>
 rr h [(2, eb c0), (4, .eqv (R3.au qF)), (0, eb c1), (5, eb c2), (4, R3.idx iH)])))
def MT (n : Nat) (aQ params1 : List Int) (o2 : aA) : Option Int :=
 if o2.ax == 3 then
 if o2.bL != 0 then
 some 0
 else
 (Sl n o2.aT).bind fun x15 =>
 if !x15 then
 some 0
 else
 some o2.aT.ax
 else
 if o2.ax == 2 then
 wF n params1 o2
 else
 if o2.ax == 1 then
 wF n aQ o2
 else
 some 0
theorem agP (n : Nat) : K3 (A125 []) N3 (MT n) := fun aQ params1 o2 r h =>
 ie h (fun c0 h =>
 ie h (fun c1 h =>
 rr h [(6, eb c0), (3, eb c1)]) (fun c1 h =>
 be h fun x15 cK h =>
 ie h (fun c2 h =>
 rr h [(6, eb c0), (3, eb c1), (3, .call (adR n cK) [] [] []), (0, eb c2)]) (fun c2 h =>
 rr h [(6, eb c0), (3, eb c1), (3, .call (adR n cK) [] [] []), (0, eb c2)]))) (fun c0 h =>
 ie h (fun c1 h =>
 ra (XS n h) [(6, eb c0), (1, eb c1)]) (fun c1 h =>
 ie h (fun c2 h =>
 ra (XS n h) [(6, eb c0), (1, eb c1), (1, eb c2)]) (fun c2 h =>
 rr h [(6, eb c0), (1, eb c1), (1, eb c2)])))
def MA (n:Nat) (aQ params1:List Int) (o2:aA):Option Int:=MT n aQ params1 o2
theorem xf (n:Nat):K3 C125 N3 (MA n):=fun _ _ _ _ h=>ca (X:=x125) (agP n h)
def Vr (r:Bool):AV:=.bool r
def OP (r:Bool):List (Nat×Bx):= []
def x105:=fx E0 Tryz.f105 [] []
def wJ:=Ax x105 Vr OP
def Ej:=Cx E0 105 Vr OP
def CW (aQ params1:List Int) (t70 t71:Int) (b5:ag):LS:=⟨[(0,.slice 3 1 (aX aQ)),(1,.slice 3 1 (aX params1)),(5,.loc 5 0),(70,.int .i64 t70),(71,.int .i64 t71)],[(5,.flat 84 (fZ b5))]⟩
def CV:LS:=⟨[],[]⟩
def aeE (aQ params1:List Int) (b5:ag):LS:=⟨[(0,.slice 3 1 (aX aQ)),(1,.slice 3 1 (aX params1)),(5,.loc 5 0)],[(5,.flat 84 (fZ b5))]⟩
def mo (aQ params1:List Int) (p2:ag):LS:=⟨[(0,.slice 3 1 (aX aQ)),(1,.slice 3 1 (aX params1)),(2,.agg (fZ p2))],[]⟩
def Co (dQ : (List Int) → (List Int) → ag → Option Bool) (k_1 : Option Bool) (back : (List Int) → (List Int) → Int → Int → ag → Option Bool) (n : Nat) (aQ params1 : List Int) (t70 t71 : Int) (b5 : ag) : Option Bool :=
 if decide (t71 < t70) then
 (idx b5.fArgs t71).bind fun x9 =>
 (dQ aQ params1 x9).bind fun x12 =>
 if !x12 then
 some false
 else
 back aQ params1 t70 (w64 (t71 + 1)) b5
 else
 k_1
theorem ahv {dQ} (iJ : K3 Ej mo dQ) {k_1} (aG : K0 (wJ [1, 1, 1, 1]) CV k_1) {back} (aw : K5 (wJ [0, 1, 0, 1, 1, 1]) CW back) (n : Nat) : K5 (wJ [0, 1, 0, 1, 1, 1]) CW (Co dQ k_1 back n) := fun aQ params1 t70 t71 b5 r h =>
 ie h (fun c0 h =>
 be h fun x9 hx9 h =>
 be h fun x12 bT h =>
 ie h (fun c1 h =>
 rr h [(0, eb c0), (7, R83.idx hx9), (1, .call (iJ bT) [] [] []), (0, eb c1)]) (fun c1 h =>
 ra (aw h) [(0, eb c0), (7, R83.idx hx9), (1, .call (iJ bT) [] [] []), (0, eb c1)])) (fun c0 h =>
 ra (aG h) [(0, eb c0)])
def qk (dQ:(List Int)→(List Int)→ag→Option Bool) (k_1:Option Bool):Nat→(List Int)→(List Int)→Int→Int→ag→Option Bool
 |0,_,_,_,_,_=>none
 |n+1,aQ,params1,t70,t71,b5=>Co dQ k_1 (qk dQ k_1 n) n aQ params1 t70 t71 b5
theorem Xh {dQ} (iJ:K3 Ej mo dQ) {k_1} (aG:K0 (wJ [1,1,1,1]) CV k_1):∀n:Nat,K5 (wJ [0,1,0,1,1,1]) CW (qk dQ k_1 n)
 |0=>fun _ _ _ _ _ _ h=>nz h
 |n+1=>fun _ _ _ _ _ _ h=>ahv iJ aG (Xh iJ aG n) n h
def Nb (dQ : (List Int) → (List Int) → ag → Option Bool) (n : Nat) : Option Bool :=
 some true
theorem ahu {dQ} (iJ : K3 Ej mo dQ) (n : Nat) : K0 (wJ [1, 1, 1, 1]) CV (Nb dQ n) := fun r h =>
 rr h []
def sN (dQ : (List Int) → (List Int) → ag → Option Bool) (n : Nat) (aQ params1 : List Int) (b5 : ag) : Option Bool :=
 (Ef n b5).bind fun x2 =>
 if !x2 then
 some false
 else
 qk dQ (Nb dQ n) n aQ params1 (b5.fArgs.length : Int) 0 b5
theorem LM {dQ} (iJ : K3 Ej mo dQ) (n : Nat) : K3 (wJ [1, 1]) aeE (sN dQ n) := fun aQ params1 b5 r h =>
 be h fun x2 hx2 h =>
 ie h (fun c0 h =>
 rr h [(1, .call (xg n hx2) [] [] []), (0, eb c0)]) (fun c0 h =>
 ra (Xh iJ (ahu iJ n) n h) [(1, .call (xg n hx2) [] [] []), (0, eb c0), (2, .eqv (R83.au b5.fArgs))])
def Na (dQ : (List Int) → (List Int) → ag → Option Bool) (n : Nat) (aQ params1 : List Int) (p2 : ag) : Option Bool :=
 if p2.fOp == 1 then
 (Ef n p2).bind fun x8 =>
 if x8 then
 some ((p2.fArgs.length : Int) == 0)
 else
 some false
 else
 if p2.fOp == 2 then
 (Ef n p2).bind fun x10 =>
 if x10 then
 some ((p2.fArgs.length : Int) == 0)
 else
 some false
 else
 if p2.fOp == 3 then
 (MA n aQ params1 p2.bD).bind fun x15 =>
 if (p2.fArgs.length : Int) == 0 then
 if !decide (p2.gD < 1) then
 if !decide (6 < p2.gD) then
 if x15 != 0 then
 (MA n aQ params1 p2.bl).bind fun x42 =>
 some (x15 == x42)
 else
 some false
 else
 some false
 else
 some false
 else
 some false
 else
 if p2.fOp == 4 then
 sN dQ n aQ params1 p2
 else
 if p2.fOp == 5 then
 sN dQ n aQ params1 p2
 else
 if p2.fOp == 6 then
 if (p2.fArgs.length : Int) != 1 then
 some false
 else
 sN dQ n aQ params1 p2
 else
 some false
theorem aht {dQ} (iJ : K3 Ej mo dQ) (n : Nat) : K3 (wJ []) mo (Na dQ n) := fun aQ params1 p2 r h =>
 ie h (fun c0 h =>
 be h fun x8 hx8 h =>
 ie h (fun c1 g0 => by subst c1; exact (
 rr g0 [(4, eb c0), (2, .call (xg n hx8) [] [] []), (3, .eqv (R83.au p2.fArgs))])) (fun c1 g0 => by subst c1; exact (
 rr g0 [(4, eb c0), (2, .call (xg n hx8) [] [] [])]))) (fun c0 h =>
 ie h (fun c1 h =>
 be h fun x10 cg h =>
 ie h (fun c2 g0 => by subst c2; exact (
 rr g0 [(4, eb c0), (1, eb c1), (2, .call (xg n cg) [] [] []), (3, .eqv (R83.au p2.fArgs))])) (fun c2 g0 => by subst c2; exact (
 rr g0 [(4, eb c0), (1, eb c1), (2, .call (xg n cg) [] [] [])]))) (fun c1 h =>
 ie h (fun c2 h =>
 be h fun x15 cK h =>
 ie h (fun c3 h =>
 ie h (fun c4 h =>
 ie h (fun c5 h =>
 ie h (fun c6 h =>
 be h fun x42 pH h =>
 rr h [(4, eb c0), (1, eb c1), (1, eb c2), (5, .call (xf n cK) [] [] []), (3, .eqv (R83.au p2.fArgs)), (0, eb c3), (3, eb c4), (4, eb c5), (3, eb c6), (7, .call (xf n pH) [] [] [])]) (fun c6 h =>
 rr h [(4, eb c0), (1, eb c1), (1, eb c2), (5, .call (xf n cK) [] [] []), (3, .eqv (R83.au p2.fArgs)), (0, eb c3), (3, eb c4), (4, eb c5), (3, eb c6)])) (fun c5 h =>
 rr h [(4, eb c0), (1, eb c1), (1, eb c2), (5, .call (xf n cK) [] [] []), (3, .eqv (R83.au p2.fArgs)), (0, eb c3), (3, eb c4), (4, eb c5)])) (fun c4 h =>
 rr h [(4, eb c0), (1, eb c1), (1, eb c2), (5, .call (xf n cK) [] [] []), (3, .eqv (R83.au p2.fArgs)), (0, eb c3), (3, eb c4)])) (fun c3 h =>
 rr h [(4, eb c0), (1, eb c1), (1, eb c2), (5, .call (xf n cK) [] [] []), (3, .eqv (R83.au p2.fArgs)), (0, eb c3)])) (fun c2 h =>
 ie h (fun c3 h =>
 ra (LM iJ n h) [(4, eb c0), (1, eb c1), (1, eb c2), (1, eb c3)]) (fun c3 h =>
 ie h (fun c4 h =>
 ra (LM iJ n h) [(4, eb c0), (1, eb c1), (1, eb c2), (1, eb c3), (1, eb c4)]) (fun c4 h =>
 ie h (fun c5 h =>
 ie h (fun c6 h =>
 rr h [(4, eb c0), (1, eb c1), (1, eb c2), (1, eb c3), (1, eb c4), (1, eb c5), (3, .eqv (R83.au p2.fArgs)), (0, eb c6)]) (fun c6 h =>
 ra (LM iJ n h) [(4, eb c0), (1, eb c1), (1, eb c2), (1, eb c3), (1, eb c4), (1, eb c5), (3, .eqv (R83.au p2.fArgs)), (0, eb c6)])) (fun c5 h =>
 rr h [(4, eb c0), (1, eb c1), (1, eb c2), (1, eb c3), (1, eb c4), (1, eb c5)]))))))
def wy:Nat→(List Int)→(List Int)→ag→Option Bool
 |0,_,_,_=>none
 |n+1,aQ,params1,p2=>Na (wy n) n aQ params1 p2
theorem Rv:∀n:Nat,K3 Ej mo (wy n)
 |0=>fun _ _ _ _ h=>nz h
 |n+1=>fun _ _ _ _ h=>ca (X:=x105) (aht (Rv n) n h)
def abw (r:Int):AV:=.int .i64 r
def VZ (r:Int):List (Nat×Bx):= []
def x73:=fx E0 Tryz.f73 [] []
def A73:=Ax x73 abw VZ
def C73:=Cx E0 73 abw VZ
def TW (aQ params1:List Int) (p2:ag):LS:=⟨[(0,.slice 3 1 (aX aQ)),(1,.slice 3 1 (aX params1)),(2,.agg (fZ p2))],[]⟩
def SL (n : Nat) (aQ params1 : List Int) (p2 : ag) : Option Int :=
 (MF n aQ).bind fun x4 =>
 if !x4 then
 some 1
 else
 (MF n params1).bind fun x9 =>
 if !x9 then
 some 1
 else
 (Ei n p2 0).bind fun x14 =>
 if decide (24 < x14) then
 some 2
 else
 (wz n p2 8).bind fun x19 =>
 if x19 then
 some 2
 else
 (wy n aQ params1 p2).bind fun x25 =>
 if !x25 then
 some 50
 else
 some 0
theorem akj (n : Nat) : K3 (A73 []) TW (SL n) := fun aQ params1 p2 r h =>
 be h fun x4 hx4 h =>
 ie h (fun c0 h =>
 rr h [(3, .call (l4 n hx4) [] [] []), (0, eb c0)]) (fun c0 h =>
 be h fun x9 hx9 h =>
 ie h (fun c1 h =>
 rr h [(3, .call (l4 n hx4) [] [] []), (0, eb c0), (2, .call (l4 n hx9) [] [] []), (0, eb c1)]) (fun c1 h =>
 be h fun x14 gB h =>
 ie h (fun c2 h =>
 rr h [(3, .call (l4 n hx4) [] [] []), (0, eb c0), (2, .call (l4 n hx9) [] [] []), (0, eb c1), (2, .call (Bj n gB) [] [] []), (0, eb c2)]) (fun c2 h =>
 be h fun x19 dM h =>
 ie h (fun c3 g0 => by subst c3; exact (
 rr g0 [(3, .call (l4 n hx4) [] [] []), (0, eb c0), (2, .call (l4 n hx9) [] [] []), (0, eb c1), (2, .call (Bj n gB) [] [] []), (0, eb c2), (2, .call (FN n dM) [] [] [])])) (fun c3 g0 => by subst c3; exact (
 be g0 fun x25 pL g0 =>
 ie g0 (fun c4 g0 =>
 rr g0 [(3, .call (l4 n hx4) [] [] []), (0, eb c0), (2, .call (l4 n hx9) [] [] []), (0, eb c1), (2, .call (Bj n gB) [] [] []), (0, eb c2), (2, .call (FN n dM) [] [] []), (4, .call (Rv n pL) [] [] []), (0, eb c4)]) (fun c4 g0 =>
 rr g0 [(3, .call (l4 n hx4) [] [] []), (0, eb c0), (2, .call (l4 n hx9) [] [] []), (0, eb c1), (2, .call (Bj n gB) [] [] []), (0, eb c2), (2, .call (FN n dM) [] [] []), (4, .call (Rv n pL) [] [] []), (0, eb c4)]))))))
def F73 (n:Nat) (aQ params1:List Int) (p2:ag):Option Int:=SL n aQ params1 p2
theorem Rk (n:Nat):K3 C73 TW (F73 n):=fun _ _ _ _ h=>ca (X:=x73) (akj n h)
def acb (r:(ag×aj)):AV:=.agg (fZ r.1)
def Wv (r:(ag×aj)):List (Nat×Bx):= [(0,.flat 74 (bA r.2))]
def x31:=fx E0 Tryz.f31 [0] [0]
def A31:=Ax x31 acb Wv
def C31:=Cx E0 31 acb Wv
def UB (c0:aj) (aW params2:List Int) (dh:Int):LS:=⟨[(0,.loc 0 0),(1,.slice 3 1 (aX aW)),(2,.slice 3 1 (aX params2)),(3,.int .i64 dh)],[(0,.flat 74 (bA c0))]⟩
def Tg (n : Nat) (c0 : aj) (aW params2 : List Int) (dh : Int) : Option (ag × aj) :=
 (F72 n c0 aW params2 dh).bind fun x6 =>
 (F73 n aW params2 x6.1).bind fun x13 =>
 if x13 == 2 then
 (F72 n x6.2 aW params2 1).bind fun x19 =>
 some (x19.1, x19.2)
 else
 some (x6.1, x6.2)
theorem alJ (n : Nat) : K4 (A31 []) UB (Tg n) := fun c0 aW params2 dh r h =>
 be h fun x6 hx6 h =>
 be h fun x13 bY h =>
 ie h (fun c0_ h =>
 be h fun x19 dM h =>
 rr h [(5, .call (Rl n hx6) [] [(0, 0)] []), (5, .call (Rk n bY) [] [] []), (0, eb c0_), (3, .call (Rl n dM) [] [(0, 0)] [])]) (fun c0_ h =>
 rr h [(5, .call (Rl n hx6) [] [(0, 0)] []), (5, .call (Rk n bY) [] [] []), (0, eb c0_)])
def F31 (n:Nat) (c0:aj) (aW params2:List Int) (dh:Int):Option (ag×aj):=Tg n c0 aW params2 dh
theorem ev31 (n:Nat):K4 C31 UB (F31 n):=fun _ _ _ _ _ h=>ca (X:=x31) (alJ n h)
end Go.Proofs.YtmealahmjddpcaaGreatDoor
end
