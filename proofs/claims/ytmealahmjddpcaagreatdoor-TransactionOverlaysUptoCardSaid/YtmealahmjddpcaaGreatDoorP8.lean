/- Texts that belong together. The first: What an argument of a call reads as is plain data of its type, no greater than its bulk. Conditions: a set of types without pointers, maps, interfaces and functions; structs and arrays are laid out without gaps (computed). -/
import Derived.Test.YtmealahmjddpcaaGreatDoorRows
import Derived.Test.YtmealahmjddpcaaGreatDoorP7
import Derived.WalkKit
import Derived.ProofKit
import Derived.Deep.DeepHandedRow
import Derived.Test.YtmealahmjddpcaaGreatDoorProg
import Derived.Test.YtmealahmjddpcaaGreatDoorP4
import Derived.KernelRfl
set_option linter.all false
set_option maxRecDepth 1000000
noncomputable section
namespace Go.Sim
open Go.RowKit Go.Proofs.YtmealahmjddpcaaGreatDoor
section
mutual
def kD:AV->Nat
 | .str s=>s.size+1
 | .slx _ _ rows=>gz rows+1
 |_=>1
def gz:List (List AV)->Nat
 | []=>0
 |r::rs=>cT r+gz rs
def cT:List AV->Nat
 | []=>0
 |x::xs=>kD x+cT xs
end
theorem wS (xs ys:List AV):cT (xs++ys)=cT xs+cT ys:=by
 induction xs with
 |nil=>simp[cT]
 |cons x xs ih=>simp[cT,ih];omega
def mL {α β:Type} (R:α->β->Prop):List α->List β->Prop
 | [],[]=>True
 |a::l,b::m=>R a b/\mL R l m
 |_,_=>False
def bJ (P:Program):Nat->TypeId->List AV->Prop
 |0,_,_=>False
 |n+1,t,xs=>
  match P.underlying t with
  |some .bool=>∃b,xs= [.bool b]
  |some (.int k)=>∃i,xs= [.int k i]/\(Lit.int k i).wf=true
  |some .string=>∃s:ByteArray,xs= [.str s]/\s.size<=maxLen
  |some (.slice e)=>∃rows,xs= [.slx e (P.cellsOf e) rows]/\∀r∈rows,bJ P n e r
  |some (.struct fs)=>∃xss:List (List AV),xs=xss.flatten/\mL (fun f ys=>bJ P n f.type ys) fs.toList xss
  |some (.array m e)=>∃xss:List (List AV),xs=xss.flatten/\xss.length=m/\∀ys∈xss,bJ P n e ys
  |_=>False
def lW (P:Program) (S:TypeId->Bool) (total:Nat):Nat->List Field->Bool
 |off,[]=>off==total
 |off,f::fs=>f.offset==off&&S f.type&&lW P S total (off+P.cellsOf f.type) fs
def sA (P:Program) (S:TypeId->Bool) (t:TypeId):Bool:=
 match P.underlying t with
 |some .bool|some (.int _)|some .string=>true
 |some (.struct fs)=>lW P S (P.cellsOf t) 0 fs.toList
 |some (.array n e)=>P.cellsOf t==n*P.cellsOf e&&S e
 |some (.slice e)=>S e&&decide (0<P.cellsOf e)
 |_=>false
def CR (W:World) (cs:List Value) (xs:List AV):Prop:=VAs (j5 W).get .no (cs.map (img W.heap.size)) xs/\∀v∈cs,isU (img W.heap.size v)=false
section
variable {H:Type} {enc:TypeId×Value->H} {P:Program} {S:TypeId->Bool} {w:World} {base:Nat} {spare:Nat->Bool} {held:Bool}
theorem VAs.app {F:Hf} {g:Gb}:∀{a b:List SV} {x y:List AV},VAs F g a x->VAs F g b y->VAs F g (a++b) (x++y)
 |_,_,_,_,.nil,k=>k
 |_,_,_,_,.cons h t,k=>.cons h (t.app k)
theorem CR.nil:CR w [] []:=⟨.nil,fun v hv=>by cases hv⟩
theorem CR.append {a b:List Value} {x y:List AV} (h:CR w a x) (k:CR w b y):CR w (a++b) (x++y):=⟨by rw[List.map_append];exact h.1.app k.1,fun v hv=>(List.mem_append.1 hv).elim (h.2 v) (k.2 v)⟩
theorem CR.one {v:Value} {x:AV} (h:VA (j5 w).get .no (img w.heap.size v) x) (hu:isU (img w.heap.size v)=false):CR w [v] [x]:=⟨.cons h .nil,fun u hu'=>by rw[List.mem_singleton.1 hu'];exact hu⟩
theorem CR.length {a:List Value} {x:List AV} (h:CR w a x):a.length=x.length:=by have:=h.1.length;simpa using this
theorem nT {α β:Type} {f:α->Option β}:∀{l:List α} {r:List β},l.mapM f=some r->mL (fun a b=>f a=some b) l r
 | [],r,h=>by simp at h;subst h;trivial
 |a::l,r,h=>by
  rw[List.mapM_cons] at h;cases ha:f a with
  |none=>simp[ha] at h
  |some b=>
   cases hl:l.mapM f with
   |none=>simp[ha,hl] at h
   |some m=>
    simp[ha,hl] at h;subst h;exact ⟨ha,nT hl⟩
theorem zy {α β:Type} {R:α->β->Prop}:∀{l:List α} {m:List β},mL R l m->l.length=m.length
 | [],[],_=>rfl
 |_::_,_::_,h=>by simp[zy h.2]
 | [],_::_,h=>h.elim
 |_::_,[],h=>h.elim
theorem An {α β:Type} {R:α->β->Prop}:∀{l:List α} {m:List β},mL R l m->∀{i:Nat} {b:β},m[i]? =some b->∃a,l[i]? =some a/\R a b
 | [],[],_,_,_,h=>by simp at h
 |a::l,b::m,h,i,x,hx=>by
  cases i with
  |zero=>simp at hx;subst hx;exact ⟨a,rfl,h.1⟩
  |succ i=>simp at hx;obtain ⟨y,h1,h2⟩:=An h.2 hx;exact ⟨y,by simpa using h1,h2⟩
 | [],_::_,h,_,_,_=>h.elim
 |_::_,[],h,_,_,_=>h.elim
theorem aae {α β:Type} {R:α->β->Prop} {l:List α} {m:List β} (h:mL R l m) {b:β} (hb:b∈m):∃a,R a b:=by
 obtain ⟨i,hi⟩:=List.mem_iff_getElem?.1 hb;obtain ⟨a,_,ha⟩:=An h hi;exact ⟨a,ha⟩
theorem vo (n:Nat)
  (ih:∀t cs x,S t=true->DataW.trod enc P w base spare held n t cs=some x->∃xs,CR w cs xs/\bJ P n t xs/\cT xs<=Rows.uptoBulk x.1) (total:Nat):
  ∀(fs:List Field) (off:Nat) (cs:List Value) (ys:List (DataW H×List MemPlace)),lW P S total off fs=true->cs.length=total->
   mL (fun f y=>DataW.trod enc P w base spare held n f.type ((cs.drop f.offset).take (P.cellsOf f.type))=some y) fs ys->off<=total->
   ∃xss:List (List AV),CR w (cs.drop off) xss.flatten/\mL (fun f zs=>bJ P n f.type zs) fs xss/\cT xss.flatten<=Rows.uptoBulkAll (ys.map (·.1))
 | [],off,cs,ys,ht,hl,h2,_=>by
  simp[lW] at ht;refine ⟨[],?_,trivial,by simp[cT]⟩
  rw[List.drop_of_length_le (by omega)]
  exact .nil
 |f::fs,off,cs,[],_,_,h2,_=>h2.elim
 |f::fs,off,cs,y::ys,ht,hl,h2,ho=>by
  simp only[lW,Bool.and_eq_true,beq_iff_eq] at ht;obtain ⟨⟨ht0,htt⟩,ht1⟩:=ht;obtain ⟨h0,h1⟩:=h2;obtain ⟨xs,c1,c2,c3⟩:=ih _ _ _ htt h0;have hle:∀(fs:List Field) (o:Nat),lW P S total o fs=true->o<=total:=by
   intro fs;induction fs with
   |nil=>intro o h;simp[lW] at h;omega
   |cons g gs ihg=>intro o h;simp only[lW,Bool.and_eq_true] at h;have:=ihg _ h.2;omega
  have hle':=hle fs _ ht1;obtain ⟨xss,d1,d2,d3⟩:=vo n ih total fs (off+P.cellsOf f.type) cs ys ht1 hl h1 hle';refine ⟨xs::xss,?_,⟨c2,d2⟩,?_⟩
  ·rw[ht0] at c1;have:cs.drop off=(cs.drop off).take (P.cellsOf f.type)++cs.drop (off+P.cellsOf f.type):=by
    rw[<-List.drop_drop];exact (List.take_append_drop _ _).symm
   rw[this];exact c1.append d1
  ·simp only[List.flatten_cons,List.map_cons,Rows.uptoBulkAll,wS];omega
theorem wV (n:Nat) (e:TypeId) (he:S e=true)
  (ih:∀t cs x,S t=true->DataW.trod enc P w base spare held n t cs=some x->∃xs,CR w cs xs/\bJ P n t xs/\cT xs<=Rows.uptoBulk x.1) (cs:List Value):
  ∀(m k:Nat) (ys:List (DataW H×List MemPlace)),cs.length=(k+m)*P.cellsOf e->
   mL (fun i y=>DataW.trod enc P w base spare held n e ((cs.drop (i*P.cellsOf e)).take (P.cellsOf e))=some y) (List.range' k m) ys->
   ∃xss:List (List AV),CR w (cs.drop (k*P.cellsOf e)) xss.flatten/\xss.length=m/\(∀zs∈xss,bJ P n e zs)/\cT xss.flatten<=Rows.uptoBulkAll (ys.map (·.1))
 |0,k,ys,hl,h2=>by
  refine ⟨[],?_,rfl,by simp,by simp[cT]⟩
  rw[List.drop_of_length_le (by simp at hl;omega)]
  exact .nil
 |m+1,k,[],_,h2=>by simp[List.range'_succ,mL] at h2
 |m+1,k,y::ys,hl,h2=>by
  rw[List.range'_succ] at h2;obtain ⟨h0,h1⟩:=h2;obtain ⟨xs,c1,c2,c3⟩:=ih _ _ _ he h0;obtain ⟨xss,d1,d2,d3,d4⟩:=wV n e he ih cs m (k+1) ys (by rw[hl];congr 1;omega) h1
  refine ⟨xs::xss,?_,by simp[d2],?_,?_⟩
  ·have:cs.drop (k*P.cellsOf e)=(cs.drop (k*P.cellsOf e)).take (P.cellsOf e)++cs.drop ((k+1)*P.cellsOf e):=by
    rw[Nat.add_mul,Nat.one_mul,<-List.drop_drop];exact (List.take_append_drop _ _).symm
   rw[this];exact c1.append d1
  ·intro zs hz;rcases List.mem_cons.1 hz with rfl|hz
   ·exact c2
   ·exact d3 zs hz
  ·simp only[List.flatten_cons,List.map_cons,Rows.uptoBulkAll,wS];omega
theorem afa (a:Addr) (k j:Nat) (h:a.spot=none\/0<k):(a.add k).add j=⟨a.block,a.off+k+j,none⟩:=by
 obtain ⟨b,o,s⟩:=a;by_cases hk:k=0
 ·subst hk;simp at h;subst h;by_cases hj:j=0<;>simp[Addr.add,hj]
 ·by_cases hj:j=0<;>simp[Addr.add,hk,hj]
theorem vF (n:Nat) (e:TypeId) (he:S e=true) (a:Addr)
  (ih:∀t cs x,S t=true->DataW.trod enc P w base spare held n t cs=some x->∃xs,CR w cs xs/\bJ P n t xs/\cT xs<=Rows.uptoBulk x.1) (hs:0<P.cellsOf e):
  ∀(m k:Nat) (ys:List (DataW H×List MemPlace)),
   mL (fun i y=>((w.cells? base (a.add (i*P.cellsOf e)) (P.cellsOf e)).bind (DataW.trod enc P w base spare held n e))=some y) (List.range' k m) ys->
   ∃(rows:List (List AV)) (vs:List Value),CR w vs rows.flatten/\vs.length=m*P.cellsOf e/\(∀j v,vs[j]? =some v->w.cell? ⟨a.block,a.off+k*P.cellsOf e+j,none⟩=some v)/\rows.length=m/\(∀zs∈rows,bJ P n e zs/\zs.length=P.cellsOf e)/\gz rows<=Rows.uptoBulkAll (ys.map (·.1))/\(k=0->0<m->a.spot=none)
 |0,k,ys,h2=>⟨[],[],.nil,by simp,fun j v hv=>(by simp at hv),rfl,by simp,by simp[gz],by simp⟩
 |m+1,k,[],h2=>by simp[List.range'_succ,mL] at h2
 |m+1,k,y::ys,h2=>by
  rw[List.range'_succ] at h2;obtain ⟨h0,h1⟩:=h2;obtain ⟨rows,vs,d1,dl,dc,d2,d3,d4,d5⟩:=vF n e he a ih hs m (k+1) ys h1;cases hc:w.cells? base (a.add (k*P.cellsOf e)) (P.cellsOf e) with
  |none=>simp[hc] at h0
  |some cs=>
   simp only[hc,Option.bind_some] at h0;obtain ⟨xs,c1,c2,c3⟩:=ih _ _ _ he h0;unfold World.cells? at hc;split at hc
   ·have sh:=nT hc;have hlen:cs.length=P.cellsOf e:=by have:=zy sh;simpa using this.symm
    have mv:∀j v,cs[j]? =some v->w.cell? ((a.add (k*P.cellsOf e)).add j)=some v:=by
     intro j v hj;obtain ⟨i,hi,hv⟩:=An sh hj;have hi':i=j:=by
      have:=(List.getElem?_eq_some_iff.1 hi);obtain ⟨q1,q2⟩:=this;simpa using q2.symm
     rw[<-hi'];exact hv
    have adl:a.spot=none\/0<k*P.cellsOf e:=by
     by_cases hk:0<k*P.cellsOf e
     ·exact .inr hk
     ·have hk0:k*P.cellsOf e=0:=by omega
      have h00:=mv 0 (cs[0]'(by omega)) (by simp)
      rw[hk0] at h00;simp only[Addr.add,if_true] at h00;unfold World.cell? at h00;split at h00
      ·split at h00
       ·simp at h00
       ·rename_i q;left;simpa using q
      ·simp at h00
    refine ⟨xs::rows,cs++vs,?_,?_,fun j v hj=> ?_,by simp[d2],?_,?_,?_⟩
    ·rw[List.flatten_cons];exact c1.append d1
    ·rw[List.length_append,hlen,dl,Nat.add_mul];omega
    ·by_cases hjl:j<cs.length
     ·rw[List.getElem?_append_left hjl] at hj;have h:=mv j v hj;rw[afa a _ j adl] at h;exact h
     ·rw[List.getElem?_append_right (by omega)] at hj
      have h:=dc _ v hj;rw[hlen] at h;rw[hlen] at hjl;rw[Nat.add_mul,Nat.one_mul] at h;rw[show a.off+k*P.cellsOf e+j=a.off+(k*P.cellsOf e+P.cellsOf e)+(j-P.cellsOf e) by omega]
      exact h
    ·intro zs hz;rcases List.mem_cons.1 hz with rfl|hz
     ·exact ⟨c2,by rw[<-c1.length,hlen]⟩
     ·exact d3 zs hz
    ·simp only[gz,List.map_cons,Rows.uptoBulkAll];omega
    ·intro hk0 _;rcases adl with h|h
     ·exact h
     ·subst hk0;simp at h
   ·simp at hc
theorem Yh {b o n c s:Nat} {e:TypeId} {vs:List Value} {rows:List (List AV)} (h:CR w vs rows.flatten) (hl:vs.length=n*s) (hc:∀j v,vs[j]? =some v->w.cell? ⟨b,o+j,none⟩=some v) (hn:rows.length=n) (hn0:0<n) (hs:0<s) (hu:∀r∈rows,r.length=s) (dW:n<=c):
  VA (j5 w).get .no (img w.heap.size (.slice (some ⟨b,o,none⟩) n c)) (.slx e s rows)/\isU (img w.heap.size (.slice (some ⟨b,o,none⟩) n c))=false:=by
 have sd:0<n*s:=Nat.mul_pos hn0 hs;have hb:∃cur et fz,w.heap[b]? =some (.cells cur et fz):=by
  have h0:=hc 0 (vs[0]'(by omega)) (by simp)
  unfold World.cell? at h0;split at h0
  ·rename_i cur et fz q;exact ⟨cur,et,fz,q⟩
  ·simp at h0
 obtain ⟨cur,et,fz,hb⟩:=hb;have hlt:b<w.heap.size:=(Array.getElem?_eq_some_iff.1 hb).1;have fB:∀j v,vs[j]? =some v->cur[o+j]? =some v:=fun j v hj=>by
  have:=hc j v hj;unfold World.cell? at this;rw[hb] at this;simpa using this
 have hle:o+n*s<=cur.size:=by
  have h0:=fB (n*s-1) (vs[n*s-1]'(by omega)) (by simp)
  have:=(Array.getElem?_eq_some_iff.1 h0).1;omega
 have heq:(cur.toList.drop o).take (n*s)=vs:=by
  apply List.ext_getElem?;intro j;rw[List.getElem?_take];split
  ·rename_i hj;rw[List.getElem?_drop];have:=fB j (vs[j]'(by omega)) (by simp)
   rw[Array.getElem?_toList,this];simp
  ·rename_i hj;rw[List.getElem?_eq_none (by omega)]
 have himg:img w.heap.size (.slice (some ⟨b,o,none⟩) n c)= .sl b o n (.k c):=by
  show (if n=0 then _ else if b<w.heap.size/\n<=c then SV.sl b o n (.k c) else .undef)=_
  rw[if_neg (by omega),if_pos ⟨hlt,dW⟩]
 have hwin:((cur.toList.map (img w.heap.size)).drop o).take (n*s)=vs.map (img w.heap.size):=by
  rw[<-List.map_drop,<-List.map_take,heq]
 have hF:cL ((j5 w).get b) o (n*s)=some (0,cur.toList.map (img w.heap.size)):=by
  rw[ua,hb];show sel (kW (((cur.toList.map (img w.heap.size)).drop o).take (n*s))) (some (0,cur.toList.map (img w.heap.size))) none=_;rw[hwin,aC,if_pos (wK fun j x hx=> ?_)]
  rw[List.getElem?_map] at hx;cases hv:vs[j]? with
  |none=>rw[hv] at hx;cases hx
  |some v=>rw[hv] at hx;cases hx;exact h.2 v (List.mem_of_getElem? hv)
 rw[himg];exact ⟨.slx hF dW hn.symm hu (by simpa using hle) (by rw[hwin];exact h.1),rfl⟩
theorem wa {nb:Nat} {a:Option Addr} {c:Nat} {F:Hf} {e:TypeId} {s:Nat}:VA F .no (img nb (.slice a 0 c)) (.slx e s [])/\isU (img nb (.slice a 0 c))=false:=by
 have h:img nb (.slice a 0 c)=if a=none/\c=0 then SV.aU else .sle:=by simp[img]
 rw[h];split
 ·exact ⟨.mf _ _,rfl⟩
 ·exact ⟨.rV _ _,rfl⟩
theorem tK (hP:∀t,S t=true->sA P S t=true):∀(n:Nat) (t:TypeId) (cs:List Value) (x:DataW H×List MemPlace),S t=true->DataW.trod enc P w base spare held n t cs=some x->
  ∃xs,CR w cs xs/\bJ P n t xs/\cT xs<=Rows.uptoBulk x.1
 |0,_,_,_,_,h=>by simp[DataW.trod] at h
 |n+1,t,cs,x,hlt,h=>by
  have ih:=tK hP n;have iV:=hP t hlt;unfold DataW.trod at h;unfold sA at iV;split at h
  ·rename_i b hu;simp at h;subst h;exact ⟨[.bool b],.one (.bool b) rfl,by simp[bJ,hu],by simp[cT,kD,Rows.uptoBulk]⟩
  ·rename_i k k' i hu;split at h
   ·rename_i hc;obtain ⟨rfl,hw⟩:=hc;simp at h;subst h;exact ⟨[.int k' i],.one (.int _ _) rfl,by simp[bJ,hu,hw],by simp[cT,kD,Rows.uptoBulk]⟩
   ·simp at h
  ·rename_i k k' i hu;rw[hu] at iV;cases iV
  ·rename_i s hu;split at h
   ·rename_i hc;simp at h;subst h;exact ⟨[.str s],.one (.str _) rfl,by simp[bJ,hu,hc],by simp[cT,kD,Rows.uptoBulk]⟩
   ·simp at h
  ·rename_i hu;rw[hu] at iV;cases iV
  ·rename_i e a hu;rw[hu] at iV;cases iV
  ·rename_i e hu;simp at h;subst h;exact ⟨[.slx e (P.cellsOf e) []],.one (wa (a:=none) (c:=0)).1 (wa (F:=fun _=>none) (e:=0) (s:=0)).2,by simp[bJ,hu],by simp[cT,kD,gz,Rows.uptoBulk]⟩
  ·rename_i e a len cap hu;simp only at h;split at h
   ·rename_i hc;cases hr:(List.range len).mapM fun i=>(w.cells? base (a.add (i*P.cellsOf e)) (P.cellsOf e)).bind (DataW.trod enc P w base spare held n e) with
    |none=>simp[hr] at h
    |some ys=>
     simp only[hr,Option.bind_some,Option.map_eq_some_iff] at h;obtain ⟨rest,_,rfl⟩:=h;simp only[hu,Bool.and_eq_true,decide_eq_true_eq] at iV;obtain ⟨he,hs⟩:=iV;have h2:=nT hr;rw[List.range_eq_range'] at h2;obtain ⟨rows,vs,d1,dl,dc,d2,d3,d4,d5⟩:=vF n e he a ih hs len 0 ys h2;have key:VA (j5 w).get .no (img w.heap.size (.slice (some a) len cap)) (.slx e (P.cellsOf e) rows)/\isU (img w.heap.size (.slice (some a) len cap))=false:=by
      by_cases hl0:len=0
      ·subst hl0;rw[List.eq_nil_of_length_eq_zero d2];exact wa
      ·have hsp:=d5 rfl (by omega)
       obtain ⟨ab,ao,asp⟩:=a;simp at hsp;subst hsp;exact Yh d1 dl (fun j v hj=>by have:=dc j v hj;simpa using this) d2 (by omega) hs (fun r hr=>(d3 r hr).2) hc.2.1
     refine ⟨[.slx e (P.cellsOf e) rows],.one key.1 key.2,?_,?_⟩
     ·simp only[bJ,hu];exact ⟨rows,rfl,fun r hr=>(d3 r hr).1⟩
     ·simp only[cT,kD,Rows.uptoBulk];omega
   ·simp at h
  ·rename_i fs hu;split at h
   ·rename_i hl;simp only[Option.map_eq_some_iff] at h;obtain ⟨ys,hm,rfl⟩:=h;simp only[hu] at iV;obtain ⟨xss,d1,d2,d3⟩:=vo n ih _ fs.toList 0 _ ys iV hl (nT hm) (Nat.zero_le _);exact ⟨xss.flatten,by simpa using d1,by simp only[bJ,hu];exact ⟨xss,rfl,d2⟩,by simp only[Rows.uptoBulk];omega⟩
   ·simp at h
  ·rename_i m e hu;split at h
   ·rename_i hl;simp only[Option.map_eq_some_iff] at h;obtain ⟨ys,hm,rfl⟩:=h;simp only[hu,beq_iff_eq,Bool.and_eq_true] at iV;have h2:=nT hm;rw[List.range_eq_range'] at h2;obtain ⟨xss,d1,d2,d3,d4⟩:=wV n e iV.2 ih _ m 0 ys (by rw[hl,iV.1];simp) h2
    exact ⟨xss.flatten,by simpa using d1,by simp only[bJ,hu];exact ⟨xss,rfl,d2,d3⟩,by simp only[Rows.uptoBulk];omega⟩
   ·simp at h
  all_goals first
   |(rename_i hu;rw[hu] at iV;cases iV;done)
   |(cases h;done)
mutual
def BQ:AV->Prop
 | .int k n=>(Lit.int k n).wf=true
 | .str s=>s.size<=maxLen
 | .slx _ _ rows=>qB rows
 |_=>True
def qB:List (List AV)->Prop
 | []=>True
 |r::rs=>kA r/\qB rs
def kA:List AV->Prop
 | []=>True
 |x::xs=>BQ x/\kA xs
end
theorem Lz {xs ys:List AV} (h:kA xs) (k:kA ys):kA (xs++ys):=by
 induction xs with
 |nil=>exact k
 |cons x xs ih=>exact ⟨h.1,ih h.2⟩
theorem Oa {rows:List (List AV)} (h:∀r∈rows,kA r):qB rows:=by
 induction rows with
 |nil=>trivial
 |cons r rs ih=>exact ⟨h r (by simp),ih fun x hx=>h x (by simp[hx])⟩
theorem vq {rows:List (List AV)} (h:∀r∈rows,kA r):kA rows.flatten:=by
 induction rows with
 |nil=>trivial
 |cons r rs ih=>exact Lz (h r (by simp)) (ih fun x hx=>h x (by simp[hx]))
theorem tJ:∀(n:Nat) (t:TypeId) (xs:List AV),bJ P n t xs->kA xs
 |0,_,_,h=>h.elim
 |n+1,t,xs,h=>by
  have ih:=tJ n;unfold bJ at h;split at h
  ·obtain ⟨b,rfl⟩:=h;exact ⟨trivial,trivial⟩
  ·obtain ⟨b,rfl,hw⟩:=h;exact ⟨hw,trivial⟩
  ·obtain ⟨b,rfl,hw⟩:=h;exact ⟨hw,trivial⟩
  ·obtain ⟨rows,rfl,hr⟩:=h;exact ⟨Oa fun r h=>ih _ _ (hr r h),trivial⟩
  ·obtain ⟨xss,rfl,h2⟩:=h;exact vq fun r hr=>by obtain ⟨f,hf⟩:=aae h2 hr;exact ih _ _ hf
  ·obtain ⟨xss,rfl,_,h2⟩:=h;exact vq fun r hr=>ih _ _ (h2 r hr)
  ·exact h.elim
theorem pL {α:Type} {en:α->List AV} {rows:List (List AV)} (h:∀r∈rows,∃x,r=en x):∃ys:List α,rows=ys.map en:=by
 induction rows with
 |nil=>exact ⟨[],rfl⟩
 |cons r rs ih=>
  obtain ⟨y,rfl⟩:=h r (by simp)
  obtain ⟨ys,rfl⟩:=ih fun x hx=>h x (by simp[hx])
  exact ⟨y::ys,rfl⟩
def AR (W:World) (P:Program) (v:Value) (x:AV):Prop:=VA (j5 W).get .no (Lb W.heap.size v) x/\VR (gW P W) v (Lb W.heap.size v)
theorem Pt {P:Program} {W:World}:∀{cs:List Value},(∀v∈cs,isU (img W.heap.size v)=false)->VCs (gW P W) cs (cs.map (img W.heap.size))
 | [],_=>.nil
 |v::cs,h=>.cons (Pl (h v (by simp))) (La v) (Pt fun u hu=>h u (by simp[hu]))
theorem aeZ (hP:∀t,S t=true->sA P S t=true) {t:TypeId} (ht:S t=true) {v:Value} {d:DataW H} {ps:List MemPlace} (h:DataW.Trod enc P w base spare held t v d ps) {cs:Array Value} (hv:v= .agg cs):
  ∃xs n,AR w P v (.agg xs)/\bJ P n t xs/\cT xs<=Rows.uptoBulk d:=by
 obtain ⟨n,hn⟩:=h;obtain ⟨xs,h1,h2,h3⟩:=tK hP n t _ _ ht hn;subst hv;exact ⟨xs,n,⟨.agg h1.1,.agg (Pt h1.2)⟩,h2,h3⟩
theorem Pr (hP:∀t,S t=true->sA P S t=true) {t:TypeId} (ht:S t=true) {v:Value} {d:DataW H} {ps:List MemPlace} (h:DataW.Trod enc P w base spare held t v d ps) (hv:v.cells.toList= [v]):
  ∃x n,AR w P v x/\bJ P n t [x]/\cT [x]<=Rows.uptoBulk d:=by
 obtain ⟨n,hn⟩:=h;obtain ⟨xs,h1,h2,h3⟩:=tK hP n t _ _ ht hn;rw[hv] at h1;obtain ⟨h1,hu⟩:=h1;cases h1 with
 |cons hd ht=>
  cases ht;have e:Lb w.heap.size v=img w.heap.size v:=by
   cases v<;>first|rfl|(have:=hu _ (List.mem_singleton.2 rfl);cases this;done)
  exact ⟨_,n,⟨by rw[e];exact hd,by rw[e];exact La v⟩,h2,h3⟩
end
end
end Go.Sim
namespace Go.Sim
open Go.RowKit Go.ChangeShapes Go.Proofs.YtmealahmjddpcaaGreatDoor
section
section
variable {H:Type} {enc:TypeId×Value->H} {P:Program}
theorem vn (hl:laidOutB P=true) {W W':World} {sp:Nat->Bool}:∀{ts:List TypeId} {vs:List Value} {ds:List (DataW H)} {ps:List MemPlace},
  (∀t∈ts,P.readableRec t=true/\t<P.types.size)->DataW.TrodAll enc P W 0 (fun _=>true) true ts vs ds ps->Below W.heap.size W W'->(∀p∈ps,p.block<W.heap.size)->(∀p∈ps,sp p.block=true)->
  DataW.TrodAll enc P W' 0 sp true ts vs ds ps
 | [],_,_,_,_,h,_,_,_=>by
  obtain ⟨rfl,rfl,rfl⟩:=trodAll_nil h;exact rfl
 |t::ts,_,_,_,ht,h,hb,hlt,hsp=>by
  obtain ⟨v,vs,d,ds,p,q,rfl,rfl,rfl,h1,h2⟩:=trodAll_cons h;refine ⟨p,q,?_,vn hl (fun t h=>ht t (by simp[h])) h2 hb (fun x hx=>hlt x (by simp[hx])) (fun x hx=>hsp x (by simp[hx])),rfl⟩
  exact WideElems.Trod_stays hl (ht t (by simp)).1 (ht t (by simp)).2 h1 (fun x hx=>hb.same (hlt x (by simp[hx]))) (fun x hx=>hsp x (by simp[hx]))
theorem NG {W:World}:∀{vs:List Value} {xs:List AV},mL (AR W P) vs xs->VAs (j5 W).get .no (vs.map (Lb W.heap.size)) xs/\VRs (gW P W) vs (vs.map (Lb W.heap.size))
 | [],[],_=>⟨.nil,.nil⟩
 |v::vs,x::xs,h=>⟨.cons h.1.1 (NG h.2).1,.cons h.1.2 (NG h.2).2⟩
 | [],_::_,h=>h.elim
 |_::_,[],h=>h.elim
theorem law_contract {E:Env} (hS:kR E) (hE:∀W,bC E (gW E.P W)) {f:FuncId} (hgo:ur E (.fn (.func f) [] [])=true) {fn:Func} {s:ChangeSpec} {tb:TypeId} (hl:laidOutB E.P=true) (hts:(fn.params.toList.all fun t=>E.P.readableRec t&&decide (t<E.P.types.size))=true)
  (cC:fn.resultTypes= #[tb]) (htb:E.P.underlying tb=some .bool) (hv:s.vars= []) (hfn:∀ds:List (DataW H),ds.length=fn.params.size->s.fn H ds={results:= [.lit (.bool true)],args:=ds})
  {W:World} {args:Array Value} {ds gs:List (DataW H)} {before:List MemPlace}
  (hW:DataW.Whole enc E.P fn.params.toList s.vars false W args.toList ds gs before)
  (BP:∃xs:List AV,aZ E f [] xs (.bool true) []/\mL (AR W E.P) args.toList xs):
  Calls E.P f args W fun e W'=>∃v,e= .returned v/\s.post enc E.P fn false true false false W args v W':=by
 obtain ⟨xs,hs,h2⟩:=BP;obtain ⟨k1,k2⟩:=NG h2;have hc:=Se hS (hE W) hs hgo k1 k2;rw[Array.toArray_toList] at hc;refine hc.mono ?_;rintro e W' ⟨rfl,hb⟩;refine ⟨_,rfl,?_⟩;have hW':=hW;obtain ⟨p,q,hA,hV,rfl,hfz,hnd⟩:=hW;rw[hv] at hV;obtain ⟨rfl,rfl⟩:=trodVars_none hV;have hdl:ds.length=fn.params.size:=by
  have:∀{ts:List TypeId} {vs:List Value} {ds:List (DataW H)} {ps:List MemPlace},DataW.TrodAll enc E.P W 0 (fun _=>true) true ts vs ds ps->ds.length=ts.length:=by
   intro ts;induction ts with
   |nil=>intro vs ds ps h;obtain ⟨rfl,rfl,rfl⟩:=trodAll_nil h;rfl
   |cons t ts ih=>intro vs ds ps h;obtain ⟨v,vs,d,ds,p,q,rfl,rfl,rfl,h1,h2⟩:=trodAll_cons h;simp[ih h2]
  simpa using this hA
 have hf:=hfn (ds++ []) (by simpa using hdl)
 have hlt:∀x∈p,x.block<W.heap.size:=fun x hx=>hW'.lt x (by simp[hx])
 have htt:∀t∈fn.params.toList,E.P.readableRec t=true/\t<E.P.types.size:=fun t ht=>by
  have:=List.all_eq_true.1 hts t ht;simpa using this
 have hold:∀x∈p,(fun b=>decide (b<W.heap.size)) x.block=true:=fun x hx=>by simpa using hlt x hx
 refine ⟨ds,[],p++ [],[],p,[],hW',?_,?_,?_,hb.frame _,fun h=>by cases h⟩
 ·rw[hf,cC];exact trodAll_cons_mk (shut_bool htb _) trodAll_mk0
 ·rw[hf];simp only[List.append_nil];exact vn hl htt hA hb hlt hold
 ·rw[hf,hv];exact rfl
theorem zi {W:World} {base:Nat} {t e:TypeId} {v:Value} (hu:P.underlying t=some (.slice e)) (h:Value.okWide P W .any base t v):v.cells.toList= [v]:=by
 simp only[Value.okWide,hu,Cell.okWide,Cell.ok] at h;split at h<;>first|rfl|(simp_all;done)|(exact h.elim)
theorem Oj {W:World} {base:Nat} {t:TypeId} {fs:Array Field} {v:Value} (hu:P.underlying t=some (.struct fs)) (h:Value.okWide P W .any base t v):∃cs,v= .agg cs:=by
 simp only[Value.okWide,hu] at h;obtain ⟨cs,h,_⟩:=h;exact ⟨cs,h⟩
end
end
end Go.Sim
namespace Go.Proofs.YtmealahmjddpcaaGreatDoor
open Go.Sim
def tyT:Tr TI:=aav Tryz.prog 338
def fnT:Tr Func:=ads Tryz.prog
def env (ais:List Nat) (afp:List (Nat×Nat)) (DM:List Nat) (stop:List Nat) (lt eq:List (SI×SI×Bool)) (done:List (Nat×SV)):Env:=⟨Tryz.prog,tyT,fnT,lt,eq,done,ais,afp,DM,stop⟩
theorem FW:yd Tryz.prog tyT fnT:=afq 338 158 (fe:=Tryz.f158) (by kernel_rfl) (by kernel_rfl) Tryz.func158 (by kernel_rfl) (by kernel_rfl) (by kernel_rfl)
def E0:Env:=env [] [] [] [] [] [] [(15,.bool true)]
def En (x:Int):List AV:= [.int .i64 x]
def ba (xs:List Int):List (List AV):=xs.map En
theorem vJ (xs:List Int):ba xs=xs.map En:=rfl
theorem R3:RowsK En ba:=⟨vJ⟩
def enc2 (x:Int):List AV:= [.int .i64 x]
def enc9 (x:ByteArray):List AV:= [.str x]
def oK (xs:List ByteArray):List (List AV):=xs.map enc9
structure aI where
 aw:Int
 bM:Int
 bl:ByteArray
def iW (x:aI):List AV:= [.int .i64 x.aw,.int .i64 x.bM,.str x.bl]
def aN (xs:List aI):List (List AV):=xs.map iW
theorem tO (xs:List aI):aN xs=xs.map iW:=rfl
theorem R64:RowsK iW aN:=⟨tO⟩
def BV (x:(List aI)):List AV:= [.slx 65 3 (aN x)]
def bG (xs:List (List aI)):List (List AV):=xs.map BV
theorem tQ (xs:List (List aI)):bG xs=xs.map BV:=rfl
theorem R42:RowsK BV bG:=⟨tQ⟩
def Gs (x:(List (List aI))):List AV:= [.slx 43 1 (bG x)]
def bN (xs:List (List (List aI))):List (List AV):=xs.map Gs
theorem tN (xs:List (List (List aI))):bN xs=xs.map Gs:=rfl
theorem R66:RowsK Gs bN:=⟨tN⟩
def Xi (x:(List (List aI))):List AV:= [.sln 43 1 (bG x)]
def aen (xs:List (List (List aI))):List (List AV):=xs.map Xi
theorem RN66:RowsK Xi aen:=⟨fun _=>rfl⟩
def LU (x:Int):List AV:= [.int .u8 x]
def nu (xs:List Int):List (List AV):=xs.map LU
theorem ET (xs:List Int):nu xs=xs.map LU:=rfl
theorem R5:RowsK LU nu:=⟨ET⟩
structure aA where
 fOp:Int
 au:Int
 aq:(List aI)
 ah:(List Int)
 aF:(List aI)
def dR (x:aA):List AV:= [.int .i64 x.fOp,.int .i64 x.au,.slx 65 3 (aN x.aq),.slx 3 1 (ba x.ah),.slx 65 3 (aN x.aF)]
def cy (xs:List aA):List (List AV):=xs.map dR
theorem tP (xs:List aA):cy xs=xs.map dR:=rfl
theorem R54:RowsK dR cy:=⟨tP⟩
structure cP where
 bp:ByteArray
 aw:Int
def xO (x:cP):List AV:= [.str x.bp,.int .i64 x.aw]
def kU (xs:List cP):List (List AV):=xs.map xO
theorem Qw (xs:List cP):kU xs=xs.map xO:=rfl
theorem R76:RowsK xO kU:=⟨Qw⟩
structure br where
 ah:(List Int)
 au:Int
def uH (x:br):List AV:= [.slx 3 1 (ba x.ah),.int .i64 x.au]
def iz (xs:List br):List (List AV):=xs.map uH
theorem Qv (xs:List br):iz xs=xs.map uH:=rfl
theorem R79:RowsK uH iz:=⟨Qv⟩
structure aH where
 aw:Int
 bP:Int
 aR:aI
def lr (x:aH):List AV:= [.int .i64 x.aw,.int .i64 x.bP,.int .i64 x.aR.aw,.int .i64 x.aR.bM,.str x.aR.bl]
def sQ (xs:List aH):List (List AV):=xs.map lr
theorem Qu (xs:List aH):sQ xs=xs.map lr:=rfl
theorem R81:RowsK lr sQ:=⟨Qu⟩
structure an where
 fOp:Int
 gM:Int
 bz:aH
 bg:aH
 fArgs:(List an)
mutual
def LQ:an->List AV
 |⟨fOp,gM,bz,bg,fArgs⟩=> [.int .i64 fOp,.int .i64 gM,.int .i64 bz.aw,.int .i64 bz.bP,.int .i64 bz.aR.aw,.int .i64 bz.aR.bM,.str bz.aR.bl,.int .i64 bg.aw,.int .i64 bg.bP,.int .i64 bg.aR.aw,.int .i64 bg.aR.bM,.str bg.aR.bl,.slice 84 13 (fV fArgs)]
def fV:List an->List (List AV)
 | []=> []
 |x::xs=>LQ x::fV xs
end
def iH (x:an):List AV:= [.int .i64 x.fOp,.int .i64 x.gM,.int .i64 x.bz.aw,.int .i64 x.bz.bP,.int .i64 x.bz.aR.aw,.int .i64 x.bz.aR.bM,.str x.bz.aR.bl,.int .i64 x.bg.aw,.int .i64 x.bg.bP,.int .i64 x.bg.aR.aw,.int .i64 x.bg.aR.bM,.str x.bg.aR.bl,.slice 84 13 (fV x.fArgs)]
theorem Xh (x:an):LQ x=iH x:=by cases x;simp[LQ,iH]
theorem Qt (xs:List an):fV xs=xs.map iH:=by
 induction xs with
 |nil=>simp[fV]
 |cons x xs ih=>simp[fV,ih,Xh]
theorem R83:RowsK iH fV:=⟨Qt⟩
structure av where
 bp:ByteArray
 ah:(List cP)
 aq:Int
 aX:(List br)
 cc:(List an)
def fE (x:av):List AV:= [.str x.bp,.slice 77 2 (kU x.ah),.int .i64 x.aq,.slice 80 2 (iz x.aX),.slice 84 13 (fV x.cc)]
def dr (xs:List av):List (List AV):=xs.map fE
theorem Qx (xs:List av):dr xs=xs.map fE:=rfl
theorem R62:RowsK fE dr:=⟨Qx⟩
structure ag where
 bD:Int
 ae:(List av)
def bj (x:ag):List AV:= [.int .i64 x.bD,.slice 63 5 (dr x.ae)]
structure ak where
 ga:(List Int)
 fat:Int
def bQ (x:ak):List AV:= [.slx 5 1 (nu x.ga),.int .i64 x.fat]
structure ai where
 ae:(List (List (List aI)))
def dD (x:ai):List AV:= [.slx 66 1 (bN x.ae)]
structure dX where
 au:Int
 LC:(List aI)
 Ac:(List aI)
structure db where
 fm:(List Int)
 gk:(List Int)
def wF (x:db):List AV:= [.slx 3 1 (ba x.fm),.slx 3 1 (ba x.gk)]
abbrev Wq0:=List Int
abbrev Wq1:=List av
abbrev Wq2:=List aI
abbrev Wq3:=List aA
abbrev Wq4:=List cP
abbrev Wq5:=List aH
abbrev Wq6:=List br
abbrev Wq7:=List an
abbrev Wq8:=List (List aI)
abbrev Wq9:=List (List (List aI))
abbrev Wf0:=ByteArray->ak->Option (ByteArray×ak)
abbrev Wf1:=ByteArray->Int->ak->Option (ByteArray×ak)
abbrev Wf2:=Wq0->Int->ak->aH->Wq5->Option (aH×ak)
abbrev Wf3:=Int->ak->aH->Wq5->Option (aH×ak)
abbrev Wf4:=ak->an->an->Wq7->Option (an×ak)
abbrev Wf5:=Int->Option Int
abbrev Wf6:=Wq0->Option Wq0
abbrev Wf7:=Int->Int->Wq0->Int->Int->ak->Wq2->Option (Wq2×ak)
abbrev Wf8:=Wq2->Wq2->Option Int
abbrev Wf9:=Int->Wq1->Int->ak->ag->ai->Wq3->aA->Wq0->Wq2->Option (Wq3×ak)
abbrev Wf10:=Int->Int->Bool->Wq1->Int->ak->ag->ai->Wq3->aA->Wq0->Wq2->Option (Wq3×ak)
abbrev SC:=Int->ak->ag->ai->Wq3->Option (Wq3×ak)
abbrev Wf12:=Int->Wq2->Wq2->Bool->Wq8->Int->Int->Wq9->ag->ai->ai->Wq8->Option (ai×Wq9)
abbrev Wf13:=Int->Wq2->Bool->Wq9->ai->ai->Wq8->Option (ai×Wq9)
abbrev SB:=Int->Int->Int->ak->ag->ai->ai->Wq9->Option (ai×ak)
abbrev Wf15:=ak->ai->ai->Wq9->Option (ai×ak)
abbrev Wf16:=Wq1->Int->Int->Wq6->Int->Int->Int->Wq1->Int->ag->av->br->Option Bool
abbrev Wf17:=Wq1->Int->Int->Wq6->Int->Int->ag->av->Option Bool
abbrev SA:=Wq1->Int->Int->ag->Option Bool
abbrev Wf19:=Wq7->Int->Int->db->Option Bool
abbrev wY:=ag->Option Int
abbrev EA:=Wq1->Int->Int->ag->Option Int
abbrev aai:=Int->Wq2->Int->Int->av->Option Bool
abbrev Wf23:=Wq3->Wq3->Int->Int->ag->Option Int
abbrev wX:=Int->Wq9->Int->Int->ag->Option Int
abbrev Wf25:=Int->Int->Wq8->Wq9->Int->Int->Wq8->Int->Int->ag->Option Int
abbrev Wf26:=Int->Int->aA->Wq8->Option (Int×Wq8×Int×aA)
abbrev Sz:=Wq2->Option Wq2
abbrev Wf28:=Wq0->Int->Int->aA->Wq2->Option Wq2
abbrev Wf29:=Wq3->Int->Wq9->Int->Int->ag->ai->ai->Wq9->Wq8->Option (ai×Int)
abbrev Wf30:=Wq3->Wq9->Int->Int->ag->ai->ai->Wq9->Option (ai×Int)
abbrev Wf31:=Wq3->ag->ai->ai->Wq9->Option (ai×Int)
abbrev aah:=Int->Wq3->Int->Int->ag->ai->ai->Wq9->Option (ai×Int)
abbrev Sy:=ai->ai->Wq9->Option (ai×Int)
abbrev Wf34:=Int->Int->Wq4->Int->cP->cP->Int->Bool->av->Option Bool
abbrev Wf35:=Wq6->Int->Int->Int->Wq1->Int->Wq0->Int->Wq1->Int->av->av->Int->ag->av->br->Option Bool
abbrev Wf36:=Wq6->Int->Int->ag->av->Option Bool
abbrev Ez:=Int->Int->ag->Option Int
abbrev aag:=Int->Int->Wq2->Int->Int->ag->Option Bool
abbrev Wf39:=Int->ag->ai->Option Int
abbrev Wf40:=Wq9->Int->Int->ai->ai->Wq8->Wq9->Option ai
abbrev Wf41:=Wq9->Int->Int->ai->ai->Wq9->Option ai
abbrev Wf42:=ai->ai->Wq9->Option ai
abbrev aaf:=Wq3->Int->Int->ag->ai->ai->Wq9->Option (ai×Int)
abbrev Wf44:=Wq3->Int->ai->ak->ag->ai->Option Bool
def SG (_n:Nat) (a b:ByteArray):Option Int:=some (Lib.compareBytes a.data.toList b.data.toList)
def J5 (r:Int):AV:=.int .i64 r
def aer (_r:Int):List (Nat×Bx):= []
def C158:=Cx E0 158 J5 aer
def aec (a b:ByteArray):LS:=⟨[(0,.str a),(1,.str b)],[]⟩
theorem aiF (n:Nat):K2 C158 aec (SG n):=fun a b r h=>by
 have e:=Option.some.inj h;subst e;show aZ E0 158 [] [.str a,.str b] (J5 (Lib.compareBytes a.data.toList b.data.toList)) [];rw[show J5 (Lib.compareBytes a.data.toList b.data.toList)= .int .i64 (qF a b) from congrArg (AV.int .i64) (Fw a b)];exact aZ.cmp (fn:=Tryz.f158) (by kernel_rfl) (by kernel_rfl) (by kernel_rfl)
def F15 (_n:Nat):Option Bool:=some true
def aik (r:Bool):AV:=.bool r
def afR (_r:Bool):List (Nat×Bx):= []
def C15:=Cx E0 15 aik afR
def afE:LS:=⟨[],[]⟩
theorem ev15 (n:Nat):K0 C15 afE (F15 n):=fun r h=>by
 have e:=Option.some.inj h;subst e;exact aZ.done (v:=.bool true) (by kernel_rfl) fun F g=>.bool true
def res8 (r:ak):AV:=.loc 200000 0
def abR (r:ak):List (Nat×Bx):= [(200000,.flat 74 (bQ r))]
def x8:=fx E0 Tryz.f8 [] [200000]
def A8:=Ax x8 res8 abR
def C8:=Cx E0 8 res8 abR
def aaz (gD:Wq0) (tZ:Int):LS:=⟨[(0,.slx 5 1 (nu gD)),(1,.int .i64 tZ)],[]⟩
def aar (n:Nat) (gD:Wq0) (tZ:Int):Option ak:=
 (cut gD none (some (if tZ<(gD.length:Int) then tZ else (gD.length:Int)))).bind fun x7=>(app [] x7).bind fun x9=>some (ak.mk x9 0)
theorem b8_0 (n:Nat):K2 (A8 []) aaz (aar n):=fun gD tZ r h=>be h fun x7 hx7 h=>be h fun x9 hx9 h=>rr h [(3,.eqv (R5.ax gD)),(2,R5.cut hx7),(0,.born [] [] 11 true 5 1),(0,R5.app (xs:= []) hx9 .dat),(3,.ren 13 200000),(0,R5.frz 11 x9),(0,.norm [] [(200000,.flat [.sx 0 0])])]
def F8 (n:Nat) (gD:Wq0) (tZ:Int):Option ak:=aar n gD tZ
theorem ev8 (n:Nat):K2 C8 aaz (F8 n):=fun _ _ _ h=>ca (X:=x8) (b8_0 n h)
def abI (r:(Int×ak)):AV:=.int .i64 r.1
def Wd (r:(Int×ak)):List (Nat×Bx):= [(0,.flat 74 (bQ r.2))]
def x24:=fx E0 Tryz.f24 [0] [0]
def A24:=Ax x24 abI Wd
def C24:=Cx E0 24 abI Wd
def AW (c0:ak) (n1:Int):LS:=⟨[(0,.loc 0 0),(1,.int .i64 n1)],[(0,.flat 74 (bQ c0))]⟩
def TM (n:Nat) (c0:ak) (n1:Int):Option (Int×ak):=
 if !decide (c0.fat<(c0.ga.length:Int)) then
 some (0,c0)
 else
 if decide (n1<1) then
 some (0,c0)
 else
 (idx c0.ga (w64 ((w64 (c0.fat+1)) - 1))).bind fun x33=>(rem (w64 (x33)) n1).bind fun x38=>some ((Int.tmod (w64 (x33)) n1),(ak.mk c0.ga (w64 (c0.fat+1))))
theorem alP (n:Nat):K2 (A24 []) AW (TM n):=fun c0 n1 r h=>ie h (fun c0_ h=>rr h [(9,.eqv (R5.ax c0.ga)),(0,eb c0_)]) (fun c0_ h=>ie h (fun c1 h=>rr h [(9,.eqv (R5.ax c0.ga)),(0,eb c0_),(2,eb c1)]) (fun c1 h=>be h fun x33 m6 h=>be h fun x38 D3 h=>rr h [(9,.eqv (R5.ax c0.ga)),(0,eb c0_),(2,eb c1),(18,R5.idx m6),(3,.nz (J8 D3).1)]))
def F24 (n:Nat) (c0:ak) (n1:Int):Option (Int×ak):=TM n c0 n1
theorem bU (n:Nat):K2 C24 AW (F24 n):=fun _ _ _ h=>ca (X:=x24) (alP n h)
def abD (r:(Bool×ak)):AV:=.bool r.1
def V8 (r:(Bool×ak)):List (Nat×Bx):= [(0,.flat 74 (bQ r.2))]
def x29:=fx E0 Tryz.f29 [0] [0]
def A29:=Ax x29 abD V8
def C29:=Cx E0 29 abD V8
def TE (n:Nat) (c0:ak) (n1:Int):Option (Bool×ak):=
 (F24 n c0 n1).bind fun x4=>some (x4.1==(w64 (n1 - 1)),x4.2)
theorem alw (n:Nat):K2 (A29 []) AW (TE n):=fun c0 n1 r h=>be h fun x4 hx4 h=>rr h [(3,.call (bU n hx4) [] [(0,0)] [])]
def F29 (n:Nat) (c0:ak) (n1:Int):Option (Bool×ak):=TE n c0 n1
theorem fC (n:Nat):K2 C29 AW (F29 n):=fun _ _ _ h=>ca (X:=x29) (alw n h)
def abC (r:cP):AV:=.agg (xO r)
def V7 (r:cP):List (Nat×Bx):= []
def x30:=fx E0 Tryz.f30 [] []
def A30:=Ax x30 abC V7
def C30:=Cx E0 30 abC V7
def Uo (xD:ByteArray) (iU:Int):LS:=⟨[(0,.str xD),(1,.int .i64 iU)],[]⟩
def TD (n:Nat) (xD:ByteArray) (iU:Int):Option cP:=
 some (cP.mk xD iU)
theorem alv (n:Nat):K2 (A30 []) Uo (TD n):=fun xD iU r h=>rr h []
def F30 (n:Nat) (xD:ByteArray) (iU:Int):Option cP:=TD n xD iU
theorem jQ (n:Nat):K2 C30 Uo (F30 n):=fun _ _ _ h=>ca (X:=x30) (alv n h)
def U3 (r:(Int×ak)):AV:=.int .i64 r.1
def O6 (r:(Int×ak)):List (Nat×Bx):= [(0,.flat 74 (bQ r.2))]
def x106:=fx E0 Tryz.f106 [0] [0]
def A106:=Ax x106 U3 O6
def C106:=Cx E0 106 U3 O6
def lY (c0:ak):LS:=⟨[(0,.loc 0 0)],[(0,.flat 74 (bQ c0))]⟩
def Ny (n:Nat) (c0:ak):Option (Int×ak):=
 (F24 n c0 12).bind fun x3=>if x3.1==9 then
 some ((-1),x3.2)
 else
 if x3.1==10 then
 some (9223372036854775807,x3.2)
 else
 if x3.1==11 then
 some ((-9223372036854775808),x3.2)
 else
 (rem x3.1 4).bind fun x14=>some ((Int.tmod x3.1 4),x3.2)
theorem ahc (n:Nat):K1 (A106 []) lY (Ny n):=fun c0 r h=>be h fun x3 hx3 h=>ie h (fun c0_ h=>rr h [(2,.call (bU n hx3) [] [(0,0)] []),(2,eb c0_)]) (fun c0_ h=>ie h (fun c1 h=>rr h [(2,.call (bU n hx3) [] [(0,0)] []),(2,eb c0_),(1,eb c1)]) (fun c1 h=>ie h (fun c2 h=>rr h [(2,.call (bU n hx3) [] [(0,0)] []),(2,eb c0_),(1,eb c1),(1,eb c2)]) (fun c2 h=>be h fun x14 dU h=>rr h [(2,.call (bU n hx3) [] [(0,0)] []),(2,eb c0_),(1,eb c1),(1,eb c2),(2,.nz (J8 dU).1)])))
def SQ (n:Nat) (c0:ak):Option (Int×ak):=Ny n c0
theorem aiJ (n:Nat):K1 C106 lY (SQ n):=fun _ _ h=>ca (X:=x106) (ahc n h)
def U2 (r:(ByteArray×ak)):AV:=.str r.1
def O5 (r:(ByteArray×ak)):List (Nat×Bx):= [(0,.flat 74 (bQ r.2))]
def x107:=fx E0 Tryz.f107 [0] [0]
def nm:=Ax x107 U2 O5
def C107:=Cx E0 107 U2 O5
def Df (eJ:ByteArray) (i4:Int) (b0:ak):LS:=⟨[(3,.str eJ),(4,.int .i64 i4)],[(0,.flat 74 (bQ b0))]⟩
def pH (eJ:ByteArray) (b0:ak):LS:=⟨[(3,.str eJ)],[(0,.flat 74 (bQ b0))]⟩
def De (eJ:ByteArray) (i5:Int) (b0:ak):LS:=⟨[(3,.str eJ),(5,.int .i64 i5)],[(0,.flat 74 (bQ b0))]⟩
def CK (k_1:Wf0) (back:Wf1) (n:Nat) (eJ:ByteArray) (i4:Int) (b0:ak):Option (ByteArray×ak):=
 if decide (i4<64) then
 (cat eJ (ByteArray.mk #[255])).bind fun x4=>back (eJ++(ByteArray.mk #[255])) (w64 (i4+1)) b0
 else
 k_1 eJ b0
theorem ahb {k_1} (aD:K2 (nm [1,0,1,1,1,1,1,1,1,1,1,1,1,0,1,0,1,1]) pH k_1) {back} (ay:K3 (nm [0,1,0,0,1,1,1,1,1,1,1,1,1,1,1,0,1,0,1,1]) Df back) (n:Nat):K3 (nm [0,1,0,0,1,1,1,1,1,1,1,1,1,1,1,0,1,0,1,1]) Df (CK k_1 back n):=fun eJ i4 b0 r h=>ie h (fun c0_ h=>be h fun x4 hx4 h=>ra (ay h) [(1,eb c0_),(1,.cat (L2 hx4).1)]) (fun c0_ h=>ra (aD h) [(1,eb c0_)])
def tq (k_1:Wf0):Nat->ByteArray->Int->ak->Option (ByteArray×ak)
 |0,_,_,_=>none
 |n+1,eJ,i4,b0=>CK k_1 (tq k_1 n) n eJ i4 b0
theorem WM {k_1} (aD:K2 (nm [1,0,1,1,1,1,1,1,1,1,1,1,1,0,1,0,1,1]) pH k_1):∀n:Nat,K3 (nm [0,1,0,0,1,1,1,1,1,1,1,1,1,1,1,0,1,0,1,1]) Df (tq k_1 n)
 |0=>fun _ _ _ _ h=>nz h
 |n+1=>fun _ _ _ _ h=>ahb aD (WM aD n) n h
def X0 (n:Nat) (eJ:ByteArray) (b0:ak):Option (ByteArray×ak):=
 some (eJ,b0)
theorem aha (n:Nat):K2 (nm [1,0,1,1,1,1,1,1,1,1,1,1,1,0,1,0,1,1]) pH (X0 n):=fun eJ b0 r h=>rr h []
def CJ (k_3:Wf0) (back:Wf1) (n:Nat) (eJ:ByteArray) (i5:Int) (b0:ak):Option (ByteArray×ak):=
 if decide (i5<64) then
 (cat eJ (ByteArray.mk #[98])).bind fun x4=>back (eJ++(ByteArray.mk #[98])) (w64 (i5+1)) b0
 else
 k_3 eJ b0
theorem agZ {k_3} (bu:K2 (nm [1,1,1,1]) pH k_3) {back} (ay:K3 (nm [0,1,0,1,1,1]) De back) (n:Nat):K3 (nm [0,1,0,1,1,1]) De (CJ k_3 back n):=fun eJ i5 b0 r h=>ie h (fun c0_ h=>be h fun x4 hx4 h=>ra (ay h) [(1,eb c0_),(1,.cat (L2 hx4).1)]) (fun c0_ h=>ra (bu h) [(1,eb c0_)])
def tp (k_3:Wf0):Nat->ByteArray->Int->ak->Option (ByteArray×ak)
 |0,_,_,_=>none
 |n+1,eJ,i5,b0=>CJ k_3 (tp k_3 n) n eJ i5 b0
theorem WL {k_3} (bu:K2 (nm [1,1,1,1]) pH k_3):∀n:Nat,K3 (nm [0,1,0,1,1,1]) De (tp k_3 n)
 |0=>fun _ _ _ _ h=>nz h
 |n+1=>fun _ _ _ _ h=>agZ bu (WL bu n) n h
def XZ (n:Nat) (eJ:ByteArray) (b0:ak):Option (ByteArray×ak):=
 some (eJ,b0)
theorem agY (n:Nat):K2 (nm [1,1,1,1]) pH (XZ n):=fun eJ b0 r h=>rr h []
def Nx (n:Nat) (c0:ak):Option (ByteArray×ak):=
 (F24 n c0 10).bind fun x4=>if x4.1==0 then
 some ((ByteArray.mk #[97]),x4.2)
 else
 if x4.1==1 then
 some ((ByteArray.mk #[97]),x4.2)
 else
 if x4.1==2 then
 some ((ByteArray.mk #[97]),x4.2)
 else
 if x4.1==3 then
 some ((ByteArray.mk #[98]),x4.2)
 else
 if x4.1==4 then
 some ((ByteArray.mk #[98]),x4.2)
 else
 if x4.1==5 then
 some (ByteArray.empty,x4.2)
 else
 if x4.1==6 then
 some ((ByteArray.mk #[97,0]),x4.2)
 else
 if x4.1==7 then
 some ((ByteArray.mk #[255]),x4.2)
 else
 if x4.1==8 then
 tq (X0 n) n ByteArray.empty 0 x4.2
 else
 tp (XZ n) n ByteArray.empty 0 x4.2
theorem agX (n:Nat):K1 (nm []) lY (Nx n):=fun c0 r h=>be h fun x4 hx4 h=>ie h (fun c0_ h=>rr h [(3,.call (bU n hx4) [] [(0,0)] []),(0,eb c0_)]) (fun c0_ h=>ie h (fun c1 h=>rr h [(3,.call (bU n hx4) [] [(0,0)] []),(0,eb c0_),(1,eb c1)]) (fun c1 h=>ie h (fun c2 h=>rr h [(3,.call (bU n hx4) [] [(0,0)] []),(0,eb c0_),(1,eb c1),(1,eb c2)]) (fun c2 h=>ie h (fun c3 h=>rr h [(3,.call (bU n hx4) [] [(0,0)] []),(0,eb c0_),(1,eb c1),(1,eb c2),(1,eb c3)]) (fun c3 h=>ie h (fun c4 h=>rr h [(3,.call (bU n hx4) [] [(0,0)] []),(0,eb c0_),(1,eb c1),(1,eb c2),(1,eb c3),(1,eb c4)]) (fun c4 h=>ie h (fun c5 h=>rr h [(3,.call (bU n hx4) [] [(0,0)] []),(0,eb c0_),(1,eb c1),(1,eb c2),(1,eb c3),(1,eb c4),(1,eb c5)]) (fun c5 h=>ie h (fun c6 h=>rr h [(3,.call (bU n hx4) [] [(0,0)] []),(0,eb c0_),(1,eb c1),(1,eb c2),(1,eb c3),(1,eb c4),(1,eb c5),(1,eb c6)]) (fun c6 h=>ie h (fun c7 h=>rr h [(3,.call (bU n hx4) [] [(0,0)] []),(0,eb c0_),(1,eb c1),(1,eb c2),(1,eb c3),(1,eb c4),(1,eb c5),(1,eb c6),(1,eb c7)]) (fun c7 h=>ie h (fun c8 h=>ra (WM (aha n) n h) [(3,.call (bU n hx4) [] [(0,0)] []),(0,eb c0_),(1,eb c1),(1,eb c2),(1,eb c3),(1,eb c4),(1,eb c5),(1,eb c6),(1,eb c7),(1,eb c8)]) (fun c8 h=>ra (WL (agY n) n h) [(3,.call (bU n hx4) [] [(0,0)] []),(0,eb c0_),(1,eb c1),(1,eb c2),(1,eb c3),(1,eb c4),(1,eb c5),(1,eb c6),(1,eb c7),(1,eb c8)])))))))))
def SP (n:Nat) (c0:ak):Option (ByteArray×ak):=Nx n c0
theorem aiI (n:Nat):K1 C107 lY (SP n):=fun _ _ h=>ca (X:=x107) (agX n h)
def aaT (r:(aI×ak)):AV:=.agg (iW r.1)
def Vx (r:(aI×ak)):List (Nat×Bx):= [(0,.flat 74 (bQ r.2))]
def x74:=fx E0 Tryz.f74 [0] [0]
def A74:=Ax x74 aaT Vx
def C74:=Cx E0 74 aaT Vx
def Ua (c0:ak) (iU:Int):LS:=⟨[(0,.loc 0 0),(1,.int .i64 iU)],[(0,.flat 74 (bQ c0))]⟩
def S6 (n:Nat) (c0:ak) (iU:Int):Option (aI×ak):=
 if iU==3 then
 (F24 n c0 2).bind fun x7=>some ((aI.mk iU x7.1 ByteArray.empty),x7.2)
 else
 if iU==4 then
 (SQ n c0).bind fun x9=>some ((aI.mk iU x9.1 ByteArray.empty),x9.2)
 else
 (SP n c0).bind fun x8=>some ((aI.mk 5 0 x8.1),x8.2)
theorem ajK (n:Nat):K2 (A74 []) Ua (S6 n):=fun c0 iU r h=>ie h (fun c0_ h=>be h fun x7 hx7 h=>rr h [(2,eb c0_),(3,.call (bU n hx7) [] [(0,0)] [])]) (fun c0_ h=>ie h (fun c1 h=>be h fun x9 hx9 h=>rr h [(2,eb c0_),(1,eb c1),(3,.call (aiJ n hx9) [] [(0,0)] [])]) (fun c1 h=>be h fun x8 hx8 h=>rr h [(2,eb c0_),(1,eb c1),(2,.call (aiI n hx8) [] [(0,0)] [])]))
def F74 (n:Nat) (c0:ak) (iU:Int):Option (aI×ak):=S6 n c0 iU
theorem LH (n:Nat):K2 C74 Ua (F74 n):=fun _ _ _ h=>ca (X:=x74) (ajK n h)
def U8 (r:(aH×ak)):AV:=.agg (lr r.1)
def Pb (r:(aH×ak)):List (Nat×Bx):= [(0,.flat 74 (bQ r.2))]
def x101:=fx E0 Tryz.f101 [0] [0]
def nn:=Ax x101 U8 Pb
def C101:=Cx E0 101 U8 Pb
def Ds (params2:Wq0) (cR:Int) (t15:Wq0) (t16 t17:Int) (b0:ak) (b8:aH) (b29:Wq5):LS:=⟨[(0,.loc 0 0),(2,.slx 3 1 (ba params2)),(3,.int .i64 cR),(8,.loc 8 0),(9,.ms 29 5 0 b29.length),(15,.slx 3 1 (ba t15)),(16,.int .i64 t16),(17,.int .i64 t17)],[(0,.flat 74 (bQ b0)),(8,.flat 82 (lr b8)),(29,.rows true 82 5 (sQ b29))]⟩
def Dr (cR:Int) (t31:Wq0) (t32 t33:Int) (b0:ak) (b8:aH) (b29:Wq5):LS:=⟨[(0,.loc 0 0),(3,.int .i64 cR),(8,.loc 8 0),(9,.ms 29 5 0 b29.length),(31,.slx 3 1 (ba t31)),(32,.int .i64 t32),(33,.int .i64 t33)],[(0,.flat 74 (bQ b0)),(8,.flat 82 (lr b8)),(29,.rows true 82 5 (sQ b29))]⟩
def Dq (cR:Int) (b0:ak) (b8:aH) (b29:Wq5):LS:=⟨[(0,.loc 0 0),(3,.int .i64 cR),(8,.loc 8 0),(9,.ms 29 5 0 b29.length)],[(0,.flat 74 (bQ b0)),(8,.flat 82 (lr b8)),(29,.rows true 82 5 (sQ b29))]⟩
def Dp (params2:Wq0) (cR:Int) (b0:ak) (b8:aH) (b29:Wq5):LS:=⟨[(0,.loc 0 0),(2,.slx 3 1 (ba params2)),(3,.int .i64 cR),(8,.loc 8 0),(9,.ms 29 5 0 b29.length)],[(0,.flat 74 (bQ b0)),(8,.flat 82 (lr b8)),(29,.rows true 82 5 (sQ b29))]⟩
def OA (c0:ak) (aV params2:Wq0) (cR:Int):LS:=⟨[(0,.loc 0 0),(1,.slx 3 1 (ba aV)),(2,.slx 3 1 (ba params2)),(3,.int .i64 cR)],[(0,.flat 74 (bQ c0))]⟩
def CT (k_3:Wf2) (back:Wq0->Int->Wq0->Int->Int->ak->aH->Wq5->Option (aH×ak)) (n:Nat) (params2:Wq0) (cR:Int) (t15:Wq0) (t16 t17:Int) (b0:ak) (b8:aH) (b29:Wq5):Option (aH×ak):=
 if decide (t17<t16) then
 (idx t15 t17).bind fun x3=>if x3==cR then
 (app b29 [(aH.mk 1 t17 (aI.mk 0 0 ByteArray.empty))]).bind fun x15=>back params2 cR t15 t16 (w64 (t17+1)) b0 b8 x15
 else
 back params2 cR t15 t16 (w64 (t17+1)) b0 b8 b29
 else
 k_3 params2 cR b0 b8 b29
theorem aht {k_3} (bu:K5 (nn [1,1,1]) Dp k_3) {back} (ay:K8 (nn [0,1,0,1,1]) Ds back) (n:Nat):K8 (nn [0,1,0,1,1]) Ds (CT k_3 back n):=fun params2 cR t15 t16 t17 b0 b8 b29 r h=>ie h (fun c0_ h=>be h fun x3 hx3 h=>ie h (fun c1 h=>be h fun x15 cA h=>ra (ay h) [(0,eb c0_),(1,R3.idx hx3),(5,eb c1),(4,R81.app cA (R81.srW [(aH.mk 1 t17 (aI.mk 0 0 ByteArray.empty))]))]) (fun c1 h=>ra (ay h) [(0,eb c0_),(1,R3.idx hx3),(5,eb c1)])) (fun c0_ h=>ra (bu h) [(0,eb c0_)])
def tA (k_3:Wf2):Nat->Wq0->Int->Wq0->Int->Int->ak->aH->Wq5->Option (aH×ak)
 |0,_,_,_,_,_,_,_,_=>none
 |n+1,params2,cR,t15,t16,t17,b0,b8,b29=>CT k_3 (tA k_3 n) n params2 cR t15 t16 t17 b0 b8 b29
theorem WT {k_3} (bu:K5 (nn [1,1,1]) Dp k_3):∀n:Nat,K8 (nn [0,1,0,1,1]) Ds (tA k_3 n)
 |0=>fun _ _ _ _ _ _ _ _ _ h=>nz h
 |n+1=>fun _ _ _ _ _ _ _ _ _ h=>aht bu (WT bu n) n h
def CS (k_2:Wf3) (back:Int->Wq0->Int->Int->ak->aH->Wq5->Option (aH×ak)) (n:Nat) (cR:Int) (t31:Wq0) (t32 t33:Int) (b0:ak) (b8:aH) (b29:Wq5):Option (aH×ak):=
 if decide (t33<t32) then
 (idx t31 t33).bind fun x3=>if x3==cR then
 (app b29 [(aH.mk 2 t33 (aI.mk 0 0 ByteArray.empty))]).bind fun x15=>back cR t31 t32 (w64 (t33+1)) b0 b8 x15
 else
 back cR t31 t32 (w64 (t33+1)) b0 b8 b29
 else
 k_2 cR b0 b8 b29
theorem ahs {k_2} (bS:K4 (nn [1,1,1,1]) Dq k_2) {back} (ay:K7 (nn [0,1,0,1,1,1]) Dr back) (n:Nat):K7 (nn [0,1,0,1,1,1]) Dr (CS k_2 back n):=fun cR t31 t32 t33 b0 b8 b29 r h=>ie h (fun c0_ h=>be h fun x3 hx3 h=>ie h (fun c1 h=>be h fun x15 cA h=>ra (ay h) [(0,eb c0_),(1,R3.idx hx3),(5,eb c1),(4,R81.app cA (R81.srW [(aH.mk 2 t33 (aI.mk 0 0 ByteArray.empty))]))]) (fun c1 h=>ra (ay h) [(0,eb c0_),(1,R3.idx hx3),(5,eb c1)])) (fun c0_ h=>ra (bS h) [(0,eb c0_)])
def tz (k_2:Wf3):Nat->Int->Wq0->Int->Int->ak->aH->Wq5->Option (aH×ak)
 |0,_,_,_,_,_,_,_=>none
 |n+1,cR,t31,t32,t33,b0,b8,b29=>CS k_2 (tz k_2 n) n cR t31 t32 t33 b0 b8 b29
theorem WS {k_2} (bS:K4 (nn [1,1,1,1]) Dq k_2):∀n:Nat,K7 (nn [0,1,0,1,1,1]) Dr (tz k_2 n)
 |0=>fun _ _ _ _ _ _ _ _ h=>nz h
 |n+1=>fun _ _ _ _ _ _ _ _ h=>ahs bS (WS bS n) n h
def xj (n:Nat) (cR:Int) (b0:ak) (b8:aH) (b29:Wq5):Option (aH×ak):=
 (F24 n b0 (w64 ((b29.length:Int)+1))).bind fun x5=>if decide (x5.1<(b29.length:Int)) then
 (bnd b29.length x5.1).bind fun x14=>(b29[0+x14]?).bind fun x16=>some (x16,x5.2)
 else
 (F74 n x5.2 cR).bind fun x14=>some ((aH.mk 3 0 x14.1),x14.2)
theorem ahr (n:Nat):K4 (nn [1,1,1,1]) Dq (xj n):=fun cR b0 b8 b29 r h=>be h fun x5 hx5 h=>ie h (fun c0_ h=>be h fun x14 dU h=>be h fun x16 de h=>rr h [(4,.call (bU n hx5) [] [(0,0)] []),(4,eb c0_),(2,cJ dU),(0,R81.row de)]) (fun c0_ h=>be h fun x14 dU h=>rr h [(4,.call (bU n hx5) [] [(0,0)] []),(4,eb c0_),(2,.call (LH n dU) [] [(0,0)] [])])
def CQ (n:Nat) (params2:Wq0) (cR:Int) (b0:ak) (b8:aH) (b29:Wq5):Option (aH×ak):=
 tz (xj n) n cR params2 (params2.length:Int) 0 b0 b8 b29
theorem ahq (n:Nat):K5 (nn [1,1,1]) Dp (CQ n):=fun params2 cR b0 b8 b29 r h=>ra (WS (ahr n) n h) [(1,.eqv (R3.ax params2))]
def X2 (n:Nat) (c0:ak) (aV params2:Wq0) (cR:Int):Option (aH×ak):=
 tA (CQ n) n params2 cR aV (aV.length:Int) 0 c0 (aH.mk 0 0 (aI.mk 0 0 ByteArray.empty)) []
theorem ahp (n:Nat):K4 (nn []) OA (X2 n):=fun c0 aV params2 cR r h=>ra (WT (ahq n) n h) [(3,.eqv (R3.ax aV)),(1,.born [9] [] 29 true 82 5)]
def SR (n:Nat) (c0:ak) (aV params2:Wq0) (cR:Int):Option (aH×ak):=X2 n c0 aV params2 cR
theorem RU (n:Nat):K4 C101 OA (SR n):=fun _ _ _ _ _ h=>ca (X:=x101) (ahp n h)
def aaV (r:(an×ak)):AV:=.agg (iH r.1)
def Vz (r:(an×ak)):List (Nat×Bx):= [(0,.flat 74 (bQ r.2))]
def x72:=fx E0 Tryz.f72 [0] [0]
def A72:=Ax x72 aaV Vz
def C72:=Cx E0 72 aaV Vz
def afu (b0:ak) (b8 b11:an):LS:=⟨[(0,.loc 0 0),(8,.loc 8 0),(11,.loc 11 0)],[(0,.flat 74 (bQ b0)),(8,.flat 84 [.int .i64 0,.int .i64 0,.int .i64 0,.int .i64 0,.int .i64 0,.int .i64 0,.str ByteArray.empty,.int .i64 0,.int .i64 0,.int .i64 0,.int .i64 0,.str ByteArray.empty,.aU]),(11,.flat 84 [.int .i64 3,.int .i64 b11.gM,.int .i64 b11.bz.aw,.int .i64 b11.bz.bP,.int .i64 b11.bz.aR.aw,.int .i64 b11.bz.aR.bM,.str b11.bz.aR.bl,.int .i64 b11.bg.aw,.int .i64 b11.bg.bP,.int .i64 b11.bg.aR.aw,.int .i64 b11.bg.aR.bM,.str b11.bg.aR.bl,.aU])]⟩
def aft (aV params2:Wq0) (s8:Int) (b0:ak) (b8:an):LS:=⟨[(0,.loc 0 0),(1,.slx 3 1 (ba aV)),(2,.slx 3 1 (ba params2)),(8,.loc 8 0),(10,.int .i64 s8)],[(0,.flat 74 (bQ b0)),(8,.flat 84 [.int .i64 0,.int .i64 0,.int .i64 0,.int .i64 0,.int .i64 0,.int .i64 0,.str ByteArray.empty,.int .i64 0,.int .i64 0,.int .i64 0,.int .i64 0,.str ByteArray.empty,.aU])]⟩
def I1 (aV params2:Wq0) (dI n13:Int) (b0:ak) (b8 b12:an) (kP:Wq7):LS:=⟨[(0,.loc 0 0),(1,.slx 3 1 (ba aV)),(2,.slx 3 1 (ba params2)),(3,.int .i64 dI),(8,.loc 8 0),(12,.loc 12 0),(13,.int .i64 n13)],[(0,.flat 74 (bQ b0)),(8,.flat 84 [.int .i64 b8.fOp,.int .i64 b8.gM,.int .i64 b8.bz.aw,.int .i64 b8.bz.bP,.int .i64 b8.bz.aR.aw,.int .i64 b8.bz.aR.bM,.str b8.bz.aR.bl,.int .i64 b8.bg.aw,.int .i64 b8.bg.bP,.int .i64 b8.bg.aR.aw,.int .i64 b8.bg.aR.bM,.str b8.bg.aR.bl,.aU]),(12,.flat 84 [.int .i64 b12.fOp,.int .i64 b12.gM,.int .i64 b12.bz.aw,.int .i64 b12.bz.bP,.int .i64 b12.bz.aR.aw,.int .i64 b12.bz.aR.bM,.str b12.bz.aR.bl,.int .i64 b12.bg.aw,.int .i64 b12.bg.bP,.int .i64 b12.bg.aR.aw,.int .i64 b12.bg.aR.bM,.str b12.bg.aR.bl,.ms 104 13 0 kP.length]),(104,.rows true 84 13 (fV kP))]⟩
def I0 (b0:ak) (b8 b12:an) (kP:Wq7):LS:=⟨[(8,.loc 8 0),(12,.loc 12 0)],[(0,.flat 74 (bQ b0)),(8,.flat 84 [.int .i64 b8.fOp,.int .i64 b8.gM,.int .i64 b8.bz.aw,.int .i64 b8.bz.bP,.int .i64 b8.bz.aR.aw,.int .i64 b8.bz.aR.bM,.str b8.bz.aR.bl,.int .i64 b8.bg.aw,.int .i64 b8.bg.bP,.int .i64 b8.bg.aR.aw,.int .i64 b8.bg.aR.bM,.str b8.bg.aR.bl,.aU]),(12,.flat 84 [.int .i64 b12.fOp,.int .i64 b12.gM,.int .i64 b12.bz.aw,.int .i64 b12.bz.bP,.int .i64 b12.bz.aR.aw,.int .i64 b12.bz.aR.bM,.str b12.bz.aR.bl,.int .i64 b12.bg.aw,.int .i64 b12.bg.bP,.int .i64 b12.bg.aR.aw,.int .i64 b12.bg.aR.bM,.str b12.bg.aR.bl,.ms 104 13 0 kP.length]),(104,.rows true 84 13 (fV kP))]⟩
def afs (aV params2:Wq0) (dI op9:Int) (t27:Bool) (b0:ak) (b8:an):LS:=⟨[(0,.loc 0 0),(1,.slx 3 1 (ba aV)),(2,.slx 3 1 (ba params2)),(3,.int .i64 dI),(8,.loc 8 0),(9,.int .i64 op9),(27,.bool t27)],[(0,.flat 74 (bQ b0)),(8,.flat 84 [.int .i64 0,.int .i64 0,.int .i64 0,.int .i64 0,.int .i64 0,.int .i64 0,.str ByteArray.empty,.int .i64 0,.int .i64 0,.int .i64 0,.int .i64 0,.str ByteArray.empty,.aU])]⟩
def j4 (c0:ak) (aV params2:Wq0) (dI:Int):LS:=⟨[(0,.loc 0 0),(1,.slx 3 1 (ba aV)),(2,.slx 3 1 (ba params2)),(3,.int .i64 dI)],[(0,.flat 74 (bQ c0))]⟩
def Co (dq:ak->Wq0->Wq0->Int->Option (an×ak)) (n:Nat) (b0:ak) (b8 b11:an):Option (an×ak):=
 (F29 n b0 6).bind fun x2=>if x2.1 then
 some ((an.mk 3 b11.gM b11.bg b11.bz []),x2.2)
 else
 some ((an.mk 3 b11.gM b11.bz b11.bg []),x2.2)
theorem adG {dq} (gj:K4 C72 j4 dq) (n:Nat):K3 (A72 [1,1,1,1,0,1,1,1,0,0,1,1]) afu (Co dq n):=fun b0 b8 b11 r h=>be h fun x2 hx2 h=>ie h (fun c0_ h=>rr h [(1,.call (cb (fC n hx2) c0_) [] [(0,0)] []),(10,.norm [] [(8,.flat [.same,.same,.same,.same,.same,.same,.same,.same,.same,.same,.same,.same,.sl 84 13])])]) (fun c0_ h=>rr h [(1,.call (cb (fC n hx2) c0_) [] [(0,0)] []),(2,.norm [] [(8,.flat [.same,.same,.same,.same,.same,.same,.same,.same,.same,.same,.same,.same,.sl 84 13])])])
def Cn (dq:ak->Wq0->Wq0->Int->Option (an×ak)) (n:Nat) (aV params2:Wq0) (s8:Int) (b0:ak) (b8:an):Option (an×ak):=
 (F24 n b0 6).bind fun x2=>(SR n x2.2 aV params2 s8).bind fun x9=>(F74 n x9.2 s8).bind fun x13=>(F29 n x13.2 3).bind fun x20=>if x20.1 then
 (SR n x20.2 aV params2 s8).bind fun x26=>Co dq n x26.2 (an.mk 0 0 (aH.mk 0 0 (aI.mk 0 0 ByteArray.empty)) (aH.mk 0 0 (aI.mk 0 0 ByteArray.empty)) []) (an.mk 3 (w64 (1+x2.1)) x9.1 x26.1 [])
 else
 Co dq n x20.2 (an.mk 0 0 (aH.mk 0 0 (aI.mk 0 0 ByteArray.empty)) (aH.mk 0 0 (aI.mk 0 0 ByteArray.empty)) []) (an.mk 3 (w64 (1+x2.1)) x9.1 (aH.mk 3 0 x13.1) [])
theorem adF {dq} (gj:K4 C72 j4 dq) (n:Nat):K5 (A72 [1,1,0,1,1,1,0,0,1,1]) aft (Cn dq n):=fun aV params2 s8 b0 b8 r h=>be h fun x2 hx2 h=>be h fun x9 hx9 h=>be h fun x13 bH h=>be h fun x20 kM h=>ie h (fun c0_ h=>be h fun x26 kb h=>ra (adG gj n h) [(1,.call (bU n hx2) [] [(0,0)] []),(5,.call (RU n hx9) [] [(0,0)] []),(2,.call (LH n bH) [] [(0,0)] []),(5,.call (cb (fC n kM) c0_) [] [(0,0)] []),(4,.call (RU n kb) [] [(0,0)] [])]) (fun c0_ h=>ra (adG gj n h) [(1,.call (bU n hx2) [] [(0,0)] []),(5,.call (RU n hx9) [] [(0,0)] []),(2,.call (LH n bH) [] [(0,0)] []),(5,.call (cb (fC n kM) c0_) [] [(0,0)] [])])
def G6 (dq:ak->Wq0->Wq0->Int->Option (an×ak)) (k_3:Wf4) (back:Wq0->Wq0->Int->Int->ak->an->an->Wq7->Option (an×ak)) (n:Nat) (aV params2:Wq0) (dI n13:Int) (b0:ak) (b8 b12:an) (kP:Wq7):Option (an×ak):=
 if !decide (n13<0) then
 (dq b0 aV params2 (w64 (dI - 1))).bind fun x10=>(app kP [x10.1]).bind fun x13=>back aV params2 dI (w64 (n13 - 1)) x10.2 (an.mk b8.fOp b8.gM b8.bz b8.bg []) (an.mk b12.fOp b12.gM b12.bz b12.bg x13) x13
 else
 k_3 b0 (an.mk b8.fOp b8.gM b8.bz b8.bg []) (an.mk b12.fOp b12.gM b12.bz b12.bg kP) kP
theorem ajO {dq} (gj:K4 C72 j4 dq) {k_3} (bu:K4 (A72 [1,1,1,1,1]) I0 k_3) {back} (ay:K8 (A72 [0,1,0,1,1,1,1]) I1 back) (n:Nat):K8 (A72 [0,1,0,1,1,1,1]) I1 (G6 dq k_3 back n):=fun aV params2 dI n13 b0 b8 b12 kP r h=>ie h (fun c0_ h=>be h fun x10 cw h=>be h fun x13 bH h=>ra (ay h) [(1,eb c0_),(7,.call (gj cw) [] [(0,0)] []),(0,.laid (congrArg (fun q_=>Bx.rows false 84 13 q_) (R83.map [x10.1]).symm)),(0,R83.app bH (R83.srW [x10.1]))]) (fun c0_ h=>ra (bu h) [(1,eb c0_)])
def yn (dq:ak->Wq0->Wq0->Int->Option (an×ak)) (k_3:Wf4):Nat->Wq0->Wq0->Int->Int->ak->an->an->Wq7->Option (an×ak)
 |0,_,_,_,_,_,_,_,_=>none
 |n+1,aV,params2,dI,n13,b0,b8,b12,kP=>G6 dq k_3 (yn dq k_3 n) n aV params2 dI n13 b0 b8 b12 kP
theorem acp {dq} (gj:K4 C72 j4 dq) {k_3} (bu:K4 (A72 [1,1,1,1,1]) I0 k_3):∀n:Nat,K8 (A72 [0,1,0,1,1,1,1]) I1 (yn dq k_3 n)
 |0=>fun _ _ _ _ _ _ _ _ _ h=>nz h
 |n+1=>fun _ _ _ _ _ _ _ _ _ h=>ajO gj bu (acp gj bu n) n h
def G5 (dq:ak->Wq0->Wq0->Int->Option (an×ak)) (n:Nat) (b0:ak) (b8 b12:an) (kP:Wq7):Option (an×ak):=
 some ((an.mk b12.fOp b12.gM b12.bz b12.bg kP),b0)
theorem ajN {dq} (gj:K4 C72 j4 dq) (n:Nat):K4 (A72 [1,1,1,1,1]) I0 (G5 dq n):=fun b0 b8 b12 kP r h=>rr h [(2,R83.frz 104 kP),(0,.norm [] [(8,.flat [.same,.same,.same,.same,.same,.same,.same,.same,.same,.same,.same,.same,.sl 0 0])])]
def py (dq:ak->Wq0->Wq0->Int->Option (an×ak)) (n:Nat) (aV params2:Wq0) (dI op9:Int) (t27:Bool) (b0:ak) (b8:an):Option (an×ak):=
 if t27 then
 if decide (0<(aV.length:Int)) then
 (F24 n b0 (aV.length:Int)).bind fun x9=>(idx aV x9.1).bind fun x11=>Cn dq n aV params2 x11 x9.2 (an.mk 0 0 (aH.mk 0 0 (aI.mk 0 0 ByteArray.empty)) (aH.mk 0 0 (aI.mk 0 0 ByteArray.empty)) [])
 else
 Cn dq n aV params2 4 b0 (an.mk 0 0 (aH.mk 0 0 (aI.mk 0 0 ByteArray.empty)) (aH.mk 0 0 (aI.mk 0 0 ByteArray.empty)) [])
 else
 if op9==6 then
 (dq b0 aV params2 (w64 (dI - 1))).bind fun x9=>some ((an.mk 6 0 (aH.mk 0 0 (aI.mk 0 0 ByteArray.empty)) (aH.mk 0 0 (aI.mk 0 0 ByteArray.empty)) [x9.1]),x9.2)
 else
 (F24 n b0 3).bind fun x11=>yn dq (G5 dq n) n aV params2 dI x11.1 x11.2 (an.mk 0 0 (aH.mk 0 0 (aI.mk 0 0 ByteArray.empty)) (aH.mk 0 0 (aI.mk 0 0 ByteArray.empty)) []) (an.mk (w64 ((w64 (4+op9)) - 7)) 0 (aH.mk 0 0 (aI.mk 0 0 ByteArray.empty)) (aH.mk 0 0 (aI.mk 0 0 ByteArray.empty)) []) []
theorem GA {dq} (gj:K4 C72 j4 dq) (n:Nat):K7 (A72 [1,1,1,0,0,1,1]) afs (py dq n):=fun aV params2 dI op9 t27 b0 b8 r h=>ie h (fun c0_ g0=>by subst c0_;exact (
 ie g0 (fun c1 g0=>be g0 fun x9 hx9 g0=>be g0 fun x11 cu g0=>ra (adF gj n g0) [(2,.eqv (R3.ax aV)),(0,eb c1),(3,.eqv (R3.ax aV)),(0,.call (bU n hx9) [] [(0,0)] []),(0,R3.idx cu)]) (fun c1 g0=>ra (adF gj n g0) [(2,.eqv (R3.ax aV)),(0,eb c1)]))) (fun c0_ g0=>by subst c0_;exact (
 ie g0 (fun c1 g0=>be g0 fun x9 hx9 g0=>rr g0 [(1,eb c1),(6,.call (gj hx9) [] [(0,0)] []),(0,.laid (congrArg (fun q_=>Bx.rows false 84 13 q_) (R83.map [x9.1]).symm)),(2,R83.frz 83 [x9.1])]) (fun c1 g0=>be g0 fun x11 cu g0=>ra (acp gj (ajN gj n) n g0) [(1,eb c1),(8,.call (bU n cu) [] [(0,0)] []),(1,.born [] [(12,12)] 104 true 84 13)])))
def S8 (dq:ak->Wq0->Wq0->Int->Option (an×ak)) (n:Nat) (c0:ak) (aV params2:Wq0) (dI:Int):Option (an×ak):=
 (F24 n c0 9).bind fun x3=>if x3.1==0 then
 (F29 n x3.2 2).bind fun x10=>if x10.1 then
 (F24 n x10.2 2).bind fun x15=>some ((an.mk (w64 (1+x15.1)) 0 (aH.mk 0 0 (aI.mk 0 0 ByteArray.empty)) (aH.mk 0 0 (aI.mk 0 0 ByteArray.empty)) []),x15.2)
 else
 if decide (x3.1<6) then
 py dq n aV params2 dI x3.1 true x10.2 (an.mk 0 0 (aH.mk 0 0 (aI.mk 0 0 ByteArray.empty)) (aH.mk 0 0 (aI.mk 0 0 ByteArray.empty)) [])
 else
 py dq n aV params2 dI x3.1 (decide (dI<1)) x10.2 (an.mk 0 0 (aH.mk 0 0 (aI.mk 0 0 ByteArray.empty)) (aH.mk 0 0 (aI.mk 0 0 ByteArray.empty)) [])
 else
 if decide (x3.1<6) then
 py dq n aV params2 dI x3.1 true x3.2 (an.mk 0 0 (aH.mk 0 0 (aI.mk 0 0 ByteArray.empty)) (aH.mk 0 0 (aI.mk 0 0 ByteArray.empty)) [])
 else
 py dq n aV params2 dI x3.1 (decide (dI<1)) x3.2 (an.mk 0 0 (aH.mk 0 0 (aI.mk 0 0 ByteArray.empty)) (aH.mk 0 0 (aI.mk 0 0 ByteArray.empty)) [])
theorem ajM {dq} (gj:K4 C72 j4 dq) (n:Nat):K4 (A72 []) j4 (S8 dq n):=fun c0 aV params2 dI r h=>be h fun x3 hx3 h=>ie h (fun c0_ h=>be h fun x10 cw h=>ie h (fun c1 h=>be h fun x15 cA h=>rr h [(2,.call (bU n hx3) [] [(0,0)] []),(2,eb c0_),(2,.call (cb (fC n cw) c1) [] [(0,0)] []),(3,.call (bU n cA) [] [(0,0)] []),(3,.norm [] [(8,.flat [.same,.same,.same,.same,.same,.same,.same,.same,.same,.same,.same,.same,.sl 84 13])])]) (fun c1 h=>ie h (fun c2 h=>ra (GA gj n h) [(2,.call (bU n hx3) [] [(0,0)] []),(2,eb c0_),(2,.call (cb (fC n cw) c1) [] [(0,0)] []),(3,eb c2)]) (fun c2 h=>ra (GA gj n h) [(2,.call (bU n hx3) [] [(0,0)] []),(2,eb c0_),(2,.call (cb (fC n cw) c1) [] [(0,0)] []),(3,eb c2)]))) (fun c0_ h=>ie h (fun c1 h=>ra (GA gj n h) [(2,.call (bU n hx3) [] [(0,0)] []),(2,eb c0_),(4,eb c1)]) (fun c1 h=>ra (GA gj n h) [(2,.call (bU n hx3) [] [(0,0)] []),(2,eb c0_),(4,eb c1)]))
def F72:Nat->ak->Wq0->Wq0->Int->Option (an×ak)
 |0,_,_,_,_=>none
 |n+1,c0,aV,params2,dI=>S8 (F72 n) n c0 aV params2 dI
theorem RI:∀n:Nat,K4 C72 j4 (F72 n)
 |0=>fun _ _ _ _ _ h=>nz h
 |n+1=>fun _ _ _ _ _ h=>ca (X:=x72) (ajM (RI n) n h)
def UW (r:Bool):AV:=.bool r
def OZ (r:Bool):List (Nat×Bx):= []
def x113:=fx E0 Tryz.f113 [] []
def A113:=Ax x113 UW OZ
def C113:=Cx E0 113 UW OZ
def Ox (k0:Int):LS:=⟨[(0,.int .i64 k0)],[]⟩
def Nq (n:Nat) (k0:Int):Option Bool:=
 if k0==3 then
 some true
 else
 if k0==4 then
 some true
 else
 some (k0==5)
theorem agF (n:Nat):K1 (A113 []) Ox (Nq n):=fun k0 r h=>ie h (fun c0 h=>rr h [(2,eb c0)]) (fun c0 h=>ie h (fun c1 h=>rr h [(2,eb c0),(2,eb c1)]) (fun c1 h=>rr h [(2,eb c0),(2,eb c1)]))
def M1 (n:Nat) (k0:Int):Option Bool:=Nq n k0
theorem Gk (n:Nat):K1 C113 Ox (M1 n):=fun _ _ h=>ca (X:=x113) (agF n h)
def U7 (r:Bool):AV:=.bool r
def Pa (r:Bool):List (Nat×Bx):= []
def x102:=fx E0 Tryz.f102 [] []
def Aw:=Ax x102 U7 Pa
def C102:=Cx E0 102 U7 Pa
def pI (t5:Wq0) (t6 t7:Int):LS:=⟨[(5,.slx 3 1 (ba t5)),(6,.int .i64 t6),(7,.int .i64 t7)],[]⟩
def Dn:LS:=⟨[],[]⟩
def Oz (l0:Wq0):LS:=⟨[(0,.slx 3 1 (ba l0))],[]⟩
def CP (k_1:Option Bool) (back:Wq0->Int->Int->Option Bool) (n:Nat) (t5:Wq0) (t6 t7:Int):Option Bool:=
 if decide (t7<t6) then
 (idx t5 t7).bind fun x2=>(M1 n x2).bind fun x7=>if !x7 then
 some false
 else
 back t5 t6 (w64 (t7+1))
 else
 k_1
theorem aho {k_1} (aD:K0 (Aw [1,1]) Dn k_1) {back} (ay:K3 (Aw [0,1,0,1]) pI back) (n:Nat):K3 (Aw [0,1,0,1]) pI (CP k_1 back n):=fun t5 t6 t7 r h=>ie h (fun c0 h=>be h fun x2 hx2 h=>be h fun x7 hx7 h=>ie h (fun c1 h=>rr h [(0,eb c0),(0,R3.idx hx2),(3,.call (Gk n hx7) [] [] []),(0,eb c1)]) (fun c1 h=>ra (ay h) [(0,eb c0),(0,R3.idx hx2),(3,.call (Gk n hx7) [] [] []),(0,eb c1)])) (fun c0 h=>ra (aD h) [(0,eb c0)])
def tv (k_1:Option Bool):Nat->Wq0->Int->Int->Option Bool
 |0,_,_,_=>none
 |n+1,t5,t6,t7=>CP k_1 (tv k_1 n) n t5 t6 t7
theorem WR {k_1} (aD:K0 (Aw [1,1]) Dn k_1):∀n:Nat,K3 (Aw [0,1,0,1]) pI (tv k_1 n)
 |0=>fun _ _ _ _ h=>nz h
 |n+1=>fun _ _ _ _ h=>aho aD (WR aD n) n h
def NF (n:Nat):Option Bool:=
 some true
theorem ahn (n:Nat):K0 (Aw [1,1]) Dn (NF n):=fun r h=>rr h []
def ND (n:Nat) (l0:Wq0):Option Bool:=
 tv (NF n) n l0 (l0.length:Int) 0
theorem ahm (n:Nat):K1 (Aw []) Oz (ND n):=fun l0 r h=>ra (WR (ahn n) n h) [(2,.eqv (R3.ax l0))]
def M6 (n:Nat) (l0:Wq0):Option Bool:=ND n l0
theorem mA (n:Nat):K1 C102 Oz (M6 n):=fun _ _ h=>ca (X:=x102) (ahm n h)
def U6 (r:Int):AV:=.int .i64 r
def O9 (r:Int):List (Nat×Bx):= []
def x103:=fx E0 Tryz.f103 [] []
def Av:=Ax x103 U6 O9
def M9:=Cx E0 103 U6 O9
def Dl (n1 i5:Int) (b2:an):LS:=⟨[(1,.int .i64 n1),(2,.loc 2 0),(5,.int .i64 i5)],[(2,.flat 84 (iH b2))]⟩
def Dk (n1:Int):LS:=⟨[(1,.int .i64 n1)],[]⟩
def ib (p0:an) (n1:Int):LS:=⟨[(0,.agg (iH p0)),(1,.int .i64 n1)],[]⟩
def CO (gh:an->Int->Option Int) (k_1:Wf5) (back:Int->Int->an->Option Int) (n:Nat) (n1 i5:Int) (b2:an):Option Int:=
 if decide (i5<(b2.fArgs.length:Int)) then
 if !decide (24<n1) then
 (idx b2.fArgs i5).bind fun x13=>(gh x13 n1).bind fun x17=>back x17 (w64 (i5+1)) b2
 else
 k_1 n1
 else
 k_1 n1
theorem ahl {gh} (nZ:K2 M9 ib gh) {k_1} (aD:K1 (Av [1,1,1]) Dk k_1) {back} (ay:K3 (Av [0,1,0,1,1]) Dl back) (n:Nat):K3 (Av [0,1,0,1,1]) Dl (CO gh k_1 back n):=fun n1 i5 b2 r h=>ie h (fun c0 h=>ie h (fun c1 h=>be h fun x13 bH h=>be h fun x17 gy h=>ra (ay h) [(3,.eqv (R83.ax b2.fArgs)),(0,eb c0),(2,eb c1),(4,R83.idx bH),(2,.call (nZ gy) [] [] [])]) (fun c1 h=>ra (aD h) [(3,.eqv (R83.ax b2.fArgs)),(0,eb c0),(2,eb c1)])) (fun c0 h=>ra (aD h) [(3,.eqv (R83.ax b2.fArgs)),(0,eb c0)])
def tu (gh:an->Int->Option Int) (k_1:Wf5):Nat->Int->Int->an->Option Int
 |0,_,_,_=>none
 |n+1,n1,i5,b2=>CO gh k_1 (tu gh k_1 n) n n1 i5 b2
theorem WQ {gh} (nZ:K2 M9 ib gh) {k_1} (aD:K1 (Av [1,1,1]) Dk k_1):∀n:Nat,K3 (Av [0,1,0,1,1]) Dl (tu gh k_1 n)
 |0=>fun _ _ _ _ h=>nz h
 |n+1=>fun _ _ _ _ h=>ahl nZ aD (WQ nZ aD n) n h
def X1 (gh:an->Int->Option Int) (n:Nat) (n1:Int):Option Int:=
 some n1
theorem ahk {gh} (nZ:K2 M9 ib gh) (n:Nat):K1 (Av [1,1,1]) Dk (X1 gh n):=fun n1 r h=>rr h []
def NC (gh:an->Int->Option Int) (n:Nat) (p0:an) (n1:Int):Option Int:=
 tu gh (X1 gh n) n (w64 (n1+1)) 0 p0
theorem ahj {gh} (nZ:K2 M9 ib gh) (n:Nat):K2 (Av []) ib (NC gh n):=fun p0 n1 r h=>ra (WQ nZ (ahk nZ n) n h) []
def EG:Nat->an->Int->Option Int
 |0,_,_=>none
 |n+1,p0,n1=>NC (EG n) n p0 n1
theorem BS:∀n:Nat,K2 M9 ib (EG n)
 |0=>fun _ _ _ h=>nz h
 |n+1=>fun _ _ _ h=>ca (X:=x103) (ahj (BS n) n h)
def U5 (r:Bool):AV:=.bool r
def O8 (r:Bool):List (Nat×Bx):= []
def x104:=fx E0 Tryz.f104 [] []
def Au:=Ax x104 U5 O8
def M8:=Cx E0 104 U5 O8
def Dj (n1 t10 t11:Int) (b2:an):LS:=⟨[(1,.int .i64 n1),(2,.loc 2 0),(10,.int .i64 t10),(11,.int .i64 t11)],[(2,.flat 84 (iH b2))]⟩
def Di:LS:=⟨[],[]⟩
def CN (gg:an->Int->Option Bool) (k_1:Option Bool) (back:Int->Int->Int->an->Option Bool) (n:Nat) (n1 t10 t11:Int) (b2:an):Option Bool:=
 if decide (t11<t10) then
 (idx b2.fArgs t11).bind fun x7=>(gg x7 (w64 (n1 - 1))).bind fun x12=>if x12 then
 some true
 else
 back n1 t10 (w64 (t11+1)) b2
 else
 k_1
theorem ahi {gg} (mq:K2 M8 ib gg) {k_1} (aD:K0 (Au [1,1,1]) Di k_1) {back} (ay:K4 (Au [0,1,0,1,1]) Dj back) (n:Nat):K4 (Au [0,1,0,1,1]) Dj (CN gg k_1 back n):=fun n1 t10 t11 b2 r h=>ie h (fun c0 h=>be h fun x7 hx7 h=>be h fun x12 cM h=>ie h (fun c1 g0=>by subst c1;exact (
 rr g0 [(0,eb c0),(5,R83.idx hx7),(3,.call (mq cM) [] [] [])])) (fun c1 g0=>by subst c1;exact (
 ra (ay g0) [(0,eb c0),(5,R83.idx hx7),(3,.call (mq cM) [] [] [])]))) (fun c0 h=>ra (aD h) [(0,eb c0)])
def tr (gg:an->Int->Option Bool) (k_1:Option Bool):Nat->Int->Int->Int->an->Option Bool
 |0,_,_,_,_=>none
 |n+1,n1,t10,t11,b2=>CN gg k_1 (tr gg k_1 n) n n1 t10 t11 b2
theorem WO {gg} (mq:K2 M8 ib gg) {k_1} (aD:K0 (Au [1,1,1]) Di k_1):∀n:Nat,K4 (Au [0,1,0,1,1]) Dj (tr gg k_1 n)
 |0=>fun _ _ _ _ _ h=>nz h
 |n+1=>fun _ _ _ _ _ h=>ahi mq aD (WO mq aD n) n h
def NB (gg:an->Int->Option Bool) (n:Nat):Option Bool:=
 some false
theorem ahh {gg} (mq:K2 M8 ib gg) (n:Nat):K0 (Au [1,1,1]) Di (NB gg n):=fun r h=>rr h []
def CM (gg:an->Int->Option Bool) (n:Nat) (p0:an) (n1:Int):Option Bool:=
 if n1==0 then
 some true
 else
 tr gg (NB gg n) n n1 (p0.fArgs.length:Int) 0 p0
theorem ahg {gg} (mq:K2 M8 ib gg) (n:Nat):K2 (Au []) ib (CM gg n):=fun p0 n1 r h=>ie h (fun c0 h=>rr h [(3,eb c0)]) (fun c0 h=>ra (WO mq (ahh mq n) n h) [(3,eb c0),(2,.eqv (R83.ax p0.fArgs))])
def xc:Nat->an->Int->Option Bool
 |0,_,_=>none
 |n+1,p0,n1=>CM (xc n) n p0 n1
theorem Gm:∀n:Nat,K2 M8 ib (xc n)
 |0=>fun _ _ _ h=>nz h
 |n+1=>fun _ _ _ h=>ca (X:=x104) (ahg (Gm n) n h)
def UQ (r:Bool):AV:=.bool r
def OU (r:Bool):List (Nat×Bx):= []
def x124:=fx E0 Tryz.f124 [] []
def A124:=Ax x124 UQ OU
def C124:=Cx E0 124 UQ OU
def Ow (p0:an):LS:=⟨[(0,.agg (iH p0))],[]⟩
def Nl (n:Nat) (p0:an):Option Bool:=
 if p0.gM==0 then
 if ((p0.bz.aw==0) && ((p0.bz.bP==0) && (((p0.bz.aR.aw==0) && ((p0.bz.aR.bM==0) && ((decide (p0.bz.aR.bl=ByteArray.empty)) && true))) && true))) then
 some ((p0.bg.aw==0) && ((p0.bg.bP==0) && (((p0.bg.aR.aw==0) && ((p0.bg.aR.bM==0) && ((decide (p0.bg.aR.bl=ByteArray.empty)) && true))) && true)))
 else
 some false
 else
 some false
theorem agA (n:Nat):K1 (A124 []) Ow (Nl n):=fun p0 r h=>ie h (fun c0 h=>ie h (fun c1 h=>rr h [(4,eb c0),(4,eb c1)]) (fun c1 h=>rr h [(4,eb c0),(4,eb c1)])) (fun c0 h=>rr h [(4,eb c0)])
def ED (n:Nat) (p0:an):Option Bool:=Nl n p0
theorem xN (n:Nat):K1 C124 Ow (ED n):=fun _ _ h=>ca (X:=x124) (agA n h)
def aaF (r:Bool):AV:=.bool r
def Vj (r:Bool):List (Nat×Bx):= []
def x88:=fx E0 Tryz.f88 [] []
def A88:=Ax x88 aaF Vj
def C88:=Cx E0 88 aaF Vj
def nO (v0:aI):LS:=⟨[(0,.agg (iW v0))],[]⟩
def SX (n:Nat) (v0:aI):Option Bool:=
 if v0.aw==1 then
 if v0.bM==0 then
 some (decide (v0.bl=ByteArray.empty))
 else
 some false
 else
 if v0.aw==2 then
 if v0.bM==0 then
 some (decide (v0.bl=ByteArray.empty))
 else
 some false
 else
 if v0.aw==3 then
 if v0.bM==0 then
 some (decide (v0.bl=ByteArray.empty))
 else
 if v0.bM==1 then
 some (decide (v0.bl=ByteArray.empty))
 else
 some false
 else
 if v0.aw==4 then
 some (decide (v0.bl=ByteArray.empty))
 else
 if v0.aw==5 then
 if v0.bM==0 then
 some (!decide (64<(v0.bl.size:Int)))
 else
 some false
 else
 some false
theorem aiS (n:Nat):K1 (A88 []) nO (SX n):=fun v0 r h=>ie h (fun c0 h=>ie h (fun c1 h=>rr h [(4,eb c0),(3,eb c1)]) (fun c1 h=>rr h [(4,eb c0),(3,eb c1)])) (fun c0 h=>ie h (fun c1 h=>ie h (fun c2 h=>rr h [(4,eb c0),(1,eb c1),(3,eb c2)]) (fun c2 h=>rr h [(4,eb c0),(1,eb c1),(3,eb c2)])) (fun c1 h=>ie h (fun c2 h=>ie h (fun c3 h=>rr h [(4,eb c0),(1,eb c1),(1,eb c2),(3,eb c3)]) (fun c3 h=>ie h (fun c4 h=>rr h [(4,eb c0),(1,eb c1),(1,eb c2),(3,eb c3),(3,eb c4)]) (fun c4 h=>rr h [(4,eb c0),(1,eb c1),(1,eb c2),(3,eb c3),(3,eb c4)]))) (fun c2 h=>ie h (fun c3 h=>rr h [(4,eb c0),(1,eb c1),(1,eb c2),(1,eb c3)]) (fun c3 h=>ie h (fun c4 h=>ie h (fun c5 h=>rr h [(4,eb c0),(1,eb c1),(1,eb c2),(1,eb c3),(1,eb c4),(3,eb c5)]) (fun c5 h=>rr h [(4,eb c0),(1,eb c1),(1,eb c2),(1,eb c3),(1,eb c4),(3,eb c5)])) (fun c4 h=>rr h [(4,eb c0),(1,eb c1),(1,eb c2),(1,eb c3),(1,eb c4)])))))
def F88 (n:Nat) (v0:aI):Option Bool:=SX n v0
theorem jg (n:Nat):K1 C88 nO (F88 n):=fun _ _ h=>ca (X:=x88) (aiS n h)
def UK (r:Bool):AV:=.bool r
def ON (r:Bool):List (Nat×Bx):= []
def x140:=fx E0 Tryz.f140 [] []
def A140:=Ax x140 UK ON
def C140:=Cx E0 140 UK ON
def Nf (n:Nat) (v0:aI):Option Bool:=
 (F88 n v0).bind fun x4=>if x4 then
 some (!decide (v0.aw<3))
 else
 some false
theorem agu (n:Nat):K1 (A140 []) nO (Nf n):=fun v0 r h=>be h fun x4 hx4 h=>ie h (fun c0 g0=>by subst c0;exact (
 rr g0 [(3,.call (jg n hx4) [] [] [])])) (fun c0 g0=>by subst c0;exact (
 rr g0 [(3,.call (jg n hx4) [] [] [])]))
def SH (n:Nat) (v0:aI):Option Bool:=Nf n v0
theorem adt (n:Nat):K1 C140 nO (SH n):=fun _ _ h=>ca (X:=x140) (agu n h)
def UP (r:Int):AV:=.int .i64 r
def OT (r:Int):List (Nat×Bx):= []
def x125:=fx E0 Tryz.f125 [] []
def A125:=Ax x125 UP OT
def C125:=Cx E0 125 UP OT
def aee (ri:Wq0) (b5:aH):LS:=⟨[(5,.loc 5 0),(7,.slx 3 1 (ba ri))],[(5,.flat 82 (lr b5))]⟩
def Ov (aQ params1:Wq0) (o2:aH):LS:=⟨[(0,.slx 3 1 (ba aQ)),(1,.slx 3 1 (ba params1)),(2,.agg (lr o2))],[]⟩
def xg (n:Nat) (ri:Wq0) (b5:aH):Option Int:=
 if decide (b5.bP<0) then
 some 0
 else
 if !decide (b5.bP<(ri.length:Int)) then
 some 0
 else
 if !((b5.aR.aw==0) && ((b5.aR.bM==0) && ((decide (b5.aR.bl=ByteArray.empty)) && true))) then
 some 0
 else
 (idx ri b5.bP).bind fun x20=>some x20
theorem Xs (n:Nat):K2 (A125 [1,1,1]) aee (xg n):=fun ri b5 r h=>ie h (fun c0 h=>rr h [(2,eb c0)]) (fun c0 h=>ie h (fun c1 h=>rr h [(2,eb c0),(4,.eqv (R3.ax ri)),(0,eb c1)]) (fun c1 h=>ie h (fun c2 h=>rr h [(2,eb c0),(4,.eqv (R3.ax ri)),(0,eb c1),(5,eb c2)]) (fun c2 h=>be h fun x20 kM h=>rr h [(2,eb c0),(4,.eqv (R3.ax ri)),(0,eb c1),(5,eb c2),(4,R3.idx kM)])))
def Nk (n:Nat) (aQ params1:Wq0) (o2:aH):Option Int:=
 if o2.aw==3 then
 if o2.bP !=0 then
 some 0
 else
 (SH n o2.aR).bind fun x15=>if !x15 then
 some 0
 else
 some o2.aR.aw
 else
 if o2.aw==2 then
 xg n params1 o2
 else
 if o2.aw==1 then
 xg n aQ o2
 else
 some 0
theorem agz (n:Nat):K3 (A125 []) Ov (Nk n):=fun aQ params1 o2 r h=>ie h (fun c0 h=>ie h (fun c1 h=>rr h [(6,eb c0),(3,eb c1)]) (fun c1 h=>be h fun x15 cA h=>ie h (fun c2 h=>rr h [(6,eb c0),(3,eb c1),(3,.call (adt n cA) [] [] []),(0,eb c2)]) (fun c2 h=>rr h [(6,eb c0),(3,eb c1),(3,.call (adt n cA) [] [] []),(0,eb c2)]))) (fun c0 h=>ie h (fun c1 h=>ra (Xs n h) [(6,eb c0),(1,eb c1)]) (fun c1 h=>ie h (fun c2 h=>ra (Xs n h) [(6,eb c0),(1,eb c1),(1,eb c2)]) (fun c2 h=>rr h [(6,eb c0),(1,eb c1),(1,eb c2)])))
def M0 (n:Nat) (aQ params1:Wq0) (o2:aH):Option Int:=Nk n aQ params1 o2
theorem xM (n:Nat):K3 C125 Ov (M0 n):=fun _ _ _ _ h=>ca (X:=x125) (agz n h)
def U4 (r:Bool):AV:=.bool r
def O7 (r:Bool):List (Nat×Bx):= []
def x105:=fx E0 Tryz.f105 [] []
def xl:=Ax x105 U4 O7
def EI:=Cx E0 105 U4 O7
def Dh (aQ params1:Wq0) (t70 t71:Int) (b5:an):LS:=⟨[(0,.slx 3 1 (ba aQ)),(1,.slx 3 1 (ba params1)),(5,.loc 5 0),(70,.int .i64 t70),(71,.int .i64 t71)],[(5,.flat 84 (iH b5))]⟩
def Dg:LS:=⟨[],[]⟩
def aej (aQ params1:Wq0) (b5:an):LS:=⟨[(0,.slx 3 1 (ba aQ)),(1,.slx 3 1 (ba params1)),(5,.loc 5 0)],[(5,.flat 84 (iH b5))]⟩
def iY (aQ params1:Wq0) (p2:an):LS:=⟨[(0,.slx 3 1 (ba aQ)),(1,.slx 3 1 (ba params1)),(2,.agg (iH p2))],[]⟩
def CL (dV:Wq0->Wq0->an->Option Bool) (k_1:Option Bool) (back:Wq0->Wq0->Int->Int->an->Option Bool) (n:Nat) (aQ params1:Wq0) (t70 t71:Int) (b5:an):Option Bool:=
 if decide (t71<t70) then
 (idx b5.fArgs t71).bind fun x9=>(dV aQ params1 x9).bind fun x12=>if !x12 then
 some false
 else
 back aQ params1 t70 (w64 (t71+1)) b5
 else
 k_1
theorem ahf {dV} (jd:K3 EI iY dV) {k_1} (aD:K0 (xl [1,1,1,1]) Dg k_1) {back} (ay:K5 (xl [0,1,0,1,1,1]) Dh back) (n:Nat):K5 (xl [0,1,0,1,1,1]) Dh (CL dV k_1 back n):=fun aQ params1 t70 t71 b5 r h=>ie h (fun c0 h=>be h fun x9 hx9 h=>be h fun x12 cM h=>ie h (fun c1 h=>rr h [(0,eb c0),(7,R83.idx hx9),(1,.call (jd cM) [] [] []),(0,eb c1)]) (fun c1 h=>ra (ay h) [(0,eb c0),(7,R83.idx hx9),(1,.call (jd cM) [] [] []),(0,eb c1)])) (fun c0 h=>ra (aD h) [(0,eb c0)])
def qL (dV:Wq0->Wq0->an->Option Bool) (k_1:Option Bool):Nat->Wq0->Wq0->Int->Int->an->Option Bool
 |0,_,_,_,_,_=>none
 |n+1,aQ,params1,t70,t71,b5=>CL dV k_1 (qL dV k_1 n) n aQ params1 t70 t71 b5
theorem WN {dV} (jd:K3 EI iY dV) {k_1} (aD:K0 (xl [1,1,1,1]) Dg k_1):∀n:Nat,K5 (xl [0,1,0,1,1,1]) Dh (qL dV k_1 n)
 |0=>fun _ _ _ _ _ _ h=>nz h
 |n+1=>fun _ _ _ _ _ _ h=>ahf jd aD (WN jd aD n) n h
def NA (dV:Wq0->Wq0->an->Option Bool) (n:Nat):Option Bool:=
 some true
theorem ahe {dV} (jd:K3 EI iY dV) (n:Nat):K0 (xl [1,1,1,1]) Dg (NA dV n):=fun r h=>rr h []
def tG (dV:Wq0->Wq0->an->Option Bool) (n:Nat) (aQ params1:Wq0) (b5:an):Option Bool:=
 (ED n b5).bind fun x2=>if !x2 then
 some false
 else
 qL dV (NA dV n) n aQ params1 (b5.fArgs.length:Int) 0 b5
theorem Me {dV} (jd:K3 EI iY dV) (n:Nat):K3 (xl [1,1]) aej (tG dV n):=fun aQ params1 b5 r h=>be h fun x2 hx2 h=>ie h (fun c0 h=>rr h [(1,.call (xN n hx2) [] [] []),(0,eb c0)]) (fun c0 h=>ra (WN jd (ahe jd n) n h) [(1,.call (xN n hx2) [] [] []),(0,eb c0),(2,.eqv (R83.ax b5.fArgs))])
def Nz (dV:Wq0->Wq0->an->Option Bool) (n:Nat) (aQ params1:Wq0) (p2:an):Option Bool:=
 if p2.fOp==1 then
 (ED n p2).bind fun x8=>if x8 then
 some ((p2.fArgs.length:Int)==0)
 else
 some false
 else
 if p2.fOp==2 then
 (ED n p2).bind fun x10=>if x10 then
 some ((p2.fArgs.length:Int)==0)
 else
 some false
 else
 if p2.fOp==3 then
 (M0 n aQ params1 p2.bz).bind fun x15=>if (p2.fArgs.length:Int)==0 then
 if !decide (p2.gM<1) then
 if !decide (6<p2.gM) then
 if x15 !=0 then
 (M0 n aQ params1 p2.bg).bind fun x42=>some (x15==x42)
 else
 some false
 else
 some false
 else
 some false
 else
 some false
 else
 if p2.fOp==4 then
 tG dV n aQ params1 p2
 else
 if p2.fOp==5 then
 tG dV n aQ params1 p2
 else
 if p2.fOp==6 then
 if (p2.fArgs.length:Int) !=1 then
 some false
 else
 tG dV n aQ params1 p2
 else
 some false
theorem ahd {dV} (jd:K3 EI iY dV) (n:Nat):K3 (xl []) iY (Nz dV n):=fun aQ params1 p2 r h=>ie h (fun c0 h=>be h fun x8 hx8 h=>ie h (fun c1 g0=>by subst c1;exact (
 rr g0 [(4,eb c0),(2,.call (xN n hx8) [] [] []),(3,.eqv (R83.ax p2.fArgs))])) (fun c1 g0=>by subst c1;exact (
 rr g0 [(4,eb c0),(2,.call (xN n hx8) [] [] [])]))) (fun c0 h=>ie h (fun c1 h=>be h fun x10 cw h=>ie h (fun c2 g0=>by subst c2;exact (
 rr g0 [(4,eb c0),(1,eb c1),(2,.call (xN n cw) [] [] []),(3,.eqv (R83.ax p2.fArgs))])) (fun c2 g0=>by subst c2;exact (
 rr g0 [(4,eb c0),(1,eb c1),(2,.call (xN n cw) [] [] [])]))) (fun c1 h=>ie h (fun c2 h=>be h fun x15 cA h=>ie h (fun c3 h=>ie h (fun c4 h=>ie h (fun c5 h=>ie h (fun c6 h=>be h fun x42 mZ h=>rr h [(4,eb c0),(1,eb c1),(1,eb c2),(5,.call (xM n cA) [] [] []),(3,.eqv (R83.ax p2.fArgs)),(0,eb c3),(3,eb c4),(4,eb c5),(3,eb c6),(7,.call (xM n mZ) [] [] [])]) (fun c6 h=>rr h [(4,eb c0),(1,eb c1),(1,eb c2),(5,.call (xM n cA) [] [] []),(3,.eqv (R83.ax p2.fArgs)),(0,eb c3),(3,eb c4),(4,eb c5),(3,eb c6)])) (fun c5 h=>rr h [(4,eb c0),(1,eb c1),(1,eb c2),(5,.call (xM n cA) [] [] []),(3,.eqv (R83.ax p2.fArgs)),(0,eb c3),(3,eb c4),(4,eb c5)])) (fun c4 h=>rr h [(4,eb c0),(1,eb c1),(1,eb c2),(5,.call (xM n cA) [] [] []),(3,.eqv (R83.ax p2.fArgs)),(0,eb c3),(3,eb c4)])) (fun c3 h=>rr h [(4,eb c0),(1,eb c1),(1,eb c2),(5,.call (xM n cA) [] [] []),(3,.eqv (R83.ax p2.fArgs)),(0,eb c3)])) (fun c2 h=>ie h (fun c3 h=>ra (Me jd n h) [(4,eb c0),(1,eb c1),(1,eb c2),(1,eb c3)]) (fun c3 h=>ie h (fun c4 h=>ra (Me jd n h) [(4,eb c0),(1,eb c1),(1,eb c2),(1,eb c3),(1,eb c4)]) (fun c4 h=>ie h (fun c5 h=>ie h (fun c6 h=>rr h [(4,eb c0),(1,eb c1),(1,eb c2),(1,eb c3),(1,eb c4),(1,eb c5),(3,.eqv (R83.ax p2.fArgs)),(0,eb c6)]) (fun c6 h=>ra (Me jd n h) [(4,eb c0),(1,eb c1),(1,eb c2),(1,eb c3),(1,eb c4),(1,eb c5),(3,.eqv (R83.ax p2.fArgs)),(0,eb c6)])) (fun c5 h=>rr h [(4,eb c0),(1,eb c1),(1,eb c2),(1,eb c3),(1,eb c4),(1,eb c5)]))))))
def xb:Nat->Wq0->Wq0->an->Option Bool
 |0,_,_,_=>none
 |n+1,aQ,params1,p2=>Nz (xb n) n aQ params1 p2
theorem RT:∀n:Nat,K3 EI iY (xb n)
 |0=>fun _ _ _ _ h=>nz h
 |n+1=>fun _ _ _ _ h=>ca (X:=x105) (ahd (RT n) n h)
def aaU (r:Int):AV:=.int .i64 r
def Vy (r:Int):List (Nat×Bx):= []
def x73:=fx E0 Tryz.f73 [] []
def A73:=Ax x73 aaU Vy
def C73:=Cx E0 73 aaU Vy
def S7 (n:Nat) (aQ params1:Wq0) (p2:an):Option Int:=
 (M6 n aQ).bind fun x4=>if !x4 then
 some 1
 else
 (M6 n params1).bind fun x9=>if !x9 then
 some 1
 else
 (EG n p2 0).bind fun x14=>if decide (24<x14) then
 some 2
 else
 (xc n p2 8).bind fun x19=>if x19 then
 some 2
 else
 (xb n aQ params1 p2).bind fun x25=>if !x25 then
 some 50
 else
 some 0
theorem ajL (n:Nat):K3 (A73 []) iY (S7 n):=fun aQ params1 p2 r h=>be h fun x4 hx4 h=>ie h (fun c0 h=>rr h [(3,.call (mA n hx4) [] [] []),(0,eb c0)]) (fun c0 h=>be h fun x9 hx9 h=>ie h (fun c1 h=>rr h [(3,.call (mA n hx4) [] [] []),(0,eb c0),(2,.call (mA n hx9) [] [] []),(0,eb c1)]) (fun c1 h=>be h fun x14 dU h=>ie h (fun c2 h=>rr h [(3,.call (mA n hx4) [] [] []),(0,eb c0),(2,.call (mA n hx9) [] [] []),(0,eb c1),(2,.call (BS n dU) [] [] []),(0,eb c2)]) (fun c2 h=>be h fun x19 dL h=>ie h (fun c3 g0=>by subst c3;exact (
 rr g0 [(3,.call (mA n hx4) [] [] []),(0,eb c0),(2,.call (mA n hx9) [] [] []),(0,eb c1),(2,.call (BS n dU) [] [] []),(0,eb c2),(2,.call (Gm n dL) [] [] [])])) (fun c3 g0=>by subst c3;exact (
 be g0 fun x25 mn g0=>ie g0 (fun c4 g0=>rr g0 [(3,.call (mA n hx4) [] [] []),(0,eb c0),(2,.call (mA n hx9) [] [] []),(0,eb c1),(2,.call (BS n dU) [] [] []),(0,eb c2),(2,.call (Gm n dL) [] [] []),(4,.call (RT n mn) [] [] []),(0,eb c4)]) (fun c4 g0=>rr g0 [(3,.call (mA n hx4) [] [] []),(0,eb c0),(2,.call (mA n hx9) [] [] []),(0,eb c1),(2,.call (BS n dU) [] [] []),(0,eb c2),(2,.call (Gm n dL) [] [] []),(4,.call (RT n mn) [] [] []),(0,eb c4)]))))))
def F73 (n:Nat) (aQ params1:Wq0) (p2:an):Option Int:=S7 n aQ params1 p2
theorem RH (n:Nat):K3 C73 iY (F73 n):=fun _ _ _ _ h=>ca (X:=x73) (ajL n h)
def abB (r:(an×ak)):AV:=.agg (iH r.1)
def V6 (r:(an×ak)):List (Nat×Bx):= [(0,.flat 74 (bQ r.2))]
def x31:=fx E0 Tryz.f31 [0] [0]
def A31:=Ax x31 abB V6
def C31:=Cx E0 31 abB V6
def TC (n:Nat) (c0:ak) (aV params2:Wq0) (dI:Int):Option (an×ak):=
 (F72 n c0 aV params2 dI).bind fun x6=>(F73 n aV params2 x6.1).bind fun x13=>if x13==2 then
 (F72 n x6.2 aV params2 1).bind fun x19=>some (x19.1,x19.2)
 else
 some (x6.1,x6.2)
theorem alu (n:Nat):K4 (A31 []) j4 (TC n):=fun c0 aV params2 dI r h=>be h fun x6 hx6 h=>be h fun x13 bH h=>ie h (fun c0_ h=>be h fun x19 dL h=>rr h [(5,.call (RI n hx6) [] [(0,0)] []),(5,.call (RH n bH) [] [] []),(0,eb c0_),(3,.call (RI n dL) [] [(0,0)] [])]) (fun c0_ h=>rr h [(5,.call (RI n hx6) [] [(0,0)] []),(5,.call (RH n bH) [] [] []),(0,eb c0_)])
def F31 (n:Nat) (c0:ak) (aV params2:Wq0) (dI:Int):Option (an×ak):=TC n c0 aV params2 dI
theorem ev31 (n:Nat):K4 C31 j4 (F31 n):=fun _ _ _ _ _ h=>ca (X:=x31) (alu n h)
def abA (r:Wq0):AV:=.ms 200000 1 0 r.length
def V5 (r:Wq0):List (Nat×Bx):= [(200000,.rows true 3 1 (ba r))]
def x32:=fx E0 Tryz.f32 [] [200000]
def A32:=Ax x32 abA V5
def C32:=Cx E0 32 abA V5
def Jt (t22:Wq4) (t23 t24:Int) (b32:Wq0):LS:=⟨[(5,.ms 32 1 0 b32.length),(22,.slice 77 2 (kU t22)),(23,.int .i64 t23),(24,.int .i64 t24)],[(32,.rows true 3 1 (ba b32))]⟩
def Js (b32:Wq0):LS:=⟨[(5,.ms 32 1 0 b32.length)],[(32,.rows true 3 1 (ba b32))]⟩
def kT (s0:ag) (aE:Int):LS:=⟨[(0,.agg (bj s0)),(1,.int .i64 aE)],[]⟩
def HU (k_1:Wf6) (back:Wq4->Int->Int->Wq0->Option Wq0) (n:Nat) (t22:Wq4) (t23 t24:Int) (b32:Wq0):Option Wq0:=
 if decide (t24<t23) then
 (idx t22 t24).bind fun x2=>(app b32 [x2.aw]).bind fun x11=>back t22 t23 (w64 (t24+1)) x11
 else
 k_1 b32
theorem als {k_1} (aD:K1 (A32 [1,1,1,1]) Js k_1) {back} (ay:K4 (A32 [0,1,0,1,1,1]) Jt back) (n:Nat):K4 (A32 [0,1,0,1,1,1]) Jt (HU k_1 back n):=fun t22 t23 t24 b32 r h=>ie h (fun c0 h=>be h fun x2 hx2 h=>be h fun x11 cu h=>ra (ay h) [(0,eb c0),(0,R76.idx hx2),(7,R3.app cu (R3.srW [x2.aw]))]) (fun c0 h=>ra (aD h) [(0,eb c0)])
def yH (k_1:Wf6):Nat->Wq4->Int->Int->Wq0->Option Wq0
 |0,_,_,_,_=>none
 |n+1,t22,t23,t24,b32=>HU k_1 (yH k_1 n) n t22 t23 t24 b32
theorem acQ {k_1} (aD:K1 (A32 [1,1,1,1]) Js k_1):∀n:Nat,K4 (A32 [0,1,0,1,1,1]) Jt (yH k_1 n)
 |0=>fun _ _ _ _ _ h=>nz h
 |n+1=>fun _ _ _ _ _ h=>als aD (acQ aD n) n h
def HT (n:Nat) (b32:Wq0):Option Wq0:=
 some b32
theorem alr (n:Nat):K1 (A32 [1,1,1,1]) Js (HT n):=fun b32 r h=>rr h [(2,.ren 32 200000)]
def TB (n:Nat) (s0:ag) (aE:Int):Option Wq0:=
 if decide (aE<0) then
 some []
 else
 if !decide (aE<(s0.ae.length:Int)) then
 some []
 else
 (idx s0.ae aE).bind fun x16=>yH (HT n) n x16.ah (x16.ah.length:Int) 0 []
theorem alq (n:Nat):K2 (A32 []) kT (TB n):=fun s0 aE r h=>ie h (fun c0 h=>rr h [(3,eb c0),(3,.born [4] [] 200000 true 3 1)]) (fun c0 h=>ie h (fun c1 h=>rr h [(3,eb c0),(4,.eqv (R62.ax s0.ae)),(0,eb c1),(2,.born [4] [] 200000 true 3 1)]) (fun c1 h=>be h fun x16 de h=>ra (acQ (alr n) n h) [(3,eb c0),(4,.eqv (R62.ax s0.ae)),(0,eb c1),(5,R62.idx de),(2,.eqv (R76.ax x16.ah)),(1,.born [5] [] 32 true 3 1)]))
def F32 (n:Nat) (s0:ag) (aE:Int):Option Wq0:=TB n s0 aE
theorem kj (n:Nat):K2 C32 kT (F32 n):=fun _ _ _ h=>ca (X:=x32) (alq n h)
def res9 (r:(ag×ak)):AV:=.agg (bj r.1)
def abQ (r:(ag×ak)):List (Nat×Bx):= [(0,.flat 74 (bQ r.2))]
def x9:=fx E0 Tryz.f9 [0] [0]
def A9:=Ax x9 res9 abQ
def C9:=Cx E0 9 res9 abQ
def aii (b0:ak) (b2 b5:ag) (b32:Wq1):LS:=⟨[(0,.loc 0 0),(2,.loc 2 0),(5,.loc 5 0)],[(0,.flat 74 (bQ b0)),(2,.flat 26 [.int .i64 0,.aU]),(5,.flat 26 [.int .i64 b5.bD,.ms 32 5 0 b32.length]),(32,.rows false 63 5 (dr b32))]⟩
def aay (n3:Int) (b0:ak) (b2 b5:ag) (b32:Wq1):LS:=⟨[(0,.loc 0 0),(2,.loc 2 0),(3,.int .i64 n3),(5,.loc 5 0)],[(0,.flat 74 (bQ b0)),(2,.flat 26 [.int .i64 0,.aU]),(5,.flat 26 [.int .i64 b5.bD,.ms 32 5 0 b32.length]),(32,.rows false 63 5 (dr b32))]⟩
def aih (n3 id4:Int) (b0:ak) (b2:ag):LS:=⟨[(0,.loc 0 0),(2,.loc 2 0),(3,.int .i64 n3),(4,.int .i64 id4)],[(0,.flat 74 (bQ b0)),(2,.flat 26 [.int .i64 0,.aU])]⟩
def Ap (n:Nat) (b0:ak) (b2 b5:ag) (b32:Wq1):Option (ag×ak):=
 (F29 n b0 3).bind fun x2=>if x2.1 then
 (F32 n (ag.mk b5.bD b32) 1).bind fun x8=>(F31 n x2.2 x8 [] 1).bind fun x10=>(bnd b32.length 1).bind fun x13=>(b32[0+x13]?).bind fun x16=>(setAt b32 (0+x13) (av.mk x16.bp x16.ah x16.aq x16.aX [x10.1])).bind fun z18=>some ((ag.mk b5.bD z18),x10.2)
 else
 some ((ag.mk b5.bD b32),x2.2)
theorem aac (n:Nat):K4 (A9 [1,1,1,1,1,1,1,1,1]) aii (Ap n):=fun b0 b2 b5 b32 r h=>be h fun x2 hx2 h=>ie h (fun c0_ h=>be h fun x8 hx8 h=>be h fun x10 cw h=>be h fun x13 bH h=>be h fun x16 de h=>be h fun z18 D0 h=>rr h [(1,.call (cb (fC n hx2) c0_) [] [(0,0)] []),(4,.call (cd (e:=3) (z:=true) (Q:=ba x8) (aZ.lend (m:=.same) (k:=700000) (z:=false) (e:=63) (s:=5) (Q:=dr b32) (n:=b32.length) (xs:= [.agg [.int .i64 b5.bD,.ms 700000 5 0 b32.length],.int .i64 1]) (kj n hx8) (by kernel_rfl) (R62.len b32) (by kernel_rfl) (by kernel_rfl) (R3.gI (fun _=>by kernel_rfl) x8)) (R3.len x8)) [] [(32,700000)] []),(0,.call (ev31 n cw) [.one .same,.one (.sx 0 0),.one (.sx 3 1)] [(0,0)] []),(0,.laid (congrArg (fun q_=>Bx.rows false 84 13 q_) (R83.map [x10.1]).symm)),(0,cJ bH),(1,R62.hol 4 de),(0,R83.frz 82 [x10.1]),(0,R62.clo 32 4 (.slice 84 13 (fV [x10.1])) .undef de D0 (by kernel_rfl)),(2,.seq 77 (congrArg (fun n_=>(AV.ms 32 5 0 n_)) ((bY D0).symm))),(0,.seq 79 (congrArg (fun n_=>(AV.agg [.int .i64 b5.bD,.ms 32 5 0 n_])) ((bY D0).symm))),(0,.seq 85 (congrArg (fun n_=>(AV.agg [.int .i64 b5.bD,.ms 32 5 0 n_])) ((bY D0).symm))),(0,.beq 2 (congrArg (fun n_=>(Bx.flat 26 [.int .i64 b5.bD,.ms 32 5 0 n_])) ((bY D0).symm))),(0,.beq 5 (congrArg (fun n_=>(Bx.flat 26 [.int .i64 b5.bD,.ms 32 5 0 n_])) ((bY D0).symm))),(0,R62.frz 32 z18)]) (fun c0_ h=>rr h [(1,.call (cb (fC n hx2) c0_) [] [(0,0)] []),(2,R62.frz 32 b32)])
def xd (n:Nat) (n3:Int) (b0:ak) (b2 b5:ag) (b32:Wq1):Option (ag×ak):=
 if decide (3<n3) then
 (F29 n b0 3).bind fun x5=>if x5.1 then
 (bnd b32.length 3).bind fun x13=>(b32[0+x13]?).bind fun x16=>(setAt b32 (0+x13) (av.mk x16.bp x16.ah x16.aq [(br.mk [0] 1)] x16.cc)).bind fun z17=>Ap n x5.2 (ag.mk 0 []) (ag.mk b5.bD z17) z17
 else
 Ap n x5.2 (ag.mk 0 []) (ag.mk b5.bD b32) b32
 else
 Ap n b0 (ag.mk 0 []) (ag.mk b5.bD b32) b32
theorem aab (n:Nat):K5 (A9 [1,1,1,1,1,1,1,1]) aay (xd n):=fun n3 b0 b2 b5 b32 r h=>ie h (fun c0_ h=>be h fun x5 hx5 h=>ie h (fun c1 h=>be h fun x13 bH h=>be h fun x16 de h=>be h fun z17 Lf h=>ra (aac n h) [(1,eb c0_),(2,.call (cb (fC n hx5) c1) [] [(0,0)] []),(5,R3.frz 69 [0]),(0,.norm [(70,.agg [.sx 0 0])] []),(1,cJ bH),(1,R79.frz 71 [(br.mk [0] 1)]),(0,R62.sto 3 [.slice 80 2 (iz [(br.mk [0] 1)])] de Lf (by kernel_rfl)),(0,.beq 5 (congrArg (fun n_=>(Bx.flat 26 [.int .i64 b5.bD,.ms 32 5 0 n_])) ((bY Lf).symm)))]) (fun c1 h=>ra (aac n h) [(1,eb c0_),(2,.call (cb (fC n hx5) c1) [] [(0,0)] [])])) (fun c0_ h=>ra (aac n h) [(1,eb c0_)])
def Ao (n:Nat) (n3:Int) (b0:ak) (b2 b5:ag) (b32:Wq1):Option (ag×ak):=
 if decide (2<n3) then
 (F29 n b0 3).bind fun x5=>if x5.1 then
 (bnd b32.length 2).bind fun x13=>(b32[0+x13]?).bind fun x16=>(setAt b32 (0+x13) (av.mk x16.bp x16.ah x16.aq [(br.mk [0] 0)] x16.cc)).bind fun z17=>xd n n3 x5.2 (ag.mk 0 []) (ag.mk b5.bD z17) z17
 else
 xd n n3 x5.2 (ag.mk 0 []) (ag.mk b5.bD b32) b32
 else
 xd n n3 b0 (ag.mk 0 []) (ag.mk b5.bD b32) b32
theorem b9_2 (n:Nat):K5 (A9 [1,1,1,1,1,1,1]) aay (Ao n):=fun n3 b0 b2 b5 b32 r h=>ie h (fun c0_ h=>be h fun x5 hx5 h=>ie h (fun c1 h=>be h fun x13 bH h=>be h fun x16 de h=>be h fun z17 Lf h=>ra (aab n h) [(1,eb c0_),(2,.call (cb (fC n hx5) c1) [] [(0,0)] []),(5,R3.frz 56 [0]),(0,.norm [(57,.agg [.sx 0 0])] []),(1,cJ bH),(1,R79.frz 58 [(br.mk [0] 0)]),(0,R62.sto 3 [.slice 80 2 (iz [(br.mk [0] 0)])] de Lf (by kernel_rfl)),(0,.beq 5 (congrArg (fun n_=>(Bx.flat 26 [.int .i64 b5.bD,.ms 32 5 0 n_])) ((bY Lf).symm)))]) (fun c1 h=>ra (aab n h) [(1,eb c0_),(2,.call (cb (fC n hx5) c1) [] [(0,0)] [])])) (fun c0_ h=>ra (aab n h) [(1,eb c0_)])
def Na (n:Nat) (n3 id4:Int) (b0:ak) (b2:ag):Option (ag×ak):=
 (F24 n b0 3).bind fun x2=>(F30 n (ByteArray.mk #[105,100]) 4).bind fun x4=>(F30 n (ByteArray.mk #[111,119,110,101,114]) 4).bind fun x6=>(F30 n (ByteArray.mk #[105,100]) id4).bind fun x11=>(F30 n (ByteArray.mk #[112,114,111,106,101,99,116]) 4).bind fun x13=>(F30 n (ByteArray.mk #[116,105,116,108,101]) 5).bind fun x15=>(F30 n (ByteArray.mk #[100,111,110,101]) 3).bind fun x17=>(F30 n (ByteArray.mk #[112,114,111,106,101,99,116]) 4).bind fun x21=>(F30 n (ByteArray.mk #[112,101,114,115,111,110]) 4).bind fun x23=>(F30 n (ByteArray.mk #[116,97,115,107]) id4).bind fun x28=>(gd 4 n3).bind fun x39=>(F29 n x2.2 2).bind fun x44=>if x44.1 then
 (bnd x39 1).bind fun x51=>([(av.mk (ByteArray.mk #[112,114,111,106,101,99,116,115]) [x4,x6] 1 [] []),(av.mk (ByteArray.mk #[116,97,115,107,115]) [x11,x13,x15,x17] 1 [] []),(av.mk (ByteArray.mk #[109,101,109,98,101,114,115]) [x21,x23] 2 [] []),(av.mk (ByteArray.mk #[97,114,99,104,105,118,101,100]) [x28] 1 [] [])][0+x51]?).bind fun x54=>(setAt [(av.mk (ByteArray.mk #[112,114,111,106,101,99,116,115]) [x4,x6] 1 [] []),(av.mk (ByteArray.mk #[116,97,115,107,115]) [x11,x13,x15,x17] 1 [] []),(av.mk (ByteArray.mk #[109,101,109,98,101,114,115]) [x21,x23] 2 [] []),(av.mk (ByteArray.mk #[97,114,99,104,105,118,101,100]) [x28] 1 [] [])] (0+x51) (av.mk x54.bp x54.ah x54.aq [(br.mk [1] 0)] x54.cc)).bind fun z55=>Ao n n3 x44.2 (ag.mk 0 []) (ag.mk x2.1 (z55.take x39)) (z55.take x39)
 else
 Ao n n3 x44.2 (ag.mk 0 []) (ag.mk x2.1 ([(av.mk (ByteArray.mk #[112,114,111,106,101,99,116,115]) [x4,x6] 1 [] []),(av.mk (ByteArray.mk #[116,97,115,107,115]) [x11,x13,x15,x17] 1 [] []),(av.mk (ByteArray.mk #[109,101,109,98,101,114,115]) [x21,x23] 2 [] []),(av.mk (ByteArray.mk #[97,114,99,104,105,118,101,100]) [x28] 1 [] [])].take x39)) ([(av.mk (ByteArray.mk #[112,114,111,106,101,99,116,115]) [x4,x6] 1 [] []),(av.mk (ByteArray.mk #[116,97,115,107,115]) [x11,x13,x15,x17] 1 [] []),(av.mk (ByteArray.mk #[109,101,109,98,101,114,115]) [x21,x23] 2 [] []),(av.mk (ByteArray.mk #[97,114,99,104,105,118,101,100]) [x28] 1 [] [])].take x39)
theorem b9_3 (n:Nat):K4 (A9 [1,1,1,1]) aih (Na n):=fun n3 id4 b0 b2 r h=>be h fun x2 hx2 h=>be h fun x4 hx4 h=>be h fun x6 hx6 h=>be h fun x11 cu h=>be h fun x13 bH h=>be h fun x15 cA h=>be h fun x17 gy h=>be h fun x21 gX h=>be h fun x23 eZ h=>be h fun x28 m8 h=>be h fun x39 D1 h=>be h fun x44 we h=>ie h (fun c0_ h=>be h fun x51 Lh h=>be h fun x54 Zj h=>be h fun z55 hz55 h=>ra (b9_2 n h) [(1,.call (bU n hx2) [] [(0,0)] []),(0,.call (jQ n hx4) [] [] []),(0,.call (jQ n hx6) [] [] []),(3,.call (jQ n cu) [] [] []),(0,.call (jQ n bH) [] [] []),(0,.call (jQ n cA) [] [] []),(0,.call (jQ n gy) [] [] []),(2,.call (jQ n gX) [] [] []),(0,.call (jQ n eZ) [] [] []),(3,.call (jQ n m8) [] [] []),(2,R76.frz 15 [x4,x6]),(0,.norm [(16,.agg [.same,.same,.same,.sl 80 2,.sl 84 13])] []),(0,R76.frz 22 [x11,x13,x15,x17]),(0,.norm [(23,.agg [.same,.same,.same,.sl 80 2,.sl 84 13])] []),(0,R76.frz 26 [x21,x23]),(0,.norm [(27,.agg [.same,.same,.same,.sl 80 2,.sl 84 13])] []),(0,R76.frz 30 [x28]),(0,.norm [(31,.agg [.same,.same,.same,.sl 80 2,.sl 84 13])] []),(7,R62.gd (xs:= [(av.mk (ByteArray.mk #[112,114,111,106,101,99,116,115]) [x4,x6] 1 [] []),(av.mk (ByteArray.mk #[116,97,115,107,115]) [x11,x13,x15,x17] 1 [] []),(av.mk (ByteArray.mk #[109,101,109,98,101,114,115]) [x21,x23] 2 [] []),(av.mk (ByteArray.mk #[97,114,99,104,105,118,101,100]) [x28] 1 [] [])]) D1 (Nat.le_of_eq rfl)),(3,.call (cb (fC n we) c0_) [] [(0,0)] []),(4,R3.frz 43 [1]),(0,.norm [(44,.agg [.sx 0 0])] []),(1,cJ Lh),(1,R79.frz 45 [(br.mk [1] 0)]),(0,R62.sto 3 [.slice 80 2 (iz [(br.mk [1] 0)])] Zj hz55 (by kernel_rfl)),(0,.shr 32 (R62.take z55 x39)),(0,.beq 5 (congrArg (fun n_=>(Bx.flat 26 [.int .i64 x2.1,.ms 32 5 0 n_])) ((vw (xs:=z55) (Nat.le_trans (Nat.le_trans (km D1).2 (Nat.le_of_eq rfl)) (Nat.le_of_eq (bY hz55).symm))).symm)))]) (fun c0_ h=>ra (b9_2 n h) [(1,.call (bU n hx2) [] [(0,0)] []),(0,.call (jQ n hx4) [] [] []),(0,.call (jQ n hx6) [] [] []),(3,.call (jQ n cu) [] [] []),(0,.call (jQ n bH) [] [] []),(0,.call (jQ n cA) [] [] []),(0,.call (jQ n gy) [] [] []),(2,.call (jQ n gX) [] [] []),(0,.call (jQ n eZ) [] [] []),(3,.call (jQ n m8) [] [] []),(2,R76.frz 15 [x4,x6]),(0,.norm [(16,.agg [.same,.same,.same,.sl 80 2,.sl 84 13])] []),(0,R76.frz 22 [x11,x13,x15,x17]),(0,.norm [(23,.agg [.same,.same,.same,.sl 80 2,.sl 84 13])] []),(0,R76.frz 26 [x21,x23]),(0,.norm [(27,.agg [.same,.same,.same,.sl 80 2,.sl 84 13])] []),(0,R76.frz 30 [x28]),(0,.norm [(31,.agg [.same,.same,.same,.sl 80 2,.sl 84 13])] []),(7,R62.gd (xs:= [(av.mk (ByteArray.mk #[112,114,111,106,101,99,116,115]) [x4,x6] 1 [] []),(av.mk (ByteArray.mk #[116,97,115,107,115]) [x11,x13,x15,x17] 1 [] []),(av.mk (ByteArray.mk #[109,101,109,98,101,114,115]) [x21,x23] 2 [] []),(av.mk (ByteArray.mk #[97,114,99,104,105,118,101,100]) [x28] 1 [] [])]) D1 (Nat.le_of_eq rfl)),(3,.call (cb (fC n we) c0_) [] [(0,0)] []),(0,.shr 32 (R62.take [(av.mk (ByteArray.mk #[112,114,111,106,101,99,116,115]) [x4,x6] 1 [] []),(av.mk (ByteArray.mk #[116,97,115,107,115]) [x11,x13,x15,x17] 1 [] []),(av.mk (ByteArray.mk #[109,101,109,98,101,114,115]) [x21,x23] 2 [] []),(av.mk (ByteArray.mk #[97,114,99,104,105,118,101,100]) [x28] 1 [] [])] x39)),(0,.beq 5 (congrArg (fun n_=>(Bx.flat 26 [.int .i64 x2.1,.ms 32 5 0 n_])) ((vw (xs:= [(av.mk (ByteArray.mk #[112,114,111,106,101,99,116,115]) [x4,x6] 1 [] []),(av.mk (ByteArray.mk #[116,97,115,107,115]) [x11,x13,x15,x17] 1 [] []),(av.mk (ByteArray.mk #[109,101,109,98,101,114,115]) [x21,x23] 2 [] []),(av.mk (ByteArray.mk #[97,114,99,104,105,118,101,100]) [x28] 1 [] [])]) (Nat.le_trans (km D1).2 (Nat.le_of_eq rfl))).symm)))])
def aaq (n:Nat) (c0:ak):Option (ag×ak):=
 (F24 n c0 3).bind fun x3=>(F29 n x3.2 5).bind fun x9_=>if x9_.1 then
 Na n (w64 (2+x3.1)) 5 x9_.2 (ag.mk 0 [])
 else
 Na n (w64 (2+x3.1)) 4 x9_.2 (ag.mk 0 [])
theorem b9_4 (n:Nat):K1 (A9 []) lY (aaq n):=fun c0 r h=>be h fun x3 hx3 h=>be h fun x9_ hx9 h=>ie h (fun c0_ h=>ra (b9_3 n h) [(2,.call (bU n hx3) [] [(0,0)] []),(4,.call (cb (fC n hx9) c0_) [] [(0,0)] [])]) (fun c0_ h=>ra (b9_3 n h) [(2,.call (bU n hx3) [] [(0,0)] []),(4,.call (cb (fC n hx9) c0_) [] [(0,0)] [])])
def F9 (n:Nat) (c0:ak):Option (ag×ak):=aaq n c0
theorem ev9 (n:Nat):K1 C9 lY (F9 n):=fun _ _ h=>ca (X:=x9) (b9_4 n h)
def abz (r:(Wq2×ak)):AV:=.ms 200000 3 0 r.1.length
def V4 (r:(Wq2×ak)):List (Nat×Bx):= [(0,.flat 74 (bQ r.2)),(200000,.rows true 65 3 (aN r.1))]
def x33:=fx E0 Tryz.f33 [0] [0,200000]
def A33:=Ax x33 abz V4
def C33:=Cx E0 33 abz V4
def afA (bO aO k11:Int) (t12:Wq0) (t13 t14:Int) (t41:Bool) (b0:ak) (b9:Wq2):LS:=⟨[(0,.loc 0 0),(2,.int .i64 bO),(3,.int .i64 aO),(9,.ms 9 3 0 b9.length),(11,.int .i64 k11),(12,.slx 3 1 (ba t12)),(13,.int .i64 t13),(14,.int .i64 t14),(41,.bool t41)],[(0,.flat 74 (bQ b0)),(9,.rows true 65 3 (aN b9))]⟩
def sK (bO aO:Int) (t12:Wq0) (t13 t14:Int) (b0:ak) (b9:Wq2):LS:=⟨[(0,.loc 0 0),(2,.int .i64 bO),(3,.int .i64 aO),(9,.ms 9 3 0 b9.length),(12,.slx 3 1 (ba t12)),(13,.int .i64 t13),(14,.int .i64 t14)],[(0,.flat 74 (bQ b0)),(9,.rows true 65 3 (aN b9))]⟩
def Jr (b0:ak) (b9:Wq2):LS:=⟨[(9,.ms 9 3 0 b9.length)],[(0,.flat 74 (bQ b0)),(9,.rows true 65 3 (aN b9))]⟩
def Un (c0:ak) (dA:Wq0) (bO aO:Int):LS:=⟨[(0,.loc 0 0),(1,.slx 3 1 (ba dA)),(2,.int .i64 bO),(3,.int .i64 aO)],[(0,.flat 74 (bQ c0))]⟩
def nI (k_1:Wf7) (n:Nat) (bO aO k11:Int) (t12:Wq0) (t13 t14:Int) (t41:Bool) (b0:ak) (b9:Wq2):Option (Wq2×ak):=
 if t41 then
 (app b9 [(aI.mk 1 0 ByteArray.empty)]).bind fun x4=>k_1 bO aO t12 t13 t14 b0 x4
 else
 (F74 n b0 k11).bind fun x4=>(app b9 [x4.1]).bind fun x7=>k_1 bO aO t12 t13 t14 x4.2 x7
theorem B8 {k_1} (aD:K7 (A33 [1,1,1,0,0,1,0,1,1]) sK k_1) (n:Nat):K9 (A33 [1,1,1,0,1,0,0,1,1,0,0,1,0,1,1]) afA (nI k_1 n):=fun bO aO k11 t12 t13 t14 t41 b0 b9 r h=>ie h (fun c0_ g0=>by subst c0_;exact (
 be g0 fun x4 hx4 g0=>ra (aD g0) [(3,R64.app hx4 (R64.srW [(aI.mk 1 0 ByteArray.empty)]))])) (fun c0_ g0=>by subst c0_;exact (
 be g0 fun x4 hx4 g0=>be g0 fun x7 hx7 g0=>ra (aD g0) [(3,.call (LH n hx4) [] [(0,0)] []),(1,R64.app hx7 (R64.srW [x4.1]))]))
def lA (k_2:Wf7) (n:Nat) (bO aO:Int) (t12:Wq0) (t13 t14:Int) (b0:ak) (b9:Wq2):Option (Wq2×ak):=
 k_2 bO aO t12 t13 (w64 (t14+1)) b0 b9
theorem xT {k_2} (bS:K7 (A33 [0,1,0,1,1]) sK k_2) (n:Nat):K7 (A33 [1,1,1,0,0,1,0,1,1]) sK (lA k_2 n):=fun bO aO t12 t13 t14 b0 b9 r h=>ra (bS h) []
def y8 (k_3:ak->Wq2->Option (Wq2×ak)) (back:Wf7) (n:Nat) (bO aO:Int) (t12:Wq0) (t13 t14:Int) (b0:ak) (b9:Wq2):Option (Wq2×ak):=
 if decide (t14<t13) then
 (idx t12 t14).bind fun x3=>if !decide (t14<bO) then
 if aO !=1 then
 (F29 n b0 5).bind fun x17=>if x17.1 then
 (app b9 [(aI.mk 2 0 ByteArray.empty)]).bind fun x24=>lA back n bO aO t12 t13 t14 x17.2 x24
 else
 if aO==3 then
 (F29 n x17.2 5).bind fun x30=>nI (lA back n) n bO aO x3 t12 t13 t14 x30.1 x30.2 b9
 else
 nI (lA back n) n bO aO x3 t12 t13 t14 false x17.2 b9
 else
 if aO==3 then
 (F29 n b0 5).bind fun x27=>nI (lA back n) n bO aO x3 t12 t13 t14 x27.1 x27.2 b9
 else
 nI (lA back n) n bO aO x3 t12 t13 t14 false b0 b9
 else
 nI (lA back n) n bO aO x3 t12 t13 t14 false b0 b9
 else
 k_3 b0 b9
theorem alp {k_3} (bu:K2 (A33 [1,1,1]) Jr k_3) {back} (ay:K7 (A33 [0,1,0,1,1]) sK back) (n:Nat):K7 (A33 [0,1,0,1,1]) sK (y8 k_3 back n):=fun bO aO t12 t13 t14 b0 b9 r h=>ie h (fun c0_ h=>be h fun x3 hx3 h=>ie h (fun c1 h=>ie h (fun c2 h=>be h fun x17 gy h=>ie h (fun c3 h=>be h fun x24 fZ h=>ra (xT ay n h) [(0,eb c0_),(1,R3.idx hx3),(5,eb c1),(2,eb c2),(3,.call (cb (fC n gy) c3) [] [(0,0)] []),(5,R64.app fZ (R64.srW [(aI.mk 2 0 ByteArray.empty)]))]) (fun c3 h=>ie h (fun c4 h=>be h fun x30 z0 h=>ra (B8 (xT ay n) n h) [(0,eb c0_),(1,R3.idx hx3),(5,eb c1),(2,eb c2),(3,.call (cb (fC n gy) c3) [] [(0,0)] []),(4,eb c1),(2,eb c4),(3,.call (fC n z0) [] [(0,0)] [])]) (fun c4 h=>ra (B8 (xT ay n) n h) [(0,eb c0_),(1,R3.idx hx3),(5,eb c1),(2,eb c2),(3,.call (cb (fC n gy) c3) [] [(0,0)] []),(4,eb c1),(2,eb c4)]))) (fun c2 h=>ie h (fun c3 h=>be h fun x27 sb h=>ra (B8 (xT ay n) n h) [(0,eb c0_),(1,R3.idx hx3),(5,eb c1),(2,eb c2),(6,eb c1),(2,eb c3),(3,.call (fC n sb) [] [(0,0)] [])]) (fun c3 h=>ra (B8 (xT ay n) n h) [(0,eb c0_),(1,R3.idx hx3),(5,eb c1),(2,eb c2),(6,eb c1),(2,eb c3)]))) (fun c1 h=>ra (B8 (xT ay n) n h) [(0,eb c0_),(1,R3.idx hx3),(5,eb c1),(7,eb c1)])) (fun c0_ h=>ra (bu h) [(0,eb c0_)])
def ly (k_3:ak->Wq2->Option (Wq2×ak)):Nat->Int->Int->Wq0->Int->Int->ak->Wq2->Option (Wq2×ak)
 |0,_,_,_,_,_,_,_=>none
 |n+1,bO,aO,t12,t13,t14,b0,b9=>y8 k_3 (ly k_3 n) n bO aO t12 t13 t14 b0 b9
theorem acP {k_3} (bu:K2 (A33 [1,1,1]) Jr k_3):∀n:Nat,K7 (A33 [0,1,0,1,1]) sK (ly k_3 n)
 |0=>fun _ _ _ _ _ _ _ _ h=>nz h
 |n+1=>fun _ _ _ _ _ _ _ _ h=>alp bu (acP bu n) n h
def pB (n:Nat) (b0:ak) (b9:Wq2):Option (Wq2×ak):=
 some (b9,b0)
theorem alo (n:Nat):K2 (A33 [1,1,1]) Jr (pB n):=fun b0 b9 r h=>rr h [(2,.ren 9 200000)]
def adV (n:Nat) (c0:ak) (dA:Wq0) (bO aO:Int):Option (Wq2×ak):=
 ly (pB n) n bO aO dA (dA.length:Int) 0 c0 []
theorem aln (n:Nat):K4 (A33 []) Un (adV n):=fun c0 dA bO aO r h=>ra (acP (alo n) n h) [(3,.eqv (R3.ax dA)),(1,.born [9] [] 9 true 65 3)]
def F33 (n:Nat) (c0:ak) (dA:Wq0) (bO aO:Int):Option (Wq2×ak):=adV n c0 dA bO aO
theorem RQ (n:Nat):K4 C33 Un (F33 n):=fun _ _ _ _ _ h=>ca (X:=x33) (aln n h)
def abj (r:Wq2):AV:=.ms 200000 3 0 r.length
def VO (r:Wq2):List (Nat×Bx):= [(200000,.rows true 65 3 (aN r))]
def x54:=fx E0 Tryz.f54 [] [200000]
def A54:=Ax x54 abj VO
def C54:=Cx E0 54 abj VO
def Ui (r0:Wq2):LS:=⟨[(0,.slx 65 3 (aN r0))],[]⟩
def Tn (n:Nat) (r0:Wq2):Option Wq2:=
 (app [] r0).bind fun x3=>some x3
theorem aku (n:Nat):K1 (A54 []) Ui (Tn n):=fun r0 r h=>be h fun x3 hx3 h=>rr h [(2,.born [] [] 4 true 65 3),(0,R64.app (xs:= []) hx3 .dat),(1,.ren 4 200000)]
def F54 (n:Nat) (r0:Wq2):Option Wq2:=Tn n r0
theorem Eh (n:Nat):K1 C54 Ui (F54 n):=fun _ _ h=>ca (X:=x54) (aku n h)
def aby (r:Wq2):AV:=.ms 200000 3 0 r.length
def V3 (r:Wq2):List (Nat×Bx):= [(200000,.rows true 65 3 (aN r))]
def x34:=fx E0 Tryz.f34 [] [200000]
def A34:=Ax x34 aby V3
def C34:=Cx E0 34 aby V3
def sJ (s0:ag) (aE:Int) (cm:Wq2):LS:=⟨[(0,.agg (bj s0)),(1,.int .i64 aE),(2,.slx 65 3 (aN cm))],[]⟩
def TA (n:Nat) (s0:ag) (aE:Int) (cm:Wq2):Option Wq2:=
 if decide (aE<0) then
 some []
 else
 if !decide (aE<(s0.ae.length:Int)) then
 some []
 else
 (idx s0.ae aE).bind fun x16=>(cut cm none (some (if 0<(if (cm.length:Int)<x16.aq then (cm.length:Int) else x16.aq) then (if (cm.length:Int)<x16.aq then (cm.length:Int) else x16.aq) else 0))).bind fun x24=>(F54 n x24).bind fun x26=>some x26
theorem alm (n:Nat):K3 (A34 []) sJ (TA n):=fun s0 aE cm r h=>ie h (fun c0 h=>rr h [(3,eb c0),(3,.born [6] [] 200000 true 65 3)]) (fun c0 h=>ie h (fun c1 h=>rr h [(3,eb c0),(4,.eqv (R62.ax s0.ae)),(0,eb c1),(2,.born [6] [] 200000 true 65 3)]) (fun c1 h=>be h fun x16 de h=>be h fun x24 fZ h=>be h fun x26 kb h=>rr h [(3,eb c0),(4,.eqv (R62.ax s0.ae)),(0,eb c1),(5,R62.idx de),(3,.eqv (R64.ax cm)),(2,R64.cut fZ),(0,.call (Eh n kb) [] [] [(28,200000)]),(1,.ren 28 200000)]))
def F34 (n:Nat) (s0:ag) (aE:Int) (cm:Wq2):Option Wq2:=TA n s0 aE cm
theorem ow (n:Nat):K3 C34 sJ (F34 n):=fun _ _ _ _ h=>ca (X:=x34) (alm n h)
def abg (r:Int):AV:=.int .i64 r
def VL (r:Int):List (Nat×Bx):= []
def x61:=fx E0 Tryz.f61 [] []
def A61:=Ax x61 abg VL
def C61:=Cx E0 61 abg VL
def AO (a0 b1:aI):LS:=⟨[(0,.agg (iW a0)),(1,.agg (iW b1))],[]⟩
def Tl (n:Nat) (a0 b1:aI):Option Int:=
 if decide (a0.aw<b1.aw) then
 some (-1)
 else
 if decide (b1.aw<a0.aw) then
 some 1
 else
 if decide (a0.bM<b1.bM) then
 some (-1)
 else
 if decide (b1.bM<a0.bM) then
 some 1
 else
 if Op.bytesLess a0.bl.toList b1.bl.toList then
 some (-1)
 else
 if !(Op.bytesLess a0.bl.toList b1.bl.toList||a0.bl.toList==b1.bl.toList) then
 some 1
 else
 some 0
theorem akn (n:Nat):K2 (A61 []) AO (Tl n):=fun a0 b1 r h=>ie h (fun c0 h=>rr h [(7,eb c0)]) (fun c0 h=>ie h (fun c1 h=>rr h [(7,eb c0),(5,eb c1)]) (fun c1 h=>ie h (fun c2 h=>rr h [(7,eb c0),(5,eb c1),(5,eb c2)]) (fun c2 h=>ie h (fun c3 h=>rr h [(7,eb c0),(5,eb c1),(5,eb c2),(5,eb c3)]) (fun c3 h=>ie h (fun c4 h=>rr h [(7,eb c0),(5,eb c1),(5,eb c2),(5,eb c3),(5,eb c4)]) (fun c4 h=>ie h (fun c5 h=>rr h [(7,eb c0),(5,eb c1),(5,eb c2),(5,eb c3),(5,eb c4),(5,eb c5)]) (fun c5 h=>rr h [(7,eb c0),(5,eb c1),(5,eb c2),(5,eb c3),(5,eb c4),(5,eb c5)]))))))
def F61 (n:Nat) (a0 b1:aI):Option Int:=Tl n a0 b1
theorem ev61 (n:Nat):K2 C61 AO (F61 n):=fun _ _ _ h=>ca (X:=x61) (akn n h)
def abJ (r:Int):AV:=.int .i64 r
def We (r:Int):List (Nat×Bx):= []
def x22:=fx E0 Tryz.f22 [] []
def A22:=Ax x22 abJ We
def C22:=Cx E0 22 abJ We
def JD (a0 b1:Wq2) (i5:Int):LS:=⟨[(0,.slx 65 3 (aN a0)),(1,.slx 65 3 (aN b1)),(5,.int .i64 i5)],[]⟩
def p8 (a0 b1:Wq2):LS:=⟨[(0,.slx 65 3 (aN a0)),(1,.slx 65 3 (aN b1))],[]⟩
def H8 (k_1:Wf8) (back:Wq2->Wq2->Int->Option Int) (n:Nat) (a0 b1:Wq2) (i5:Int):Option Int:=
 if decide (i5<(a0.length:Int)) then
 if decide (i5<(b1.length:Int)) then
 (idx a0 i5).bind fun x13=>(idx b1 i5).bind fun x18=>(F61 n x13 x18).bind fun x21=>if x21 !=0 then
 some x21
 else
 back a0 b1 (w64 (i5+1))
 else
 k_1 a0 b1
 else
 k_1 a0 b1
theorem alS {k_1} (aD:K2 (A22 [1,1]) p8 k_1) {back} (ay:K3 (A22 [0,1,0,1]) JD back) (n:Nat):K3 (A22 [0,1,0,1]) JD (H8 k_1 back n):=fun a0 b1 i5 r h=>ie h (fun c0 h=>ie h (fun c1 h=>be h fun x13 bH h=>be h fun x18 gx h=>be h fun x21 gX h=>ie h (fun c2 h=>rr h [(2,.eqv (R64.ax a0)),(0,eb c0),(3,.eqv (R64.ax b1)),(0,eb c1),(3,R64.idx bH),(3,R64.idx gx),(1,.call (ev61 n gX) [] [] []),(2,eb c2)]) (fun c2 h=>ra (ay h) [(2,.eqv (R64.ax a0)),(0,eb c0),(3,.eqv (R64.ax b1)),(0,eb c1),(3,R64.idx bH),(3,R64.idx gx),(1,.call (ev61 n gX) [] [] []),(2,eb c2)])) (fun c1 h=>ra (aD h) [(2,.eqv (R64.ax a0)),(0,eb c0),(3,.eqv (R64.ax b1)),(0,eb c1)])) (fun c0 h=>ra (aD h) [(2,.eqv (R64.ax a0)),(0,eb c0)])
def yL (k_1:Wf8):Nat->Wq2->Wq2->Int->Option Int
 |0,_,_,_=>none
 |n+1,a0,b1,i5=>H8 k_1 (yL k_1 n) n a0 b1 i5
theorem acY {k_1} (aD:K2 (A22 [1,1]) p8 k_1):∀n:Nat,K3 (A22 [0,1,0,1]) JD (yL k_1 n)
 |0=>fun _ _ _ _ h=>nz h
 |n+1=>fun _ _ _ _ h=>alS aD (acY aD n) n h
def Cy (n:Nat) (a0 b1:Wq2):Option Int:=
 if decide ((a0.length:Int)<(b1.length:Int)) then
 some (-1)
 else
 if decide ((b1.length:Int)<(a0.length:Int)) then
 some 1
 else
 some 0
theorem alR (n:Nat):K2 (A22 [1,1]) p8 (Cy n):=fun a0 b1 r h=>ie h (fun c0 h=>rr h [(1,.eqv (R64.ax a0)),(1,.eqv (R64.ax b1)),(0,eb c0)]) (fun c0 h=>ie h (fun c1 h=>rr h [(1,.eqv (R64.ax a0)),(1,.eqv (R64.ax b1)),(0,eb c0),(2,.eqv (R64.ax a0)),(1,.eqv (R64.ax b1)),(0,eb c1)]) (fun c1 h=>rr h [(1,.eqv (R64.ax a0)),(1,.eqv (R64.ax b1)),(0,eb c0),(2,.eqv (R64.ax a0)),(1,.eqv (R64.ax b1)),(0,eb c1)]))
def adW (n:Nat) (a0 b1:Wq2):Option Int:=
 yL (Cy n) n a0 b1 0
theorem alQ (n:Nat):K2 (A22 []) p8 (adW n):=fun a0 b1 r h=>ra (acY (alR n) n h) []
def F22 (n:Nat) (a0 b1:Wq2):Option Int:=adW n a0 b1
theorem qD (n:Nat):K2 C22 p8 (F22 n):=fun _ _ _ h=>ca (X:=x22) (alQ n h)
def aaS (r:Int):AV:=.int .i64 r
def Vw (r:Int):List (Nat×Bx):= []
def x75:=fx E0 Tryz.f75 [] []
def A75:=Ax x75 aaS Vw
def C75:=Cx E0 75 aaS Vw
def IZ (bh:Int) (dh:Wq2) (t31:Wq8) (t32 t33:Int) (b4:ag):LS:=⟨[(2,.int .i64 bh),(3,.slx 65 3 (aN dh)),(4,.loc 4 0),(31,.slx 43 1 (bG t31)),(32,.int .i64 t32),(33,.int .i64 t33)],[(4,.flat 26 (bj b4))]⟩
def IY:LS:=⟨[],[]⟩
def AL (s0:ag) (st1:ai) (bh:Int) (dh:Wq2):LS:=⟨[(0,.agg (bj s0)),(1,.agg (dD st1)),(2,.int .i64 bh),(3,.slx 65 3 (aN dh))],[]⟩
def yY (k_1:Option Int) (back:Int->Wq2->Wq8->Int->Int->ag->Option Int) (n:Nat) (bh:Int) (dh:Wq2) (t31:Wq8) (t32 t33:Int) (b4:ag):Option Int:=
 if decide (t33<t32) then
 (idx t31 t33).bind fun x3=>(F34 n b4 bh x3).bind fun x11=>(F22 n x11 dh).bind fun x14=>if x14==0 then
 some t33
 else
 back bh dh t31 t32 (w64 (t33+1)) b4
 else
 k_1
theorem ajJ {k_1} (aD:K0 (A75 [1,1,1]) IY k_1) {back} (ay:K6 (A75 [0,1,0,1,1]) IZ back) (n:Nat):K6 (A75 [0,1,0,1,1]) IZ (yY k_1 back n):=fun bh dh t31 t32 t33 b4 r h=>ie h (fun c0 h=>be h fun x3 hx3 h=>be h fun x11 cu h=>be h fun x14 dU h=>ie h (fun c1 h=>rr h [(0,eb c0),(1,R42.idx hx3),(6,.call (ow n cu) [] [] [(41,200000)]),(1,R64.frz 41 x11),(0,.call (qD n dU) [.one (.sx 0 0)] [] []),(0,eb c1)]) (fun c1 h=>ra (ay h) [(0,eb c0),(1,R42.idx hx3),(6,.call (ow n cu) [] [] [(41,200000)]),(1,R64.frz 41 x11),(0,.call (qD n dU) [.one (.sx 0 0)] [] []),(0,eb c1)])) (fun c0 h=>ra (aD h) [(0,eb c0)])
def pt (k_1:Option Int):Nat->Int->Wq2->Wq8->Int->Int->ag->Option Int
 |0,_,_,_,_,_,_=>none
 |n+1,bh,dh,t31,t32,t33,b4=>yY k_1 (pt k_1 n) n bh dh t31 t32 t33 b4
theorem aco {k_1} (aD:K0 (A75 [1,1,1]) IY k_1):∀n:Nat,K6 (A75 [0,1,0,1,1]) IZ (pt k_1 n)
 |0=>fun _ _ _ _ _ _ _ h=>nz h
 |n+1=>fun _ _ _ _ _ _ _ h=>ajJ aD (aco aD n) n h
def yX (n:Nat):Option Int:=
 some (-1)
theorem ajI (n:Nat):K0 (A75 [1,1,1]) IY (yX n):=fun r h=>rr h []
def G4 (n:Nat) (s0:ag) (st1:ai) (bh:Int) (dh:Wq2):Option Int:=
 if decide (bh<0) then
 some (-1)
 else
 if !decide (bh<(s0.ae.length:Int)) then
 some (-1)
 else
 if !decide (bh<(st1.ae.length:Int)) then
 some (-1)
 else
 (idx st1.ae bh).bind fun x23=>pt (yX n) n bh dh x23 (x23.length:Int) 0 s0
theorem ajH (n:Nat):K4 (A75 []) AL (G4 n):=fun s0 st1 bh dh r h=>ie h (fun c0 h=>rr h [(4,eb c0)]) (fun c0 h=>ie h (fun c1 h=>rr h [(4,eb c0),(4,.eqv (R62.ax s0.ae)),(0,eb c1)]) (fun c1 h=>ie h (fun c2 h=>rr h [(4,eb c0),(4,.eqv (R62.ax s0.ae)),(0,eb c1),(5,.eqv (R66.ax st1.ae)),(0,eb c2)]) (fun c2 h=>be h fun x23 eZ h=>ra (aco (ajI n) n h) [(4,eb c0),(4,.eqv (R62.ax s0.ae)),(0,eb c1),(5,.eqv (R66.ax st1.ae)),(0,eb c2),(4,R66.idx eZ),(1,.eqv (R42.ax x23))])))
def F75 (n:Nat) (s0:ag) (st1:ai) (bh:Int) (dh:Wq2):Option Int:=G4 n s0 st1 bh dh
theorem ev75 (n:Nat):K4 C75 AL (F75 n):=fun _ _ _ _ _ h=>ca (X:=x75) (ajH n h)
def abx (r:(Wq2×Bool)):AV:=.tup [.ms 200000 3 0 r.1.length,.bool r.2]
def V2 (r:(Wq2×Bool)):List (Nat×Bx):= [(200000,.rows true 65 3 (aN r.1))]
def x35:=fx E0 Tryz.f35 [] [200000]
def A35:=Ax x35 abx V2
def C35:=Cx E0 35 abx V2
def HS (n:Nat) (s0:ag) (st1:ai) (bh:Int) (dh:Wq2):Option (Wq2×Bool):=
 (F75 n s0 st1 bh dh).bind fun x9=>if decide (x9<0) then
 some ([],false)
 else
 (idx st1.ae bh).bind fun x17=>(idx x17 x9).bind fun x21=>(F54 n x21).bind fun x24=>some (x24,true)
theorem alk (n:Nat):K4 (A35 []) AL (HS n):=fun s0 st1 bh dh r h=>be h fun x9 hx9 h=>ie h (fun c0 h=>rr h [(8,.call (ev75 n hx9) [] [] []),(2,eb c0),(2,.born [8] [] 200000 true 65 3)]) (fun c0 h=>be h fun x17 gy h=>be h fun x21 gX h=>be h fun x24 fZ h=>rr h [(8,.call (ev75 n hx9) [] [] []),(2,eb c0),(3,R66.idx gy),(2,R42.idx gX),(1,.call (Eh n fZ) [] [] [(26,200000)]),(2,.ren 26 200000)])
def F35 (n:Nat) (s0:ag) (st1:ai) (bh:Int) (dh:Wq2):Option (Wq2×Bool):=HS n s0 st1 bh dh
theorem uD (n:Nat):K4 C35 AL (F35 n):=fun _ _ _ _ _ h=>ca (X:=x35) (alk n h)
def abw (r:Int):AV:=.int .i64 r
def V1 (r:Int):List (Nat×Bx):= []
def x36:=fx E0 Tryz.f36 [] []
def A36:=Ax x36 abw V1
def C36:=Cx E0 36 abw V1
def Um (t0:Int) (a1:Wq2) (u2:Int) (b3:Wq2):LS:=⟨[(0,.int .i64 t0),(1,.slx 65 3 (aN a1)),(2,.int .i64 u2),(3,.slx 65 3 (aN b3))],[]⟩
def Tz (n:Nat) (t0:Int) (a1:Wq2) (u2:Int) (b3:Wq2):Option Int:=
 if t0 !=u2 then
 if decide (t0<u2) then
 some (-1)
 else
 some 1
 else
 (F22 n a1 b3).bind fun x7=>some x7
theorem alj (n:Nat):K4 (A36 []) Um (Tz n):=fun t0 a1 u2 b3 r h=>ie h (fun c0 h=>ie h (fun c1 h=>rr h [(3,eb c0),(2,eb c1)]) (fun c1 h=>rr h [(3,eb c0),(2,eb c1)])) (fun c0 h=>be h fun x7 hx7 h=>rr h [(3,eb c0),(2,.call (qD n hx7) [] [] [])])
def F36 (n:Nat) (t0:Int) (a1:Wq2) (u2:Int) (b3:Wq2):Option Int:=Tz n t0 a1 u2 b3
theorem LJ (n:Nat):K4 C36 Um (F36 n):=fun _ _ _ _ _ h=>ca (X:=x36) (alj n h)
def abO (r:(Wq3×ak)):AV:=.ms 200000 5 0 r.1.length
def Wj (r:(Wq3×ak)):List (Nat×Bx):= [(0,.flat 74 (bQ r.2)),(200000,.rows false 55 5 (cy r.1))]
def x10:=fx E0 Tryz.f10 [0] [0,200000]
def A10:=Ax x10 abO Wj
def C10:=Cx E0 10 abO Wj
def JM (n10 i17:Int) (t29:Wq1) (t30:Int) (b0:ak) (b5:ag) (b6:ai) (b9:Wq3) (b50:Wq2) (b14:aA) (di:Wq0) (ni:Wq2):LS:=⟨[(0,.loc 0 0),(5,.loc 5 0),(6,.loc 6 0),(9,.ms 500009 5 0 b9.length),(10,.int .i64 n10),(12,.ms 50 3 0 b50.length),(14,.loc 14 0),(17,.int .i64 i17),(28,.loc 5 1),(29,.slice 63 5 (dr t29)),(30,.int .i64 t30),(31,.bool true)],[(0,.flat 74 (bQ b0)),(5,.flat 26 (bj b5)),(6,.flat 33 (dD b6)),(14,.flat 55 [.int .i64 b14.fOp,.int .i64 b14.au,.slx 65 3 (aN b14.aq),.ms 129 1 0 di.length,.ms 137 3 0 ni.length]),(50,.rows true 65 3 (aN b50)),(129,.rows true 3 1 (ba di)),(137,.rows true 65 3 (aN ni)),(500009,.rows false 55 5 (cy b9))]⟩
def JL (n10 mK:Int) (gO:Bool) (i20:Int) (t29:Wq1) (t30:Int) (b0:ak) (b5:ag) (b6:ai) (b9:Wq3) (b14:aA) (di:Wq0) (dS:Wq2):LS:=⟨[(0,.loc 0 0),(5,.loc 5 0),(6,.loc 6 0),(9,.ms 500009 5 0 b9.length),(10,.int .i64 n10),(14,.loc 14 0),(18,.int .i64 mK),(19,.bool gO),(20,.int .i64 i20),(28,.loc 5 1),(29,.slice 63 5 (dr t29)),(30,.int .i64 t30),(31,.bool true)],[(0,.flat 74 (bQ b0)),(5,.flat 26 (bj b5)),(6,.flat 33 (dD b6)),(14,.flat 55 [.int .i64 b14.fOp,.int .i64 b14.au,.slx 65 3 (aN b14.aq),.ms 129 1 0 di.length,.ms 601404 3 0 dS.length]),(129,.rows true 3 1 (ba di)),(500009,.rows false 55 5 (cy b9)),(601404,.rows true 65 3 (aN dS))]⟩
def JK (n10 mK:Int) (gO:Bool) (t29:Wq1) (t30:Int) (b0:ak) (b5:ag) (b6:ai) (b9:Wq3) (b14:aA) (di:Wq0) (dS:Wq2):LS:=⟨[(0,.loc 0 0),(5,.loc 5 0),(6,.loc 6 0),(9,.ms 500009 5 0 b9.length),(10,.int .i64 n10),(14,.loc 14 0),(18,.int .i64 mK),(19,.bool gO),(28,.loc 5 1),(29,.slice 63 5 (dr t29)),(30,.int .i64 t30),(31,.bool true)],[(0,.flat 74 (bQ b0)),(5,.flat 26 (bj b5)),(6,.flat 33 (dD b6)),(14,.flat 55 [.int .i64 b14.fOp,.int .i64 b14.au,.slx 65 3 (aN b14.aq),.ms 129 1 0 di.length,.ms 601404 3 0 dS.length]),(129,.rows true 3 1 (ba di)),(500009,.rows false 55 5 (cy b9)),(601404,.rows true 65 3 (aN dS))]⟩
def JJ (n10:Int) (t29:Wq1) (t30:Int) (b0:ak) (b5:ag) (b6:ai) (b9:Wq3) (b14:aA) (di:Wq0) (dS:Wq2):LS:=⟨[(0,.loc 0 0),(5,.loc 5 0),(6,.loc 6 0),(9,.ms 500009 5 0 b9.length),(10,.int .i64 n10),(14,.loc 14 0),(28,.loc 5 1),(29,.slice 63 5 (dr t29)),(30,.int .i64 t30),(31,.bool true)],[(0,.flat 74 (bQ b0)),(5,.flat 26 (bj b5)),(6,.flat 33 (dD b6)),(14,.flat 55 [.int .i64 b14.fOp,.int .i64 b14.au,.slx 65 3 (aN b14.aq),.ms 129 1 0 di.length,.ms 601404 3 0 dS.length]),(129,.rows true 3 1 (ba di)),(500009,.rows false 55 5 (cy b9)),(601404,.rows true 65 3 (aN dS))]⟩
def afF (n10 t11:Int) (t29:Wq1) (t30:Int) (b0:ak) (b5:ag) (b6:ai) (b9:Wq3) (b50:Wq2):LS:=⟨[(0,.loc 0 0),(5,.loc 5 0),(6,.loc 6 0),(9,.ms 500009 5 0 b9.length),(10,.int .i64 n10),(11,.int .i64 t11),(12,.ms 50 3 0 b50.length),(28,.loc 5 1),(29,.slice 63 5 (dr t29)),(30,.int .i64 t30),(31,.bool true)],[(0,.flat 74 (bQ b0)),(5,.flat 26 (bj b5)),(6,.flat 33 (dD b6)),(50,.rows true 65 3 (aN b50)),(500009,.rows false 55 5 (cy b9))]⟩
def sN (n10:Int) (b0:ak) (b5:ag) (b6:ai) (b9:Wq3):LS:=⟨[(0,.loc 0 0),(5,.loc 5 0),(6,.loc 6 0),(9,.ms 500009 5 0 b9.length),(10,.int .i64 n10)],[(0,.flat 74 (bQ b0)),(5,.flat 26 (bj b5)),(6,.flat 33 (dD b6)),(500009,.rows false 55 5 (cy b9))]⟩
def JI (b0:ak) (b9:Wq3):LS:=⟨[(9,.ms 500009 5 0 b9.length)],[(0,.flat 74 (bQ b0)),(500009,.rows false 55 5 (cy b9))]⟩
def Uu (c0:ak) (s1:ag) (st2:ai) (xE:Int):LS:=⟨[(0,.loc 0 0),(1,.agg (bj s1)),(2,.agg (dD st2)),(3,.int .i64 xE)],[(0,.flat 74 (bQ c0))]⟩
def Il (k_3:Wf9) (back:Int->Int->Wq1->Int->ak->ag->ai->Wq3->Wq2->aA->Wq0->Wq2->Option (Wq3×ak)) (n:Nat) (n10 i17:Int) (t29:Wq1) (t30:Int) (b0:ak) (b5:ag) (b6:ai) (b9:Wq3) (b50:Wq2) (b14:aA) (di:Wq0) (ni:Wq2):Option (Wq3×ak):=
 if decide (i17<(b50.length:Int)) then
 if b14.fOp==2 then
 (F29 n b0 2).bind fun x11=>if x11.1 then
 (app di [i17]).bind fun x17=>(bnd b50.length i17).bind fun x23=>(b50[0+x23]?).bind fun x25=>(app ni [x25]).bind fun x28=>back n10 (w64 (i17+1)) t29 t30 x11.2 b5 b6 b9 b50 (aA.mk b14.fOp b14.au b14.aq x17 x28) x17 x28
 else
 back n10 (w64 (i17+1)) t29 t30 x11.2 b5 b6 b9 b50 (aA.mk b14.fOp b14.au b14.aq di ni) di ni
 else
 k_3 n10 t29 t30 b0 b5 b6 b9 (aA.mk b14.fOp b14.au b14.aq di ni) di ni
 else
 k_3 n10 t29 t30 b0 b5 b6 b9 (aA.mk b14.fOp b14.au b14.aq di ni) di ni
theorem amk {k_3} (bu:K10 (A10 [1,1,1,1,1,0,0,1,0,0,1,0,1,1]) JJ k_3) {back} (ay:K12 (A10 [0,1,1,0,1,1,0,1,1,1,1,0,0,1,0,0,1,0,1,1]) JM back) (n:Nat):K12 (A10 [0,1,1,0,1,1,0,1,1,1,1,0,0,1,0,0,1,0,1,1]) JM (Il k_3 back n):=fun n10 i17 t29 t30 b0 b5 b6 b9 b50 b14 di ni r h=>ie h (fun c0_ h=>ie h (fun c1 h=>be h fun x11 cu h=>ie h (fun c2 h=>be h fun x17 gy h=>be h fun x23 eZ h=>be h fun x25 mn h=>be h fun x28 m8 h=>ra (ay h) [(3,eb c0_),(3,eb c1),(2,.call (cb (fC n cu) c2) [] [(0,0)] []),(4,R3.app gy (R3.srW [i17])),(4,cJ eZ),(0,R64.row mn),(1,R64.app m8 (R64.srW [x25]))]) (fun c2 h=>ra (ay h) [(3,eb c0_),(3,eb c1),(2,.call (cb (fC n cu) c2) [] [(0,0)] [])])) (fun c1 h=>ra (bu h) [(3,eb c0_),(3,eb c1),(1,.ren 137 601404)])) (fun c0_ h=>ra (bu h) [(3,eb c0_),(2,.ren 137 601404)])
def yR (k_3:Wf9):Nat->Int->Int->Wq1->Int->ak->ag->ai->Wq3->Wq2->aA->Wq0->Wq2->Option (Wq3×ak)
 |0,_,_,_,_,_,_,_,_,_,_,_,_=>none
 |n+1,n10,i17,t29,t30,b0,b5,b6,b9,b50,b14,di,ni=>Il k_3 (yR k_3 n) n n10 i17 t29 t30 b0 b5 b6 b9 b50 b14 di ni
theorem adh {k_3} (bu:K10 (A10 [1,1,1,1,1,0,0,1,0,0,1,0,1,1]) JJ k_3):∀n:Nat,K12 (A10 [0,1,1,0,1,1,0,1,1,1,1,0,0,1,0,0,1,0,1,1]) JM (yR k_3 n)
 |0=>fun _ _ _ _ _ _ _ _ _ _ _ _ _ h=>nz h
 |n+1=>fun _ _ _ _ _ _ _ _ _ _ _ _ _ h=>amk bu (adh bu n) n h
def Ik (k_2:Wf10) (back:Int->Int->Bool->Int->Wq1->Int->ak->ag->ai->Wq3->aA->Wq0->Wq2->Option (Wq3×ak)) (n:Nat) (n10 mK:Int) (gO:Bool) (i20:Int) (t29:Wq1) (t30:Int) (b0:ak) (b5:ag) (b6:ai) (b9:Wq3) (b14:aA) (di:Wq0) (dS:Wq2):Option (Wq3×ak):=
 if !decide (i20<0) then
 (bnd b9.length i20).bind fun x9=>(b9[0+x9]?).bind fun x12=>(bnd b9.length i20).bind fun x16=>(b9[0+x16]?).bind fun x19=>(F36 n b14.au b14.aq x12.au x19.aq).bind fun x21=>if x21==0 then
 back n10 mK true (w64 (i20 - 1)) t29 t30 b0 b5 b6 b9 (aA.mk b14.fOp b14.au b14.aq di dS) di dS
 else
 if x21==(-1) then
 back n10 i20 gO (w64 (i20 - 1)) t29 t30 b0 b5 b6 b9 (aA.mk b14.fOp b14.au b14.aq di dS) di dS
 else
 back n10 mK gO (w64 (i20 - 1)) t29 t30 b0 b5 b6 b9 (aA.mk b14.fOp b14.au b14.aq di dS) di dS
 else
 k_2 n10 mK gO t29 t30 b0 b5 b6 b9 (aA.mk b14.fOp b14.au b14.aq di dS) di dS
theorem amj {k_2} (bS:K12 (A10 [1,1,1,1,1,1,1,0,0,1,0,0,1,0,1,1]) JK k_2) {back} (ay:K13 (A10 [0,1,0,1,1,1,1,1,1,0,0,1,0,0,1,0,1,1]) JL back) (n:Nat):K13 (A10 [0,1,0,1,1,1,1,1,1,0,0,1,0,0,1,0,1,1]) JL (Ik k_2 back n):=fun n10 mK gO i20 t29 t30 b0 b5 b6 b9 b14 di dS r h=>ie h (fun c0_ h=>be h fun x9 hx9 h=>be h fun x12 cM h=>be h fun x16 de h=>be h fun x19 dL h=>be h fun x21 gX h=>ie h (fun c1 h=>ra (ay h) [(1,eb c0_),(6,cJ hx9),(1,R54.row cM),(2,cJ de),(1,R54.row dL),(0,.call (LJ n gX) [] [] []),(0,eb c1)]) (fun c1 h=>ie h (fun c2 h=>ra (ay h) [(1,eb c0_),(6,cJ hx9),(1,R54.row cM),(2,cJ de),(1,R54.row dL),(0,.call (LJ n gX) [] [] []),(0,eb c1),(1,eb c2)]) (fun c2 h=>ra (ay h) [(1,eb c0_),(6,cJ hx9),(1,R54.row cM),(2,cJ de),(1,R54.row dL),(0,.call (LJ n gX) [] [] []),(0,eb c1),(1,eb c2)]))) (fun c0_ h=>ra (bS h) [(1,eb c0_)])
def yQ (k_2:Wf10):Nat->Int->Int->Bool->Int->Wq1->Int->ak->ag->ai->Wq3->aA->Wq0->Wq2->Option (Wq3×ak)
 |0,_,_,_,_,_,_,_,_,_,_,_,_,_=>none
 |n+1,n10,mK,gO,i20,t29,t30,b0,b5,b6,b9,b14,di,dS=>Ik k_2 (yQ k_2 n) n n10 mK gO i20 t29 t30 b0 b5 b6 b9 b14 di dS
theorem adg {k_2} (bS:K12 (A10 [1,1,1,1,1,1,1,0,0,1,0,0,1,0,1,1]) JK k_2):∀n:Nat,K13 (A10 [0,1,0,1,1,1,1,1,1,0,0,1,0,0,1,0,1,1]) JL (yQ k_2 n)
 |0=>fun _ _ _ _ _ _ _ _ _ _ _ _ _ _ h=>nz h
 |n+1=>fun _ _ _ _ _ _ _ _ _ _ _ _ _ _ h=>amj bS (adg bS n) n h
def Ij (k_5:SC) (n:Nat) (n10 mK:Int) (gO:Bool) (t29:Wq1) (t30:Int) (b0:ak) (b5:ag) (b6:ai) (b9:Wq3) (b14:aA) (di:Wq0) (dS:Wq2):Option (Wq3×ak):=
 if !gO then
 (gd b9.length mK).bind fun x5=>(iQ b9.length mK).bind fun x11=>(app [(aA.mk b14.fOp b14.au b14.aq di dS)] ((b9.drop (0+x11)).take (b9.length - x11))).bind fun x13=>(oB b9 x5 x13).bind fun x15=>k_5 (w64 (n10 - 1)) b0 b5 b6 x15
 else
 k_5 (w64 (n10 - 1)) b0 b5 b6 b9
theorem ami {k_5} (fk:K5 (A10 [0,1,0,1,1]) sN k_5) (n:Nat):K12 (A10 [1,1,1,1,1,1,1,0,0,1,0,0,1,0,1,1]) JK (Ij k_5 n):=fun n10 mK gO t29 t30 b0 b5 b6 b9 b14 di dS r h=>ie h (fun c0_ h=>be h fun x5 hx5 h=>be h fun x11 cu h=>be h fun x13 bH h=>be h fun x15 cA h=>ra (fk h) [(1,eb c0_),(0,R3.frz 129 di),(0,R64.frz 601404 dS),(2,R54.gd (xs:=b9) hx5 (Nat.le_of_eq rfl)),(0,.nrm (.agg [.same,.same,.same,.sx 0 0,.sx 0 0])),(3,R54.iQ (xs:=b9) cu (Nat.le_of_eq rfl)),(0,R54.app bH (R54.sr (xs:=b9) (Er cu (Nat.le_of_eq rfl)))),(0,R54.oB cA (R54.srW x13))]) (fun c0_ h=>ra (fk h) [(1,eb c0_)])
def vk (k_5:SC) (n:Nat) (n10:Int) (t29:Wq1) (t30:Int) (b0:ak) (b5:ag) (b6:ai) (b9:Wq3) (b14:aA) (di:Wq0) (dS:Wq2):Option (Wq3×ak):=
 yQ (Ij k_5 n) n n10 (b9.length:Int) false (w64 ((b9.length:Int) - 1)) t29 t30 b0 b5 b6 b9 (aA.mk b14.fOp b14.au b14.aq di dS) di dS
theorem adJ {k_5} (fk:K5 (A10 [0,1,0,1,1]) sN k_5) (n:Nat):K10 (A10 [1,1,1,1,1,0,0,1,0,0,1,0,1,1]) JJ (vk k_5 n):=fun n10 t29 t30 b0 b5 b6 b9 b14 di dS r h=>ra (adg (ami fk n) n h) []
def za (k_5:SC) (n:Nat) (n10 t11:Int) (t29:Wq1) (t30:Int) (b0:ak) (b5:ag) (b6:ai) (b9:Wq3) (b50:Wq2):Option (Wq3×ak):=
 (idx b5.ae t11).bind fun x6=>(gd b50.length x6.aq).bind fun x10_=>(app [] ((b50.drop 0).take x10_)).bind fun x12=>(F35 n b5 b6 t11 x12).bind fun x23=>(F29 n b0 8).bind fun x32=>if !(x23.2==x32.1) then
 (F24 n x32.2 2).bind fun x36=>(idx b5.ae t11).bind fun x46=>yR (vk k_5 n) n n10 x46.aq t29 t30 x36.2 b5 b6 b9 b50 (aA.mk (w64 (2+x36.1)) t11 x12 [] []) [] []
 else
 vk k_5 n n10 t29 t30 x32.2 b5 b6 b9 (aA.mk 1 t11 x12 [] b50) [] b50
theorem Ss {k_5} (fk:K5 (A10 [0,1,0,1,1]) sN k_5) (n:Nat):K9 (A10 [1,1,1,0,0,1,0,0,1,0,1,1]) afF (za k_5 n):=fun n10 t11 t29 t30 b0 b5 b6 b9 b50 r h=>be h fun x6 hx6 h=>be h fun x10_ cw h=>be h fun x12 cM h=>be h fun x23 eZ h=>be h fun x32 mm h=>ie h (fun c0_ h=>be h fun x36 zZ h=>be h fun x46 Li h=>ra (adh (adJ fk n) n h) [(5,R62.idx hx6),(2,R64.gd (xs:=b50) cw (Nat.le_of_eq rfl)),(0,.born [] [] 85 true 65 3),(0,R64.app (xs:= []) cM (R64.sr (xs:=b50) (by rw [Nat.zero_add];exact (Nat.le_trans (km cw).2 (Nat.le_of_eq rfl))))),(9,R64.frz 85 x12),(0,.call (uD n eZ) [.one .same,.one .same,.one .same,.one (.sx 0 0)] [] [(309400,200000)]),(7,.call (fC n mm) [] [(0,0)] []),(0,eb c0_),(1,.call (bU n zZ) [] [(0,0)] []),(8,R62.idx Li),(3,.born [] [(14,3)] 129 true 3 1),(0,.born [] [(14,4)] 137 true 65 3)]) (fun c0_ h=>ra (adJ fk n h) [(5,R62.idx hx6),(2,R64.gd (xs:=b50) cw (Nat.le_of_eq rfl)),(0,.born [] [] 85 true 65 3),(0,R64.app (xs:= []) cM (R64.sr (xs:=b50) (by rw [Nat.zero_add];exact (Nat.le_trans (km cw).2 (Nat.le_of_eq rfl))))),(9,R64.frz 85 x12),(0,.call (uD n eZ) [.one .same,.one .same,.one .same,.one (.sx 0 0)] [] [(309400,200000)]),(7,.call (fC n mm) [] [(0,0)] []),(0,eb c0_),(0,.ren 50 601404),(0,.born [] [(14,3)] 129 true 3 1)])
def Ii (k_6:ak->Wq3->Option (Wq3×ak)) (back:SC) (n:Nat) (n10:Int) (b0:ak) (b5:ag) (b6:ai) (b9:Wq3):Option (Wq3×ak):=
 if decide (0<n10) then
 if decide (0<(b5.ae.length:Int)) then
 (F24 n b0 (b5.ae.length:Int)).bind fun x13=>(F32 n b5 x13.1).bind fun x19=>(idx b5.ae x13.1).bind fun x24=>(F33 n x13.2 x19 x24.aq 1).bind fun x28=>(idx b6.ae x13.1).bind fun x34=>if decide (0<(x34.length:Int)) then
 (F29 n x28.2 3).bind fun x43=>if !x43.1 then
 (F24 n x43.2 (x34.length:Int)).bind fun x54=>(idx x34 x54.1).bind fun x56=>(F34 n b5 x13.1 x56).bind fun x59=>(cpy x28.1 x59).bind fun x61=>za back n n10 x13.1 b5.ae (b5.ae.length:Int) x54.2 b5 b6 b9 x61
 else
 za back n n10 x13.1 b5.ae (b5.ae.length:Int) x43.2 b5 b6 b9 x28.1
 else
 za back n n10 x13.1 b5.ae (b5.ae.length:Int) x28.2 b5 b6 b9 x28.1
 else
 k_6 b0 b9
 else
 k_6 b0 b9
theorem amh {k_6} (je:K2 (A10 [1,1,1]) JI k_6) {back} (ay:K5 (A10 [0,1,0,1,1]) sN back) (n:Nat):K5 (A10 [0,1,0,1,1]) sN (Ii k_6 back n):=fun n10 b0 b5 b6 b9 r h=>ie h (fun c0_ h=>ie h (fun c1 h=>be h fun x13 bH h=>be h fun x19 dL h=>be h fun x24 fZ h=>be h fun x28 m8 h=>be h fun x34 uf h=>ie h (fun c2 h=>be h fun x43 ue h=>ie h (fun c3 h=>be h fun x54 Zj h=>be h fun x56 hx56 h=>be h fun x59 hx59 h=>be h fun x61 Ro h=>ra (Ss ay n h) [(1,eb c0_),(3,.eqv (R62.ax b5.ae)),(0,eb c1),(4,.eqv (R62.ax b5.ae)),(0,.call (bU n bH) [] [(0,0)] []),(4,.call (cd (e:=3) (z:=true) (Q:=ba x19) (kj n dL) (R3.len x19)) [] [] []),(3,R62.idx fZ),(2,.call (RQ n m8) [.one .same,.one (.sx 0 0)] [(0,0)] [(50,200000)]),(4,R66.idx uf),(3,.eqv (R42.ax x34)),(0,eb c2),(2,.call (fC n ue) [] [(0,0)] []),(0,eb c3),(7,.eqv (R42.ax x34)),(0,.call (bU n Zj) [] [(0,0)] []),(0,R42.idx hx56),(1,.call (ow n hx59) [] [] [(74,200000)]),(0,R64.cpy Ro (R64.srW x59)),(0,.seq 12 (congrArg (fun n_=>(AV.ms 50 3 0 n_)) ((aeU Ro).symm)))]) (fun c3 h=>ra (Ss ay n h) [(1,eb c0_),(3,.eqv (R62.ax b5.ae)),(0,eb c1),(4,.eqv (R62.ax b5.ae)),(0,.call (bU n bH) [] [(0,0)] []),(4,.call (cd (e:=3) (z:=true) (Q:=ba x19) (kj n dL) (R3.len x19)) [] [] []),(3,R62.idx fZ),(2,.call (RQ n m8) [.one .same,.one (.sx 0 0)] [(0,0)] [(50,200000)]),(4,R66.idx uf),(3,.eqv (R42.ax x34)),(0,eb c2),(2,.call (fC n ue) [] [(0,0)] []),(0,eb c3)])) (fun c2 h=>ra (Ss ay n h) [(1,eb c0_),(3,.eqv (R62.ax b5.ae)),(0,eb c1),(4,.eqv (R62.ax b5.ae)),(0,.call (bU n bH) [] [(0,0)] []),(4,.call (cd (e:=3) (z:=true) (Q:=ba x19) (kj n dL) (R3.len x19)) [] [] []),(3,R62.idx fZ),(2,.call (RQ n m8) [.one .same,.one (.sx 0 0)] [(0,0)] [(50,200000)]),(4,R66.idx uf),(3,.eqv (R42.ax x34)),(0,eb c2)])) (fun c1 h=>ra (je h) [(1,eb c0_),(3,.eqv (R62.ax b5.ae)),(0,eb c1)])) (fun c0_ h=>ra (je h) [(1,eb c0_)])
def rQ (k_6:ak->Wq3->Option (Wq3×ak)):Nat->Int->ak->ag->ai->Wq3->Option (Wq3×ak)
 |0,_,_,_,_,_=>none
 |n+1,n10,b0,b5,b6,b9=>Ii k_6 (rQ k_6 n) n n10 b0 b5 b6 b9
theorem adf {k_6} (je:K2 (A10 [1,1,1]) JI k_6):∀n:Nat,K5 (A10 [0,1,0,1,1]) sN (rQ k_6 n)
 |0=>fun _ _ _ _ _ _ h=>nz h
 |n+1=>fun _ _ _ _ _ _ h=>amh je (adf je n) n h
def y9 (n:Nat) (b0:ak) (b9:Wq3):Option (Wq3×ak):=
 some (b9,b0)
theorem amg (n:Nat):K2 (A10 [1,1,1]) JI (y9 n):=fun b0 b9 r h=>rr h [(2,.ren 500009 200000)]
def TR (n:Nat) (c0:ak) (s1:ag) (st2:ai) (xE:Int):Option (Wq3×ak):=
 (F24 n c0 (w64 (xE+1))).bind fun x8=>rQ (y9 n) n x8.1 x8.2 s1 st2 []
theorem amf (n:Nat):K4 (A10 []) Uu (TR n):=fun c0 s1 st2 xE r h=>be h fun x8 hx8 h=>ra (adf (amg n) n h) [(7,.call (bU n hx8) [] [(0,0)] []),(1,.born [9] [] 500009 true 55 5)]
def F10 (n:Nat) (c0:ak) (s1:ag) (st2:ai) (xE:Int):Option (Wq3×ak):=TR n c0 s1 st2 xE
theorem RV (n:Nat):K4 C10 Uu (F10 n):=fun _ _ _ _ _ h=>ca (X:=x10) (amf n h)
def abv (r:(ai×Wq9)):AV:=.agg [.ms 100100 1 0 r.2.length]
def V0 (r:(ai×Wq9)):List (Nat×Bx):= [(100100,.rows false 66 1 (bN r.2))]
def x37:=fx E0 Tryz.f37 [100100] [100100]
def A37:=Ax x37 abv V0
def C37:=Cx E0 37 abv V0
def afz (bh:Int) (dh eY:Wq2) (eU:Bool) (r14:Wq2) (c15:Int) (t23:Wq8) (t24 t25:Int) (bL:Wq9) (b5:ag) (b6 b10:ai) (b45:Wq8):LS:=⟨[(2,.int .i64 bh),(3,.slx 65 3 (aN dh)),(4,.slx 65 3 (aN eY)),(5,.loc 5 0),(6,.loc 6 0),(10,.loc 10 0),(11,.ms 45 1 0 b45.length),(12,.bool eU),(14,.slx 65 3 (aN r14)),(15,.int .i64 c15),(23,.slx 43 1 (bG t23)),(24,.int .i64 t24),(25,.int .i64 t25)],[(5,.flat 26 (bj b5)),(6,.flat 33 [.ms 100100 1 0 bL.length]),(10,.flat 33 [.aU]),(45,.rows true 43 1 (bG b45)),(100100,.rows false 66 1 (bN bL))]⟩
def AQ (bh:Int) (dh eY:Wq2) (eU:Bool) (t23:Wq8) (t24 t25:Int) (bL:Wq9) (b5:ag) (b6 b10:ai) (b45:Wq8):LS:=⟨[(2,.int .i64 bh),(3,.slx 65 3 (aN dh)),(4,.slx 65 3 (aN eY)),(5,.loc 5 0),(6,.loc 6 0),(10,.loc 10 0),(11,.ms 45 1 0 b45.length),(12,.bool eU),(23,.slx 43 1 (bG t23)),(24,.int .i64 t24),(25,.int .i64 t25)],[(5,.flat 26 (bj b5)),(6,.flat 33 [.ms 100100 1 0 bL.length]),(10,.flat 33 [.aU]),(45,.rows true 43 1 (bG b45)),(100100,.rows false 66 1 (bN bL))]⟩
def afy (bh:Int) (bL:Wq9) (b6 b10:ai) (b45:Wq8):LS:=⟨[(2,.int .i64 bh),(6,.loc 6 0),(10,.loc 10 0),(11,.ms 45 1 0 b45.length)],[(6,.flat 33 [.ms 100100 1 0 bL.length]),(10,.flat 33 [.aU]),(45,.rows true 43 1 (bG b45)),(100100,.rows false 66 1 (bN bL))]⟩
def Jq (bh:Int) (eY:Wq2) (eU:Bool) (bL:Wq9) (b6 b10:ai) (b45:Wq8):LS:=⟨[(2,.int .i64 bh),(4,.slx 65 3 (aN eY)),(6,.loc 6 0),(10,.loc 10 0),(11,.ms 45 1 0 b45.length),(12,.bool eU)],[(6,.flat 33 [.ms 100100 1 0 bL.length]),(10,.flat 33 [.aU]),(45,.rows true 43 1 (bG b45)),(100100,.rows false 66 1 (bN bL))]⟩
def Ul (s0:ag) (st1:ai) (bh:Int) (dh eY:Wq2):LS:=⟨[(0,.agg (bj s0)),(1,.agg [.ms 100100 1 0 st1.ae.length]),(2,.int .i64 bh),(3,.slx 65 3 (aN dh)),(4,.slx 65 3 (aN eY))],[(100100,.rows false 66 1 (bN st1.ae))]⟩
def y7 (k_1:Wf12) (n:Nat) (bh:Int) (dh eY:Wq2) (eU:Bool) (r14:Wq2) (c15:Int) (t23:Wq8) (t24 t25:Int) (bL:Wq9) (b5:ag) (b6 b10:ai) (b45:Wq8):Option (ai×Wq9):=
 if c15 !=0 then
 (app b45 [r14]).bind fun x6=>k_1 bh dh eY eU t23 t24 (w64 (t25+1)) bL b5 (ai.mk bL) (ai.mk []) x6
 else
 k_1 bh dh eY eU t23 t24 (w64 (t25+1)) bL b5 (ai.mk bL) (ai.mk []) b45
theorem Sq {k_1} (aD:K12 (A37 [0,1,0,1,1,1]) AQ k_1) (n:Nat):K14 (A37 [1,1,1,0,0,1,1,0,0,1,0,1,1,1]) afz (y7 k_1 n):=fun bh dh eY eU r14 c15 t23 t24 t25 bL b5 b6 b10 b45 r h=>ie h (fun c0 h=>be h fun x6 hx6 h=>ra (aD h) [(1,eb c0),(3,R42.app hx6 (R42.srW [r14]))]) (fun c0 h=>ra (aD h) [(1,eb c0)])
def HQ (k_3:Wf13) (back:Wf12) (n:Nat) (bh:Int) (dh eY:Wq2) (eU:Bool) (t23:Wq8) (t24 t25:Int) (bL:Wq9) (b5:ag) (b6 b10:ai) (b45:Wq8):Option (ai×Wq9):=
 if decide (t25<t24) then
 (idx t23 t25).bind fun x2=>(F34 n b5 bh x2).bind fun x9=>(F22 n x9 dh).bind fun x12=>if !decide (x12<0) then
 if !eU then
 (F54 n eY).bind fun x23=>(app b45 [x23]).bind fun x26=>y7 back n bh dh eY true x2 x12 t23 t24 t25 bL b5 (ai.mk bL) (ai.mk []) x26
 else
 y7 back n bh dh eY eU x2 x12 t23 t24 t25 bL b5 (ai.mk bL) (ai.mk []) b45
 else
 y7 back n bh dh eY eU x2 x12 t23 t24 t25 bL b5 (ai.mk bL) (ai.mk []) b45
 else
 k_3 bh eY eU bL (ai.mk bL) (ai.mk []) b45
theorem ali {k_3} (bu:K7 (A37 [1,1,1,1]) Jq k_3) {back} (ay:K12 (A37 [0,1,0,1,1,1]) AQ back) (n:Nat):K12 (A37 [0,1,0,1,1,1]) AQ (HQ k_3 back n):=fun bh dh eY eU t23 t24 t25 bL b5 b6 b10 b45 r h=>ie h (fun c0 h=>be h fun x2 hx2 h=>be h fun x9 hx9 h=>be h fun x12 cM h=>ie h (fun c1 h=>ie h (fun c2 h=>be h fun x23 eZ h=>be h fun x26 kb h=>ra (Sq ay n h) [(0,eb c0),(0,R42.idx hx2),(5,.call (ow n hx9) [] [] [(32,200000)]),(1,R64.frz 32 x9),(0,.call (qD n cM) [.one (.sx 0 0)] [] []),(2,eb c1),(2,eb c2),(3,.call (Eh n eZ) [] [] [(43,200000)]),(0,R64.frz 43 x23),(0,.norm [(43,.one (.sx 0 0))] []),(1,R42.app kb (R42.srW [x23]))]) (fun c2 h=>ra (Sq ay n h) [(0,eb c0),(0,R42.idx hx2),(5,.call (ow n hx9) [] [] [(32,200000)]),(1,R64.frz 32 x9),(0,.call (qD n cM) [.one (.sx 0 0)] [] []),(2,eb c1),(2,eb c2)])) (fun c1 h=>ra (Sq ay n h) [(0,eb c0),(0,R42.idx hx2),(5,.call (ow n hx9) [] [] [(32,200000)]),(1,R64.frz 32 x9),(0,.call (qD n cM) [.one (.sx 0 0)] [] []),(2,eb c1)])) (fun c0 h=>ra (bu h) [(0,eb c0)])
def vg (k_3:Wf13):Nat->Int->Wq2->Wq2->Bool->Wq8->Int->Int->Wq9->ag->ai->ai->Wq8->Option (ai×Wq9)
 |0,_,_,_,_,_,_,_,_,_,_,_,_=>none
 |n+1,bh,dh,eY,eU,t23,t24,t25,bL,b5,b6,b10,b45=>HQ k_3 (vg k_3 n) n bh dh eY eU t23 t24 t25 bL b5 b6 b10 b45
theorem acO {k_3} (bu:K7 (A37 [1,1,1,1]) Jq k_3):∀n:Nat,K12 (A37 [0,1,0,1,1,1]) AQ (vg k_3 n)
 |0=>fun _ _ _ _ _ _ _ _ _ _ _ _ _ h=>nz h
 |n+1=>fun _ _ _ _ _ _ _ _ _ _ _ _ _ h=>ali bu (acO bu n) n h
def HP (n:Nat) (bh:Int) (bL:Wq9) (b6 b10:ai) (b45:Wq8):Option (ai×Wq9):=
 (bnd bL.length bh).bind fun x5=>(bL[0+x5]?).bind fun x7=>(setAt bL (0+x5) b45).bind fun z8=>some ((ai.mk z8),z8)
theorem adH (n:Nat):K5 (A37 [1,1,1,1,1]) afy (HP n):=fun bh bL b6 b10 b45 r h=>be h fun x5 hx5 h=>be h fun x7 hx7 h=>be h fun z8 hz8 h=>rr h [(4,cJ hx5),(0,R42.frz 45 b45),(0,.norm [(63,.one (.sx 0 0))] []),(0,R66.sto 0 [.slx 43 1 (bG b45)] hx7 hz8 (by kernel_rfl)),(2,.beq 10 (congrArg (fun n_=>(Bx.flat 33 [.ms 100100 1 0 n_])) ((bY hz8).symm)))]
def Cv (n:Nat) (bh:Int) (eY:Wq2) (eU:Bool) (bL:Wq9) (b6 b10:ai) (b45:Wq8):Option (ai×Wq9):=
 if !eU then
 (F54 n eY).bind fun x5=>(app b45 [x5]).bind fun x8=>HP n bh bL (ai.mk bL) (ai.mk []) x8
 else
 HP n bh bL (ai.mk bL) (ai.mk []) b45
theorem alh (n:Nat):K7 (A37 [1,1,1,1]) Jq (Cv n):=fun bh eY eU bL b6 b10 b45 r h=>ie h (fun c0 h=>be h fun x5 hx5 h=>be h fun x8 hx8 h=>ra (adH n h) [(1,eb c0),(2,.call (Eh n hx5) [] [] [(57,200000)]),(0,R64.frz 57 x5),(0,.norm [(57,.one (.sx 0 0))] []),(1,R42.app hx8 (R42.srW [x5]))]) (fun c0 h=>ra (adH n h) [(1,eb c0)])
def Ty (n:Nat) (s0:ag) (st1:ai) (bh:Int) (dh eY:Wq2):Option (ai×Wq9):=
 (bnd st1.ae.length bh).bind fun x12=>(st1.ae[0+x12]?).bind fun x14=>vg (Cv n) n bh dh eY ((eY.length:Int)==0) x14 (x14.length:Int) 0 st1.ae s0 st1 (ai.mk []) []
theorem alg (n:Nat):K5 (A37 []) Ul (Ty n):=fun s0 st1 bh dh eY r h=>be h fun x12 cM h=>be h fun x14 dU h=>ra (acO (alh n) n h) [(5,.eqv (R64.ax eY)),(5,cJ cM),(0,R66.row dU),(0,.eqv (R42.ax x14)),(1,.born [11] [] 45 true 43 1)]
def F37 (n:Nat) (s0:ag) (st1:ai) (bh:Int) (dh eY:Wq2):Option (ai×Wq9):=Ty n s0 st1 bh dh eY
theorem RP (n:Nat):K5 C37 Ul (F37 n):=fun _ _ _ _ _ _ h=>ca (X:=x37) (alg n h)
end Go.Proofs.YtmealahmjddpcaaGreatDoor
end
