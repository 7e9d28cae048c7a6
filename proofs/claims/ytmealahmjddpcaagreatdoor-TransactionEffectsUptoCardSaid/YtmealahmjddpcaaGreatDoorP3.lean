/- Texts that belong together. The first: A region that draws its order. -/
import Derived.Test.YtmealahmjddpcaaGreatDoorP2
import Derived.Lib.Bytealg
import Derived.Laws.Externs
import Derived.Maps.RangeRun
set_option linter.all false
noncomputable section
namespace Go.Sim
open Go.RowKit
section
variable {E:Env} {g:Gh} {f:Hf} {w:World}
structure DS where
 T:Tf
 F:Hf
structure Stp where
 dst:Option Nat
 v:SV
 D:Nat→Bool
 H:Hf
def DS.app (s:DS) (u:Stp):DS:=⟨mM s.T u.dst u.v,gg u.D u.H s.F⟩
def stP (us:Nat→Stp) (l:List Nat) (p:Nat→Bool) (s:DS):DS:=(l.filter p).foldl (fun s j=>s.app (us j)) s
theorem Fv (us:Nat→Stp) (t:Nat) (p q:Nat→Bool):∀(l:List Nat) (s s2:DS),s.T t=s2.T t→(∀j∈l,(us j).dst=some t→p j=q j)→(stP us l p s).T t=(stP us l q s2).T t
 | [],s,s2,h,_=>h
 |j::l,s,s2,h,hpq=>by
  have jH:=fun s s2 hs=>Fv us t p q l s s2 hs (fun i hi=>hpq i (List.mem_cons_of_mem _ hi))
  have sf:∀s:DS,(s.app (us j)).T t=if (us j).dst=some t then some (us j).v else s.T t:=fun s=>rfl
  unfold stP at jH ⊢;by_cases hl:(us j).dst=some t
  ·have:=hpq j (by simp) hl
   cases hp:p j
   ·rw[hp] at this;simp only[List.filter_cons,hp,←this];exact jH s s2 h
   ·rw[hp] at this;simp only[List.filter_cons,hp,←this,if_true,List.foldl_cons];exact jH _ _ (by rw[sf,sf,if_pos hl,if_pos hl])
  ·have key:∀s:DS,(s.app (us j)).T t=s.T t:=fun s=>by rw[sf,if_neg hl]
   cases hp:p j<;>cases hq:q j<;>simp only[List.filter_cons,hp,hq,if_true,List.foldl_cons,Bool.false_eq_true,if_false]
   ·exact jH _ _ h
   ·exact jH _ _ (by rw[key];exact h)
   ·exact jH _ _ (by rw[key];exact h)
   ·exact jH _ _ (by rw[key,key];exact h)
theorem Fw (us:Nat→Stp) (x:Nat) (p q:Nat→Bool):∀(l:List Nat) (s s2:DS),s.F x=s2.F x→(∀j∈l,(us j).D x=true→p j=q j)→(stP us l p s).F x=(stP us l q s2).F x
 | [],s,s2,h,_=>h
 |j::l,s,s2,h,hpq=>by
  have jH:=fun s s2 hs=>Fw us x p q l s s2 hs (fun i hi=>hpq i (List.mem_cons_of_mem _ hi))
  have sf:∀s:DS,(s.app (us j)).F x=if (us j).D x=true then (us j).H x else s.F x:=fun s=>rfl
  unfold stP at jH ⊢;by_cases hl:(us j).D x=true
  ·have:=hpq j (by simp) hl
   cases hp:p j
   ·rw[hp] at this;simp only[List.filter_cons,hp,←this];exact jH s s2 h
   ·rw[hp] at this;simp only[List.filter_cons,hp,←this,if_true,List.foldl_cons];exact jH _ _ (by rw[sf,sf,if_pos hl,if_pos hl])
  ·have key:∀s:DS,(s.app (us j)).F x=s.F x:=fun s=>by rw[sf,if_neg hl]
   cases hp:p j<;>cases hq:q j<;>simp only[List.filter_cons,hp,hq,if_true,List.foldl_cons,Bool.false_eq_true,if_false]
   ·exact jH _ _ h
   ·exact jH _ _ (by rw[key];exact h)
   ·exact jH _ _ (by rw[key];exact h)
   ·exact jH _ _ (by rw[key,key];exact h)
theorem DS.ext' {s t:DS} (h1:∀u,s.T u=t.T u) (h2:∀k,s.F k=t.F k):s=t:=by
 cases s;cases t;simp only[DS.mk.injEq];exact ⟨funext h1,funext h2⟩
theorem qO (i n:Nat) (h:i≤n):(List.range' 0 n).filter (fun j=>decide (j<i))=List.range' 0 i:=by
 obtain ⟨m,rfl⟩:=Nat.exists_eq_add_of_le h;rw[←List.range'_append_1,List.filter_append];have h1:(List.range' 0 i).filter (fun j=>decide (j<i))=List.range' 0 i:=List.filter_eq_self.2 fun x hx=>by simp[List.mem_range'_1] at hx;simpa using hx
 have h2:(List.range' (0+i) m).filter (fun j=>decide (j<i))= []:=List.filter_eq_nil_iff.2 fun x hx=>by simp[List.mem_range'_1] at hx;simp;omega
 rw[h1,h2];simp
theorem HE (us:Nat→Stp) (p:Nat→Bool) (i n:Nat) (h:i<n) (hp:p i=true) (s:DS):stP us (List.range' 0 n) (fun j=>p j&&decide (j≤i)) s=(stP us (List.range' 0 i) p s).app (us i):=by
 obtain ⟨m,rfl⟩:=Nat.exists_eq_add_of_lt h;have e:List.range' 0 (i+m+1)=List.range' 0 i++(i::List.range' (i+1) m):=by
  rw[show i+m+1=i+(m+1) from by omega,←List.range'_append_1]
  simp[List.range'_succ]
 unfold stP;rw[e,List.filter_append,List.filter_cons];have h1:(List.range' 0 i).filter (fun j=>p j&&decide (j≤i))=(List.range' 0 i).filter p:=List.filter_congr fun x hx=>by simp[List.mem_range'_1] at hx;simp;omega
 have h2:(List.range' (i+1) m).filter (fun j=>p j&&decide (j≤i))= []:=List.filter_eq_nil_iff.2 fun x hx=>by simp[List.mem_range'_1] at hx;simp;omega
 rw[h1,h2];simp[hp]
theorem Zt (l:Array Bool) (i j:Nat) (h:i<l.size) (d:Bool):(l.setIfInBounds i true).getD j d=if j=i then true else l.getD j d:=by
 simp only[Array.getD_eq_getD_getElem?,Array.getElem?_setIfInBounds];by_cases hj:j=i
 ·subst hj;simp[h]
 ·simp[hj,Ne.symm hj]
def direct (ops:Array Oper) (j:Nat):List Nat:=((ops[j]?).map dt).getD []
def anc (ops:Array Oper):Nat→Nat→List Nat
 |0,_=> []
 |n+1,j=>direct ops j++(direct ops j).flatMap (anc ops n)
theorem o9 {ops:Array Oper} {S:Nat→Prop} (hS:∀j,S j→∀i∈direct ops j,S i):∀(n j:Nat),S j→∀i∈anc ops n j,S i
 |0,_,_,i,hi=>by simp[anc] at hi
 |n+1,j,hj,i,hi=>by
  simp only[anc,List.mem_append,List.mem_flatMap] at hi;rcases hi with hi|⟨k,hk,hi⟩
  ·exact hS j hj i hi
  ·exact o9 hS n k (hS j hj k hk) i hi
theorem BF {ops:Array Oper} {S:Nat→Prop} (hS:∀j,S j→∀i∈direct ops j,S i):∀(n j:Nat),(∀i∈direct ops j,S i)→∀i∈anc ops n j,S i
 |0,_,_,i,hi=>by simp[anc] at hi
 |n+1,j,hj,i,hi=>by
  simp only[anc,List.mem_append,List.mem_flatMap] at hi;rcases hi with hi|⟨k,hk,hi⟩
  ·exact hj i hi
  ·exact o9 hS n k (hj k hk) i hi
theorem tB {ops:Array Oper} {listed:Array Bool} {i:Nat}:i∈Region.ready .any ops listed↔i<ops.size∧listed.getD i true=false∧∀j∈direct ops i,listed.getD j false=true:=by
 unfold Region.ready;simp only[List.mem_filter,List.mem_range,Bool.and_eq_true,Bool.not_eq_true'];constructor
 ·rintro ⟨h1,h2,h3⟩;refine ⟨h1,h2,fun j hj=> ?_⟩
  unfold direct at hj;rw[Array.getElem?_eq_getElem h1] at hj h3;simp only[Option.map_some,Option.getD_some,dt,List.mem_map,List.mem_filter] at hj h3;obtain ⟨e,⟨he1,he2⟩,rfl⟩:=hj;rw[Array.all_eq_true'] at h3;have:=h3 e (by simpa using he1)
  simpa[he2] using this
 ·rintro ⟨h1,h2,h3⟩;refine ⟨h1,h2,?_⟩;rw[Array.getElem?_eq_getElem h1];simp only[Option.map_some,Option.getD_some];rw[Array.all_eq_true'];intro e he;by_cases hb:Region.binds .any e=true
  ·have:=h3 e.on (by
    unfold direct;rw[Array.getElem?_eq_getElem h1];simp only[Option.map_some,Option.getD_some,dt,List.mem_map,List.mem_filter];exact ⟨e,⟨by simpa using he,hb⟩,rfl⟩)
   simp[this]
  ·simp[hb]
theorem HR.DL {w':World} (h:HR g f w) (he:w'.heap=w.heap):HR g f w':=
 ⟨fun id o ho=>by
  obtain ⟨b,c,q1,q2,q3⟩:=h.ob id o ho;exact ⟨b,c,q1,by rw[he];exact q2,q3.mono (.refl _) q1 (by rw[he])⟩,h.inj⟩
theorem Fr.DL {w':World} (he:w'.heap=w.heap) (h1:w'.os=w.os) (h2:w'.tape=w.tape) (h3:w'.output=w.output):Fr g f w g f w':=
 ⟨h1,h2,h3,by rw[he];exact Nat.le_refl _,.refl _,fun b _ _=>by rw[he],fun _ _ h=>h⟩
structure Ind (ops:Array Oper) (us:Nat→Stp) (need:Nat→Nat→Prop) (i j:Nat):Prop where
 s1:∀t,(us i).dst=some t→∀o,ops[j]? =some o→t∉o.looksAt ops
 s2:∀t,(us j).dst=some t→∀o,ops[i]? =some o→t∉o.looksAt ops
 s3:∀t,(us i).dst=some t→(us j).dst≠some t
 d:∀x,(us i).D x=true→(us j).D x=false
 n1:∀x,need j x→(us i).D x=false
 n2:∀x,need i x→(us j).D x=false
theorem Ra {S:Nat→Prop} {ro:Option Nat} {nt:Nat} {ops:Array Oper} {U:Nat→Stp} {need frp newp:Nat→Nat→Prop} {s0:DS} (tT:E.P.follows .mixedOrders=true)
  (tR:∀i (hi:i<ops.size),¬S i→(U i).dst=ops[i].dst∧nG E ro nt ops i ops[i] (stP U (List.range' 0 i) (fun _=>true) s0).T (need i) (stP U (List.range' 0 i) (fun _=>true) s0).F (frp i) (newp i) (U i).v (U i).D (U i).H)
  (hd:∀j,j<ops.size→(∀i∈direct ops j,i<j)∧∀i,i<j→i∈anc ops ops.size j∨Ind ops U need i j)
  (hfp:∀i k,i<ops.size→k<ops.size→i≠k→∀x,frp i x→newp k x→i∈anc ops ops.size k)
  {a:Act} {id m:Nat} {Q:Exit→Act→World→Prop} (hE:bu E g) (hfr:FR g nt s0.T a.tmps) (hr:HR g s0.F w) (eL:∀i,i<ops.size→∀x,frp i x→g.ρ x=none)
  (ahP:∀i,i<ops.size→S i→i+1=ops.size∧(∀j,j<i→j∈anc ops ops.size i)∧∀(g1:Gh) (a1:Act) (w1:World) (K:Act→World→Prop),bu E g1→FR g1 nt (stP U (List.range' 0 i) (fun _=>true) s0).T a1.tmps→HR g1 (stP U (List.range' 0 i) (fun _=>true) s0).F w1→
   Fr g s0.F w g1 (stP U (List.range' 0 i) (fun _=>true) s0).F w1→a1.defers=a.defers→(∀x,g1.ρ x≠g.ρ x→∃k,k<i∧newp k x)→wpOpIn (fro ro) m E.P ops Q i K a1 w1)
  (hq:(∀i,i<ops.size→¬S i)→∀g' a' w',FR g' nt (stP U (List.range' 0 ops.size) (fun _=>true) s0).T a'.tmps→HR g' (stP U (List.range' 0 ops.size) (fun _=>true) s0).F w'→Fr g s0.F w g' (stP U (List.range' 0 ops.size) (fun _=>true) s0).F w'→a'.defers=a.defers→
   (∀x,(∀i,i<ops.size→¬newp i x)→g'.ρ x=g.ρ x)→Q .normal a' w'):(Code.region id ops true).wpIn (fro ro) m E.P Q a w:=by
 let n:=ops.size;have key:∀(fuel:Nat) (listed:Array Bool) (a1:Act) (w1:World) (g1:Gh),listed.size=n→(∀j,listed.getD j false=true→∀i∈direct ops j,listed.getD i false=true)→
   ((List.range' 0 n).filter (fun j=> !listed.getD j false)).length=fuel→bu E g1→FR g1 nt (stP U (List.range' 0 n) (fun j=>listed.getD j false) s0).T a1.tmps→HR g1 (stP U (List.range' 0 n) (fun j=>listed.getD j false) s0).F w1→
   Fr g s0.F w g1 (stP U (List.range' 0 n) (fun j=>listed.getD j false) s0).F w1→a1.defers=a.defers→(∀x,g1.ρ x≠g.ρ x→∃k,k<n∧listed.getD k false=true∧newp k x)→(∀j,listed.getD j false=true→¬S j)→wpAnyIn (fro ro) m E.P .any ops Q fuel listed a1 w1:=by
  intro fuel;induction fuel with
  |zero=>
   intro listed a1 w1 g1 hsz hcl Ki hE1 DK hr1 hf1 hdf Kc hns;have om:∀j,j<n→listed.getD j false=true:=by
    intro j hj;have:=List.filter_eq_nil_iff.1 (List.eq_nil_of_length_eq_zero Ki) j (by simp[List.mem_range'_1];exact hj)
    simpa using this
   have hst:stP U (List.range' 0 n) (fun j=>listed.getD j false) s0=stP U (List.range' 0 n) (fun _=>true) s0:=by
    unfold stP;congr 1;exact List.filter_congr fun x hx=>by simp[List.mem_range'_1] at hx;simpa using om x hx
   rw[hst] at DK hr1 hf1;refine ⟨?_,hq (fun i hi=>hns i (om i hi)) g1 a1 w1 DK hr1 hf1 hdf (fun x hx=> ?_)⟩
   ·rw[List.eq_nil_iff_forall_not_mem];intro i hi;obtain ⟨h1,h2,_⟩:=tB.1 hi;have:=om i h1;simp only[Array.getD_eq_getD_getElem?] at this h2;rw[Array.getElem?_eq_getElem (by rw[hsz];exact h1)] at this h2
    simp at this h2;rw[this] at h2;simp at h2
   ·by_cases he:g1.ρ x=g.ρ x
    ·exact he
    ·obtain ⟨k,k1,_,k3⟩:=Kc x he;exact absurd k3 (hx k k1)
  |succ fuel ih=>
   intro listed a1 w1 g1 hsz hcl Ki hE1 DK hr1 hf1 hdf Kc hns;have hun:∀j,j<n→listed.getD j true=listed.getD j false:=by
    intro j hj;simp only[Array.getD_eq_getD_getElem?];rw[Array.getElem?_eq_getElem (by rw[hsz];exact hj)];rfl
   refine ⟨fun hr=> ?_,fun i hi=> ?_⟩
   ·exfalso;have hne:(List.range' 0 n).filter (fun j=> !listed.getD j false)≠ []:=by intro he;rw[he] at Ki;simp at Ki
    obtain ⟨i0,hi0⟩:=List.exists_mem_of_ne_nil _ hne;have hex:∃i,i<n∧listed.getD i false=false:=⟨i0,by simp[List.mem_range'_1] at hi0;exact hi0.1,by simp at hi0;simpa using hi0.2⟩
    have:∀m,(∃i,i≤m∧i<n∧listed.getD i false=false)→∃i,i<n∧listed.getD i false=false∧∀j,j<i→listed.getD j false=true:=by
     intro m;induction m with
     |zero=>rintro ⟨i,h1,h2,h3⟩;exact ⟨i,h2,h3,fun j hj=>by omega⟩
     |succ m ihm=>
      rintro ⟨i,h1,h2,h3⟩;by_cases hj:∃j,j<i∧listed.getD j false=false
      ·obtain ⟨j,hj1,hj2⟩:=hj;exact ihm ⟨j,by omega,by omega,hj2⟩
      ·exact ⟨i,h2,h3,fun j hj'=>by
        cases hq:listed.getD j false with
        |true=>rfl
        |false=>exact absurd ⟨j,hj',hq⟩ hj⟩
    obtain ⟨i,hi1,hi2⟩:=hex;obtain ⟨k,k1,k2,k3⟩:=this i ⟨i,Nat.le_refl _,hi1,hi2⟩;have:k∈Region.ready .any ops listed:=tB.2 ⟨k1,by rw[hun k k1];exact k2,fun j hj=>k3 j ((hd k k1).1 j hj)⟩
    rw[hr] at this;simp at this
   ·obtain ⟨hi1,hi2,hi3⟩:=tB.1 hi;rw[hun i hi1] at hi2;by_cases hSi:S i
    ·obtain ⟨QF,om,hgo⟩:=ahP i hi1 hSi;have hli:∀j,j<i→listed.getD j false=true:=fun j hj=>BF (S:=fun j=>listed.getD j false=true) hcl n i hi3 j (om j hj)
     have hst:stP U (List.range' 0 n) (fun j=>listed.getD j false) s0=stP U (List.range' 0 i) (fun _=>true) s0:=by
      unfold stP;have:(List.range' 0 n).filter (fun j=>listed.getD j false)=(List.range' 0 i).filter (fun _=>true):=by
       rw[List.filter_eq_self.2 (fun _ _=>rfl),←qO i n (Nat.le_of_lt hi1)]
       refine List.filter_congr fun x hx=> ?_
       have hxn:x<n:=by simp[List.mem_range'_1] at hx;exact hx
       by_cases hxi:x<i
       ·simp only[hli x hxi,hxi,decide_true]
       ·have:x=i:=by omega
        subst this;simp only[hi2,Nat.lt_irrefl,decide_false]
      rw[this]
     rw[hst] at DK hr1 hf1;refine hgo g1 a1 w1 _ hE1 DK hr1 hf1 hdf (fun x hx=> ?_)
     obtain ⟨k,k1,k2,k3⟩:=Kc x hx;refine ⟨k,?_,k3⟩;by_cases hk:k=i
     ·subst hk;rw[hi2] at k2;simp at k2
     ·omega
    obtain ⟨Zl,hs⟩:=tR i hi1 hSi;have hoi:ops[i]? =some ops[i]:=Array.getElem?_eq_getElem hi1;have W9:∀j,j<i→listed.getD j false=false→Ind ops U need j i:=by
     intro j hj hl;rcases (hd i hi1).2 j hj with hc|hc
     ·have:=BF (S:=fun j=>listed.getD j false=true) hcl n i hi3 j hc
      rw[hl] at this;simp at this
     ·exact hc
    have FN:∀j,i<j→j<n→listed.getD j false=true→Ind ops U need i j:=by
     intro j hj hjn hl;rcases (hd j hjn).2 i hj with hc|hc
     ·have:=o9 (S:=fun j=>listed.getD j false=true) hcl n j hl i hc
      rw[hi2] at this;simp at this
     ·exact hc
    have hst0:stP U (List.range' 0 i) (fun _=>true) s0=stP U (List.range' 0 n) (fun j=>decide (j<i)) s0:=by
     unfold stP;rw[qO i n (Nat.le_of_lt hi1)];congr 1;exact List.filter_eq_self.2 (fun _ _=>rfl)
    have hT:∀t∈(ops[i]).looksAt ops,(stP U (List.range' 0 n) (fun j=>listed.getD j false) s0).T t=(stP U (List.range' 0 i) (fun _=>true) s0).T t:=by
     intro t htr;rw[hst0];refine Fv U t _ _ _ _ _ rfl (fun j hj mV=> ?_)
     have hjn:j<n:=by simp[List.mem_range'_1] at hj;exact hj
     rcases Nat.lt_trichotomy j i with hlt|heq|hgt
     ·cases hl:listed.getD j false with
      |true=>simp[hlt]
      |false=>exact absurd htr ((W9 j hlt hl).s1 t mV _ hoi)
     ·subst heq;simp[hi2]
     ·cases hl:listed.getD j false with
      |false=>simp;omega
      |true=>exact absurd htr ((FN j hgt hjn hl).s2 t mV _ hoi)
    have hB:∀x,need i x→(stP U (List.range' 0 n) (fun j=>listed.getD j false) s0).F x=(stP U (List.range' 0 i) (fun _=>true) s0).F x:=by
     intro x hx;rw[hst0];refine Fw U x _ _ _ _ _ rfl (fun j hj mV=> ?_)
     have hjn:j<n:=by simp[List.mem_range'_1] at hj;exact hj
     rcases Nat.lt_trichotomy j i with hlt|heq|hgt
     ·cases hl:listed.getD j false with
      |true=>simp[hlt]
      |false=>
       have:=(W9 j hlt hl).n1 x hx;rw[mV] at this;simp at this
     ·subst heq;simp[hi2]
     ·cases hl:listed.getD j false with
      |false=>simp;omega
      |true=>
       have:=(FN j hgt hjn hl).n2 x hx;rw[mV] at this;simp at this
    have mW:∀j,(listed.setIfInBounds i true).getD j false=if j=i then true else listed.getD j false:=fun j=>Zt listed i j (by rw[hsz];exact hi1) false
    have hpi:(listed.setIfInBounds i true).getD i false=true:=by rw[mW];simp
    have acC:(stP U (List.range' 0 n) (fun j=>listed.getD j false) s0).app (U i)=stP U (List.range' 0 n) (fun j=>(listed.setIfInBounds i true).getD j false) s0:=by
     refine DS.ext' (fun t=> ?_) (fun x=> ?_)
     ·show (if (U i).dst=some t then some (U i).v else _)=_
      by_cases hl:(U i).dst=some t
      ·have e:=Fv U t (fun j=>(listed.setIfInBounds i true).getD j false) (fun j=>(listed.setIfInBounds i true).getD j false&&decide (j≤i)) (List.range' 0 n) s0 s0 rfl (fun j hj mV=>by
        have hjn:j<n:=by simp[List.mem_range'_1] at hj;exact hj
        by_cases hle:j≤i
        ·simp[hle]
        ·cases hlj:(listed.setIfInBounds i true).getD j false with
         |false=>simp
         |true=>
          rw[mW,if_neg (by omega)] at hlj
          exact absurd mV ((FN j (by omega) hjn hlj).s3 t hl))
       rw[e,HE U _ i n hi1 hpi,if_pos hl];show _=if (U i).dst=some t then some (U i).v else _
       rw[if_pos hl]
      ·rw[if_neg hl];refine Fv U t _ _ _ _ _ rfl (fun j hj mV=> ?_)
       rw[mW];split
       ·rename_i he;subst he;exact absurd mV hl
       ·rfl
     ·show (if (U i).D x=true then (U i).H x else _)=_
      by_cases hl:(U i).D x=true
      ·have e:=Fw U x (fun j=>(listed.setIfInBounds i true).getD j false) (fun j=>(listed.setIfInBounds i true).getD j false&&decide (j≤i)) (List.range' 0 n) s0 s0 rfl (fun j hj mV=>by
        have hjn:j<n:=by simp[List.mem_range'_1] at hj;exact hj
        by_cases hle:j≤i
        ·simp[hle]
        ·cases hlj:(listed.setIfInBounds i true).getD j false with
         |false=>simp
         |true=>
          rw[mW,if_neg (by omega)] at hlj
          have:=(FN j (by omega) hjn hlj).d x hl
          rw[mV] at this;simp at this)
       rw[e,HE U _ i n hi1 hpi,if_pos hl];show _=if (U i).D x=true then (U i).H x else _
       rw[if_pos hl]
      ·rw[if_neg hl];refine Fw U x _ _ _ _ _ rfl (fun j hj mV=> ?_)
       rw[mW];split
       ·rename_i he;subst he;exact absurd mV hl
       ·rfl
    have hcl':∀j,(listed.setIfInBounds i true).getD j false=true→∀k∈direct ops j,(listed.setIfInBounds i true).getD k false=true:=by
     intro j hj k hk;rw[mW] at hj ⊢;split
     ·rfl
     ·split at hj
      ·rename_i he;subst he;exact hi3 k hk
      ·exact hcl j hj k hk
    have ahW:((List.range' 0 n).filter (fun j=> !(listed.setIfInBounds i true).getD j false)).length=fuel:=by
     have h1:(List.range' 0 n).filter (fun j=> !(listed.setIfInBounds i true).getD j false)=((List.range' 0 n).filter (fun j=> !listed.getD j false)).erase i:=by
      have hnd:((List.range' 0 n).filter (fun j=> !listed.getD j false)).Nodup:=List.Pairwise.filter _ List.nodup_range'
      rw[hnd.erase_eq_filter,List.filter_filter];refine List.filter_congr fun x hx=> ?_
      rw[mW];by_cases hxi:x=i<;>simp[hxi]
     rw[h1,List.length_erase_of_mem (List.mem_filter.2 ⟨by simp[List.mem_range'_1];exact hi1,by rw[hi2];rfl⟩),Ki]
     rfl
    have Kf:∀x,frp i x→g1.ρ x=none:=by
     intro x hx;by_cases he:g1.ρ x=g.ρ x
     ·rw[he];exact eL i hi1 x hx
     ·obtain ⟨k,k1,k2,k3⟩:=Kc x he;have hne:i≠k:=fun e=>by subst e;rw[hi2] at k2;simp at k2
      have:=o9 (S:=fun j=>listed.getD j false=true) hcl n k k2 i (hfp i k hi1 k1 hne x hx k3)
      rw[hi2] at this;simp at this
    refine hs m g1 _ _ a1 w1 (wpAnyIn (fro ro) m E.P .any ops Q fuel (listed.setIfInBounds i true)) Q hE1 DK hr1 hT hB Kf (fun r w' g' q1 q2 q3 q4=> ?_)
    rw[←Zl] at q1 ⊢;have e1:mM (stP U (List.range' 0 n) (fun j=>listed.getD j false) s0).T (U i).dst (U i).v=(stP U (List.range' 0 n) (fun j=>(listed.setIfInBounds i true).getD j false) s0).T:=by rw[←acC];rfl
    have e2:gg (U i).D (U i).H (stP U (List.range' 0 n) (fun j=>listed.getD j false) s0).F=(stP U (List.range' 0 n) (fun j=>(listed.setIfInBounds i true).getD j false) s0).F:=by rw[←acC];rfl
    rw[e1] at q1;rw[e2] at q2 q3;refine ih (listed.setIfInBounds i true) _ w' g' (by simpa using hsz) hcl' ahW (hE1.mono q3.le) q1 q2 (hf1.trans q3) (by rw[put_defers];exact hdf) (fun x hx=> ?_) ?_
    ·by_cases hn:newp i x
     ·exact ⟨i,hi1,hpi,hn⟩
     rw[q4 x hn] at hx;obtain ⟨k,k1,k2,k3⟩:=Kc x hx;refine ⟨k,k1,?_,k3⟩;rw[mW];split
     ·rfl
     ·exact k2
    ·intro j hj;rw[mW] at hj;split at hj
     ·rename_i e;subst e;exact hSi
     ·exact hns j hj
 refine wpIn_region_any (F:=fro ro) tT (key ops.size _ a _ g (by simp[n]) ?_ ?_ hE ?_ ?_ ?_ rfl (fun x hx=>absurd rfl hx) ?_)
 ·intro j hj;simp[Array.getD_eq_getD_getElem?,Array.getElem?_replicate] at hj;split at hj<;>simp at hj
 ·have:(List.range' 0 n).filter (fun j=> !(Array.replicate ops.size false).getD j false)=List.range' 0 n:=List.filter_eq_self.2 fun x hx=>by
   simp[Array.getD_eq_getD_getElem?,Array.getElem?_replicate];split<;>simp
  rw[this];simp[n]
 rotate_left 3
 ·intro j hj;simp[Array.getD_eq_getD_getElem?,Array.getElem?_replicate] at hj;split at hj<;>simp at hj
 all_goals
  have hs0:stP U (List.range' 0 n) (fun j=>(Array.replicate ops.size false).getD j false) s0=s0:=by
   unfold stP;have:(List.range' 0 n).filter (fun j=>(Array.replicate ops.size false).getD j false)= []:=List.filter_eq_nil_iff.2 fun x hx=>by
    simp[Array.getD_eq_getD_getElem?,Array.getElem?_replicate];split<;>simp
   rw[this];rfl
  rw[hs0]
 ·exact hfr
 ·exact hr.DL rfl
 ·exact Fr.DL rfl rfl rfl rfl
end
section
variable {E:Env} {g:Gh} {f:Hf} {w:World}
theorem force_eq {β:Type} (m:Nat) (k:Nat→β):force m k=k m:=by cases m<;>rfl
theorem uo (m i:Nat):dC m i=true↔m.testBit i=true:=by
 unfold dC;rw[beq_iff];show (m>>>i) &&& 1=1↔_;rw[Nat.and_one_is_mod,Nat.testBit_eq_decide_div_mod_eq,Nat.shiftRight_eq_div_pow];simp
theorem vZ {ops:Array Oper} {j:Nat} {o:Oper} (h:ops[j]? =some o):direct ops j=dt o:=by simp[direct,h]
theorem qA {ops:Array Oper}:∀(n m j:Nat),n≤m→∀i∈anc ops n j,i∈anc ops m j
 |0,m,j,_,i,h=>by simp[anc] at h
 |n+1,0,j,hle,_,_=>by omega
 |n+1,m+1,j,hle,i,h=>by
  simp only[anc,List.mem_append,List.mem_flatMap] at h ⊢;rcases h with h|⟨d,hd,h⟩
  ·exact .inl h
  ·exact .inr ⟨d,hd,qA n m d (by omega) i h⟩
def ss (ops:Array Oper) (W M j:Nat):Prop:=∀p,M.testBit p=true→∃i b,i<j∧b<W∧p=i*W+b∧b∈anc ops (i+1) i
theorem Yp {W i b i' b':Nat} (h:i*W+b=i'*W+b') (h1:b<W) (h2:b'<W):i=i'∧b=b':=by
 have e1:(i*W+b) / W=i:=by rw[Nat.mul_comm,Nat.mul_add_div (by omega),Nat.div_eq_of_lt h1];omega
 have e2:(i'*W+b') / W=i':=by rw[Nat.mul_comm,Nat.mul_add_div (by omega),Nat.div_eq_of_lt h2];omega
 have:i=i':=by rw[←e1,←e2,h]
 subst this;exact ⟨rfl,by omega⟩
theorem yg {ops:Array Oper} {W M j:Nat} (hM:ss ops W M j) {x:Nat}:∀(ds:List Nat),(fh W M ds).testBit x=true→∃i∈ds,x=i∨(i<j∧x∈anc ops (i+1) i)
 | [],h=>by simp[fh] at h
 |d::ds,h=>by
  have h:(fh W M ds|||((1<<<d)|||((M>>>(d*W)) % 2 ^ W))).testBit x=true:=h;rw[Nat.testBit_or,Nat.testBit_or,Bool.or_eq_true,Bool.or_eq_true] at h;rcases h with h|h|h
  ·obtain ⟨i,hi,h⟩:=yg hM ds h;exact ⟨i,by simp[hi],h⟩
  ·rw[Nat.shiftLeft_eq,Nat.one_mul,Nat.testBit_two_pow] at h;exact ⟨d,by simp,.inl (by simpa using h.symm:d=x).symm⟩
  ·rw[Nat.testBit_mod_two_pow,Bool.and_eq_true,Nat.testBit_shiftRight] at h;obtain ⟨h1,h2⟩:=h;obtain ⟨i,b,q1,q2,q3,q4⟩:=hM _ h2;have hx:x<W:=by simpa using h1
   obtain ⟨rfl,rfl⟩:=Yp q3 hx q2;exact ⟨d,by simp,.inr ⟨q1,q4⟩⟩
theorem n4 {j:Nat}:∀{l:List Nat},fX j l=true→∀i∈l,i<j
 | [],_,i,hi=>by simp at hi
 |x::l,h,i,hi=>by
  unfold fX at h;rw[aC] at h;split at h
  ·rename_i hx;rcases List.mem_cons.1 hi with rfl|hi
   ·exact (aX _ _).1 hx
   ·exact n4 h i hi
  ·simp at h
theorem qX {ops:Array Oper} {W M j:Nat} {o:Oper} (hj:ops[j]? =some o) (hM:ss ops W M j):
  (∀x,(Nat.mod (fh W M (dt o)) (Nat.pow 2 W)).testBit x=true→x<W∧x∈anc ops (j+1) j)∧
  ss ops W (Nat.lor M (Nat.shiftLeft (Nat.mod (fh W M (dt o)) (Nat.pow 2 W)) (Nat.mul j W))) (j+1):=by
 have hdir:=vZ hj;have hbit:∀x,(fh W M (dt o) % 2 ^ W).testBit x=true→x<W∧x∈anc ops (j+1) j:=by
  intro x hx;rw[Nat.testBit_mod_two_pow,Bool.and_eq_true] at hx;refine ⟨by simpa using hx.1,?_⟩
  obtain ⟨i,hi,h⟩:=yg hM (dt o) hx.2;rw[←hdir] at hi;simp only[anc,List.mem_append,List.mem_flatMap];rcases h with rfl|⟨q1,q2⟩
  ·exact .inl hi
  ·exact .inr ⟨i,hi,qA (i+1) j i (by omega) x q2⟩
 refine ⟨hbit,fun p hp=> ?_⟩
 have hp:(M|||((fh W M (dt o) % 2 ^ W)<<<(j*W))).testBit p=true:=hp;rw[Nat.testBit_or,Bool.or_eq_true] at hp;rcases hp with hp|hp
 ·obtain ⟨i,b,q1,q2,q3,q4⟩:=hM p hp;exact ⟨i,b,by omega,q2,q3,q4⟩
 ·rw[Nat.testBit_shiftLeft,Bool.and_eq_true] at hp;obtain ⟨p1,p2⟩:=hp;obtain ⟨q1,q2⟩:=hbit _ p2;have p1:j*W≤p:=by simpa using p1
  exact ⟨j,p-j*W,by omega,q1,by omega,q2⟩
theorem dV (x:Nat):∀(l:List Nat),cc x l=true↔x∈l
 | []=>by simp[cc]
 |y::l=>by
  unfold cc;rw[aC,beq_eq];by_cases h:x=y
  ·simp[h]
  ·simp only[h,decide_false,Bool.false_eq_true,if_false,List.mem_cons,false_or];exact dV x l
theorem jJ:∀{l m:List Nat},iO l m=true→∀x∈l,x∉m
 | [],_,_,x,hx=>by simp at hx
 |y::l,m,h,x,hx=>by
  unfold iO at h;rw[aC] at h;split at h
  ·simp at h
  ·rename_i hm;rcases List.mem_cons.1 hx with rfl|hx
   ·exact fun hc=>hm ((dV _ _).2 hc)
   ·exact jJ h x hx
theorem lU {lo hi:Nat}:∀{l:List Nat},jA lo hi l=true→∀x∈l,x<lo∨hi≤x
 | [],_,x,hx=>by simp at hx
 |y::l,h,x,hx=>by
  unfold jA at h;rw[aC,aC] at h;split at h
  ·rename_i h1;rcases List.mem_cons.1 hx with rfl|hx
   ·exact .inl ((aX _ _).1 h1)
   ·exact lU h x hx
  ·split at h
   ·rename_i h1;rcases List.mem_cons.1 hx with rfl|hx
    ·exact .inr ((aX _ _).1 h1)
    ·exact lU h x hx
   ·simp at h
theorem JE {l:List Nat} (h:pY l=true):l= []:=by
 cases l with
 |nil=>rfl
 |cons _ _=>simp[pY] at h
theorem lr {m:Nat} {r:Rc}:∀{ps:List Rc},cT m r ps=true→∀p∈ps,dC m p.i=true∨sQ p r=true
 | [],_,p,hp=>by simp at hp
 |q::ps,h,p,hp=>by
  unfold cT at h;rw[aC,aC] at h;split at h
  ·rename_i h1;rcases List.mem_cons.1 hp with rfl|hp
   ·exact .inl h1
   ·exact lr h p hp
  ·split at h
   ·rename_i h1;rcases List.mem_cons.1 hp with rfl|hp
    ·exact .inr h1
    ·exact lr h p hp
   ·simp at h
structure BO (p r:Rc):Prop where
 a1:∀x∈r.rd,x<p.lo∨p.hi≤x
 a2:∀x∈r.wr,x<p.lo∨p.hi≤x
 a3:∀x∈p.rd,x<r.lo∨r.hi≤x
 a4:∀x∈p.wr,x<r.lo∨r.hi≤x
 b1:∀x∈p.rd,x∉r.wr
 b2:∀x∈r.rd,x∉p.wr
 b3:∀x∈p.wr,x∉r.wr
 c1:p.call=true→r.call=false∧r.wr= []
 c2:r.call=true→p.call=false∧p.wr= []
theorem yu {p r:Rc} (h:sQ p r=true):BO p r:=by
 unfold sQ at h;simp only[Bool.and_eq_true] at h;obtain ⟨h1,h2,h3,h4,h5,h6,h7,h8⟩:=h;refine ⟨lU h1,lU h2,lU h3,lU h4,jJ h5,jJ h6,jJ h7,fun hp=> ?_,fun hr=> ?_⟩
 ·rw[hp] at h8;cases hr:r.call with
  |true=>rw[hr] at h8;cases h8
  |false=>rw[hr] at h8;exact ⟨rfl,JE h8⟩
 ·rw[hr] at h8;cases hp:p.call with
  |true=>rw[hp] at h8;cases h8
  |false=>rw[hp] at h8;exact ⟨rfl,JE h8⟩
theorem Nd:∀(xs:List Operand),Hx xs=xs.filterMap fun| .tmp t=>some t|_=>none
 | []=>rfl
 |x::xs=>by
  have ih:=Nd xs;cases x<;>simp[Hx,ih]
theorem JK (ops:Array Oper) (o:Oper):looks ops.toList o=o.looksAt ops:=by
 unfold looks Oper.looksAt;rw[Nd];cases hg:o.guard with
 |none=>rfl
 |some p=>
  obtain ⟨j,b⟩:=p;simp only[qT,Array.getElem?_toList];rfl
theorem oe {all:List Oper} {m:Nat} {r:Oper}:∀{k:Nat} {ps:List Oper},pK all m r k ps=true→ps.length=k+1∨ps= []→∀j p,ps[j]? =some p→dC m (k-j)=true∨sA all p r=true
 |k,[],_,_,j,p,hp=>by simp at hp
 |k,q::ps,h,hl,j,p,hp=>by
  unfold pK at h;rw[aC,aC] at h;have hl':ps.length=Nat.sub k 1+1∨ps= []:=by
   rcases hl with hl|hl
   ·simp at hl;cases k with
    |zero=>exact .inr (List.eq_nil_of_length_eq_zero (by omega))
    |succ k=>exact .inl (by show ps.length=k+1-1+1;omega)
   ·simp at hl
  have hk:∀(j:Nat),ps[j]? =some p→Nat.sub k 1-j=k-(j+1):=fun j _=>by show k-1-j=k-(j+1);omega
  split at h
  ·rename_i h1;cases j with
   |zero=>simp at hp;subst hp;exact .inl h1
   |succ j=>simp at hp;have:=oe h hl' j p hp;rw[hk j hp] at this;exact this
  ·split at h
   ·rename_i h1;cases j with
    |zero=>simp at hp;subst hp;exact .inr h1
    |succ j=>simp at hp;have:=oe h hl' j p hp;rw[hk j hp] at this;exact this
   ·simp at h
theorem vb {ops:Array Oper} {W:Nat}:∀(l:List Oper) (i M:Nat) (prev:List Oper),mJ W ops.toList l i M prev=true→ops.toList.drop i=l→prev=(ops.toList.take i).reverse→ss ops W M i→
  ∀j,i≤j→j<ops.size→∀k,k<j→∀p r,ops[k]? =some p→ops[j]? =some r→k∈anc ops (j+1) j∨sA ops.toList p r=true
 | [],i,M,prev,h,hd,_,_,j,hj,hj',_,_,_,_,_,_=>by
  have:ops.size≤i:=by simpa using hd
  omega
 |o::l,i,M,prev,h,hd,hp,hM,j,hj,hj',k,hk,p,r,hpk,hr=>by
  have hi:i<ops.toList.length:=by
   by_cases hl:i<ops.toList.length
   ·exact hl
   ·rw[List.drop_of_length_le (by omega)] at hd;simp at hd
  rw[List.drop_eq_getElem_cons hi] at hd;obtain ⟨ho,hl⟩:=List.cons.inj hd;have hoi:ops[i]? =some o:=by
   have:ops.toList[i]? =some o:=by rw[List.getElem?_eq_getElem hi,ho]
   simpa using this
  unfold mJ at h;rw[force_eq,aC] at h;split at h
  ·rename_i hs;rw[force_eq] at h;obtain ⟨m1,m2⟩:=qX hoi hM;by_cases hji:j=i
   ·subst hji;rw[hoi] at hr;obtain rfl:o=r:=by simpa using hr
    have hpl:prev.length=j:=by rw[hp];simp at hi ⊢;omega
    have hg:prev[j-1-k]? =some p:=by
     rw[hp,List.getElem?_reverse (by simp at hi ⊢;omega)]
     simp at hi ⊢;rw[Nat.min_eq_left (by omega),List.getElem?_take,if_pos (by omega)]
     have:j-1-(j-1-k)=k:=by omega
     rw[this];simpa using hpk
    rcases oe hs (by
     cases hpp:prev with
     |nil=>exact .inr rfl
     |cons a b=>rw[hpp] at hpl;left;simp at hpl ⊢;show b.length=j-1;omega) (j-1-k) p hg with hb|hb
    ·have e:Nat.sub j 1-(j-1-k)=k:=by show j-1-(j-1-k)=k;omega
     rw[e] at hb;exact .inl (m1 k ((uo _ _).1 hb)).2
    ·exact .inr hb
   ·refine vb l (i+1) _ (o::prev) h hl ?_ m2 j (by omega) hj' k hk p r hpk hr
    have:ops.toList.take (i+1)=ops.toList.take i++ [o]:=by
     rw[List.take_add_one,List.getElem?_eq_getElem hi,ho];rfl
    rw[this,List.reverse_append,hp];rfl
  ·simp at h
end
section
variable {E:Env} {g:Gh} {w:World} {nt W base:Nat} {ops:Array Oper}
structure St where
 u:Stp
 rc:Rc
 m:Nat
 need:Nat→Prop
 frp:Nat→Prop
 newp:Nat→Prop
instance:Inhabited St:=⟨⟨⟨none,.undef,fun _=>false,fun _=>none⟩,⟨0,false,[],[],0,0⟩,0,fun _=>False,fun _=>False,fun _=>False⟩⟩
structure Cnd (E:Env) (nt W:Nat) (ops:Array Oper) (base i:Nat) (prev:List St) (o:Oper) (T:Tf) (F:Hf) (nx:Nat) (s:St) (nx1:Nat):Prop where
 dst:s.u.dst=o.dst
 step:∀ro,nG E ro nt ops i o T s.need F s.frp s.newp s.u.v s.u.D s.u.H
 lt:∀d∈dt o,d<i
 anc:∀b,dC s.m b=true→b∈anc ops (i+1) i
 rci:s.rc.i=i
 ind:∀p∈prev,dC s.m p.rc.i=true∨BO p.rc s.rc
 D:∀x,s.u.D x=true↔(x∈s.rc.wr∨(s.rc.lo≤x∧x<s.rc.hi))
 smp:s.rc.call=false→s.rc.lo=base+i∧s.rc.hi=base+i+1∧nx1=nx∧(∀x,s.need x→x∈s.rc.rd)∧(∀x,s.frp x→x=base+i)∧∀x,s.newp x→x=base+i
 cal:s.rc.call=true→s.rc.lo=nx∧s.rc.hi=nx1∧(∀x,s.need x→F x≠none∧∀p∈prev,dC s.m p.rc.i=false→x≠p.rc.lo)∧(∀x,s.frp x→nx≤x)∧∀x,s.newp x→nx≤x∧x<nx1
 oh:nx≤nx1
 bd:∀x,F x≠none→¬(base+i≤x∧x<base+W)
 base:base+W≤nx
inductive DT (E:Env) (nt W:Nat) (ops:Array Oper) (base:Nat):Nat→List St→List Oper→Tf→Hf→Nat→Tf→Hf→Nat→List St→Prop
 |nil {i prev T F nx}:DT E nt W ops base i prev [] T F nx T F nx prev
 |cons {i prev o l T F nx s nx1 T' F' nx' out} (c:Cnd E nt W ops base i prev o T F nx s nx1) (h:DT E nt W ops base (i+1) (s::prev) l (mM T s.u.dst s.u.v) (gg s.u.D s.u.H F) nx1 T' F' nx' out):DT E nt W ops base i prev (o::l) T F nx T' F' nx' out
theorem Eu (U:Nat→Stp) (i j:Nat) (s:DS):stP U (List.range' i (j+1)) (fun _=>true) s=stP U (List.range' (i+1) j) (fun _=>true) (s.app (U i)):=by
 simp[stP,List.range'_succ]
theorem DT.steps {i:Nat} {prev:List St} {l:List Oper} {T:Tf} {F:Hf} {nx:Nat} {T':Tf} {F':Hf} {nx':Nat} {out:List St} (h:DT E nt W ops base i prev l T F nx T' F' nx' out):prev.length=i→
  out.length=i+l.length∧(∃new,out=new++prev)∧∃NX:Nat→Nat,NX i=nx∧NX (i+l.length)=nx'∧
   (∀j o,l[j]? =some o→∃s,out.reverse[i+j]? =some s∧Cnd E nt W ops base (i+j) (out.drop (out.length-(i+j))) o (stP (fun x=>(out.reverse.getD x default).u) (List.range' i j) (fun _=>true) ⟨T,F⟩).T
    (stP (fun x=>(out.reverse.getD x default).u) (List.range' i j) (fun _=>true) ⟨T,F⟩).F (NX (i+j)) s (NX (i+j+1)))∧
   (⟨T',F'⟩:DS)=stP (fun x=>(out.reverse.getD x default).u) (List.range' i l.length) (fun _=>true) ⟨T,F⟩:=by
 induction h with
 |nil=>
  intro hp;exact ⟨by simpa using hp,⟨[],rfl⟩,fun _=>_,rfl,rfl,by simp,by simp[stP]⟩
 | @cons i prev o l T F nx s nx1 T' F' nx' out c h ih=>
  intro hp;obtain ⟨q1,⟨new,q2⟩,NX,q3,q4,q5,q6⟩:=ih (by simp[hp])
  have hsi:out.reverse[i]? =some s:=by
   rw[q2];rw[List.reverse_append,List.reverse_cons,List.append_assoc,List.getElem?_append_right (by simp;omega)]
   simp[hp]
  have hU:(out.reverse.getD i default).u=s.u:=by rw[List.getD_eq_getElem?_getD,hsi];rfl
  have sf:(⟨T,F⟩:DS).app (out.reverse.getD i default).u=⟨mM T s.u.dst s.u.v,gg s.u.D s.u.H F⟩:=by rw[hU];rfl
  refine ⟨by simp;omega,⟨new++ [s],by simp[q2]⟩,fun k=>if k=i then nx else NX k,by simp,?_,?_,?_⟩
  ·simp only[List.length_cons];rw[if_neg (by omega)]
   rw[←q4];congr 1;omega
  ·intro j o' ho;cases j with
   |zero=>
    simp at ho;subst ho;refine ⟨s,by simpa using hsi,?_⟩
    have e1:(if i+0+1=i then nx else NX (i+0+1))=nx1:=by rw[if_neg (by omega)];exact q3
    have e2:(if i+0=i then nx else NX (i+0))=nx:=by simp
    have e3:out.drop (out.length-(i+0))=prev:=by
     rw[q2];have:(new++s::prev).length-(i+0)=(new++ [s]).length:=by simp;omega
     rw[this,show new++s::prev=(new++ [s])++prev from by simp]
     simp
    simp only[e1,e2,e3];exact c
   |succ j=>
    simp at ho;obtain ⟨s',r1,r2⟩:=q5 j o' ho;refine ⟨s',by rw[←r1];congr 1;omega,?_⟩
    have a1:i+(j+1)=i+1+j:=by omega
    rw[Eu,sf,a1];simp only[if_neg (show ¬i+1+j=i by omega),if_neg (show ¬i+1+j+1=i by omega)]
    exact r2
  ·rw[List.length_cons,Eu,sf];exact q6
theorem MB {p r:Oper} (h:sA ops.toList p r=true):(∀t,p.dst=some t→t∉r.looksAt ops)∧(∀t,r.dst=some t→t∉p.looksAt ops)∧∀t,p.dst=some t→r.dst≠some t:=by
 unfold sA at h;rw[Bool.and_eq_true,Bool.and_eq_true,JK,JK] at h;obtain ⟨h1,h2,h3⟩:=h;refine ⟨fun t ht=>jJ h1 t (by simp[ht]),fun t ht=>jJ h2 t (by simp[ht]),fun t ht hr=>jJ h3 t (by simp[ht]) (by simp[hr])⟩
theorem yl {T T':Tf} {F F':Hf} {nx nx':Nat} {out:List St} {l0:List Oper} (hs:mJ ops.size ops.toList ops.toList 0 0 []=true) (tT:E.P.follows .mixedOrders=true) (hpre:ops.toList.take l0.length=l0) (hdt:DT E nt ops.size ops base 0 [] l0 T F nx T' F' nx' out) (hbn:base≤nx)
  {ro:Option Nat} {a:Act} {id m:Nat} {Q:Exit→Act→World→Prop} (hE:bu E g) (hfr:FR g nt T a.tmps) (hr:HR g F w) (eL:∀x,base≤x→g.ρ x=none)
  (sd:l0.length=ops.size∨(l0.length+1=ops.size∧(∀d∈direct ops l0.length,d<l0.length)∧(∀j,j<l0.length→j∈anc ops ops.size l0.length)∧∀(g':Gh) (a':Act) (w':World) (K:Act→World→Prop),bu E g'→FR g' nt T' a'.tmps→HR g' F' w'→Fr g F w g' F' w'→a'.defers=a.defers→
   (∀x,x<base→g'.ρ x=g.ρ x)→(∀x,nx'≤x→g'.ρ x=none)→wpOpIn (fro ro) m E.P ops Q l0.length K a' w'))
  (hq:l0.length=ops.size→∀g' a' w',FR g' nt T' a'.tmps→HR g' F' w'→Fr g F w g' F' w'→a'.defers=a.defers→(∀x,x<base→g'.ρ x=g.ρ x)→(∀x,nx'≤x→g'.ρ x=none)→Q .normal a' w'):(Code.region id ops true).wpIn (fro ro) m E.P Q a w:=by
 obtain ⟨ol,_,NX,n0,n1,cnd,fin⟩:=hdt.steps rfl;simp only[Nat.zero_add] at ol n1 cnd fin;have hnn:l0.length≤ops.size:=by rcases sd with h|h<;>omega
 have hop:∀j (hj:j<l0.length),l0[j]? =some (ops[j]'(by omega)):=by
  intro j hj;have h1:(ops.toList.take l0.length)[j]? =some (ops[j]'(by omega)):=by
   rw[List.getElem?_take,if_pos hj];simp[show j<ops.size by omega]
  rw[hpre] at h1;exact h1
 let S:Nat→St:=fun x=>out.reverse.getD x default
 have hS:∀j (hj:j<l0.length),Cnd E nt ops.size ops base j (out.drop (out.length-j)) (ops[j]'(by omega)) (stP (fun x=>(S x).u) (List.range' 0 j) (fun _=>true) ⟨T,F⟩).T (stP (fun x=>(S x).u) (List.range' 0 j) (fun _=>true) ⟨T,F⟩).F (NX j) (S j) (NX (j+1)):=by
  intro j hj;obtain ⟨s,r1,r2⟩:=cnd j (ops[j]'(by omega)) (hop j hj)
  have:S j=s:=by simp only[S,List.getD_eq_getElem?_getD,r1];rfl
  rw[this];exact r2
 have ahS:∀d j,j+d≤l0.length→NX j≤NX (j+d):=by
  intro d;induction d with
  |zero=>intro j _;exact Nat.le_refl _
  |succ d ih=>intro j hj;exact Nat.le_trans (ih j (by omega)) ((hS (j+d) (by omega)).oh)
 have A2:∀j k,j≤k→k≤l0.length→NX j≤NX k:=fun j k h1 h2=>by
  have:=ahS (k-j) j (by omega)
  rwa[show j+(k-j)=k by omega] at this
 have iS:∀i j,i<j→j<l0.length→S i∈out.drop (out.length-j):=by
  intro i j hij hj;have hi:i<out.reverse.length:=by simp;omega
  have e:out.drop (out.length-j)=(out.reverse.take j).reverse:=by
   rw[List.take_reverse];simp
  rw[e,List.mem_reverse,List.mem_take_iff_getElem];refine ⟨i,by simp;omega,?_⟩
  simp only[S,List.getD_eq_getElem?_getD,List.getElem?_eq_getElem hi,Option.getD_some]
 have acB:∀i j,i<j→j<l0.length→i∈anc ops ops.size j∨(dC (S j).m i=false∧BO (S i).rc (S j).rc∧∀p r,ops[i]? =some p→ops[j]? =some r→sA ops.toList p r=true):=by
  intro i j hij hj;have ci:=hS i (by omega)
  have cj:=hS j hj;by_cases ha:i∈anc ops ops.size j
  ·exact .inl ha
  ·have hb:dC (S j).m i=false:=by
    cases hb:dC (S j).m i with
    |false=>rfl
    |true=>exact absurd (qA _ _ _ (by omega) i (cj.anc i hb)) ha
   refine .inr ⟨hb,?_,fun p r hp hr=> ?_⟩
   ·rcases cj.ind (S i) (iS i j hij hj) with h|h
    ·rw[ci.rci,hb] at h;simp at h
    ·exact h
   ·rcases vb ops.toList 0 0 [] hs (by simp) (by simp) (fun p hp=>by simp at hp) j (Nat.zero_le _) (by omega) i hij p r hp hr with h|h
    ·exact absurd (qA _ _ _ (by omega) i h) ha
    ·exact h
 have Zm:∀j,l0.length≤j→S j=default:=by
  intro j hj;show out.reverse.getD j default=default;rw[List.getD_eq_getElem?_getD,List.getElem?_eq_none (by simp;omega)]
  rfl
 have hno:∀(g':Gh) x,(x<base∨nx'≤x)→(∀y,g'.ρ y≠g.ρ y→∃k,k<l0.length∧(S k).newp y)→g'.ρ x=g.ρ x:=by
  intro g' x hx hy;by_cases he:g'.ρ x=g.ρ x
  ·exact he
  ·exfalso;obtain ⟨i,hi,hn⟩:=hy x he;have ci:=hS i hi;have hbi:=ci.base;have hm0:=A2 0 i (by omega) (by omega)
   have hm1:=A2 (i+1) l0.length (by omega) (Nat.le_refl _)
   have hm2:=ci.oh;rw[n0] at hm0;rw[n1] at hm1;cases hci:(S i).rc.call with
   |false=>obtain ⟨_,_,_,_,_,e1⟩:=ci.smp hci;have:=e1 x hn;omega
   |true=>obtain ⟨_,_,_,_,e1⟩:=ci.cal hci;have:=e1 x hn;omega
 have hmm:=A2 0 l0.length (by omega) (Nat.le_refl _)
 rw[n0,n1] at hmm;refine Ra (S:=fun i=>l0.length≤i) (s0:=⟨T,F⟩) (U:=fun x=>(S x).u) (need:=fun i=>(S i).need) (frp:=fun i=>(S i).frp) (newp:=fun i=>(S i).newp) tT (fun i hi hns=>⟨(hS i (by omega)).dst,(hS i (by omega)).step ro⟩) (fun j hj=> ?_) ?_ hE hfr hr ?_ ?_ ?_
 ·by_cases hjn:l0.length≤j
  ·rcases sd with he|⟨he,h1,h2,_⟩
   ·omega
   ·have e:j=l0.length:=by omega
    subst e;exact ⟨h1,fun i hij=>.inl (h2 i hij)⟩
  have hj0:=hj;have hj:j<l0.length:=by omega
  refine ⟨fun i hi=> ?_,fun i hij=> ?_⟩
  ·rw[vZ (Array.getElem?_eq_getElem hj0)] at hi;exact (hS j hj).lt i hi
  rcases acB i j hij hj with h|⟨hb,hI,hsl⟩
  ·exact .inl h
  ·have hi':i<l0.length:=by omega
   have hi0:i<ops.size:=by omega
   have ci:=hS i hi';have cj:=hS j hj;have hbi:=ci.base;have hbj:=cj.base;obtain ⟨t1,t2,t3⟩:=MB (hsl ops[i] ops[j] (Array.getElem?_eq_getElem hi0) (Array.getElem?_eq_getElem hj0));refine .inr ⟨fun t ht o ho=> ?_,fun t ht o ho=> ?_,fun t ht=> ?_,fun x hx=> ?_,fun x hx=> ?_,fun x hx=> ?_⟩
   ·rw[Array.getElem?_eq_getElem hj0] at ho;cases ho;exact t1 t (by rw[←ci.dst];exact ht)
   ·rw[Array.getElem?_eq_getElem hi0] at ho;cases ho;exact t2 t (by rw[←cj.dst];exact ht)
   ·rw[cj.dst];exact t3 t (by rw[←ci.dst];exact ht)
   ·cases hd:(S j).u.D x with
    |false=>rfl
    |true=>
     exfalso;rcases (ci.D x).1 hx with h1|h1<;>rcases (cj.D x).1 hd with h2|h2
     ·exact hI.b3 x h1 h2
     ·rcases hI.a4 x h1 with h|h<;>omega
     ·rcases hI.a2 x h2 with h|h<;>omega
     ·cases hci:(S i).rc.call with
      |false=>
       obtain ⟨e1,e2,_⟩:=ci.smp hci;cases hcj:(S j).rc.call with
       |false=>obtain ⟨e3,e4,_⟩:=cj.smp hcj;omega
       |true=>obtain ⟨e3,e4,_⟩:=cj.cal hcj;omega
      |true=>
       obtain ⟨e1,e2,_⟩:=ci.cal hci;obtain ⟨e3,_⟩:=hI.c1 hci;obtain ⟨e4,e5,_⟩:=cj.smp e3;omega
   ·cases hd:(S i).u.D x with
    |false=>rfl
    |true=>
     exfalso;cases hcj:(S j).rc.call with
     |false=>
      obtain ⟨_,_,_,e,_⟩:=cj.smp hcj;rcases (ci.D x).1 hd with h1|h1
      ·exact hI.b2 x (e x hx) h1
      ·rcases hI.a1 x (e x hx) with h|h<;>omega
     |true=>
      obtain ⟨_,_,e,_⟩:=cj.cal hcj;obtain ⟨k1,k2⟩:=hI.c2 hcj;obtain ⟨e1,e2,_⟩:=ci.smp k1;rcases (ci.D x).1 hd with h1|h1
      ·rw[k2] at h1;simp at h1
      ·exact (e x hx).2 (S i) (iS i j hij hj) (by rw[ci.rci];exact hb) (by omega)
   ·cases hd:(S j).u.D x with
    |false=>rfl
    |true=>
     exfalso;cases hci:(S i).rc.call with
     |false=>
      obtain ⟨_,_,_,e,_⟩:=ci.smp hci;rcases (cj.D x).1 hd with h1|h1
      ·exact hI.b1 x (e x hx) h1
      ·rcases hI.a3 x (e x hx) with h|h<;>omega
     |true=>
      obtain ⟨_,_,e,_⟩:=ci.cal hci;obtain ⟨k1,k2⟩:=hI.c1 hci;obtain ⟨e1,e2,_⟩:=cj.smp k1;rcases (cj.D x).1 hd with h1|h1
      ·rw[k2] at h1;simp at h1
      ·exact ci.bd x (e x hx).1 ⟨by omega,by omega⟩
 ·intro i k hi hk hne x hx hn;by_cases hil:l0.length≤i
  ·have hx:(S i).frp x:=hx;rw[Zm i hil] at hx;exact hx.elim
  by_cases hkl:l0.length≤k
  ·have hn:(S k).newp x:=hn;rw[Zm k hkl] at hn;exact hn.elim
  have hi:i<l0.length:=by omega
  have hk:k<l0.length:=by omega
  have ci:=hS i hi;have ck:=hS k hk;have hbi:=ci.base;have hbk:=ck.base;cases hci:(S i).rc.call with
  |false=>
   obtain ⟨_,_,_,_,e1,_⟩:=ci.smp hci;have:=e1 x hx;cases hck:(S k).rc.call with
   |false=>obtain ⟨_,_,_,_,_,e2⟩:=ck.smp hck;have:=e2 x hn;omega
   |true=>obtain ⟨_,_,_,_,e2⟩:=ck.cal hck;have:=e2 x hn;omega
  |true=>
   obtain ⟨_,_,_,e1,_⟩:=ci.cal hci;have h1:=e1 x hx;cases hck:(S k).rc.call with
   |false=>obtain ⟨_,_,_,_,_,e2⟩:=ck.smp hck;have:=e2 x hn;omega
   |true=>
    obtain ⟨_,_,_,_,e2⟩:=ck.cal hck;have h2:=e2 x hn;rcases Nat.lt_or_gt_of_ne hne with hlt|hgt
    ·rcases acB i k hlt hk with h|⟨_,hI,_⟩
     ·exact h
     ·have:=(hI.c1 hci).1;rw[hck] at this;simp at this
    ·have:=A2 (k+1) i (by omega) (by omega)
     omega
 ·intro i hi x hx;by_cases hil:l0.length≤i
  ·have hx:(S i).frp x:=hx;rw[Zm i hil] at hx;exact hx.elim
  have hi:i<l0.length:=by omega
  have ci:=hS i hi;have hbi:=ci.base;cases hci:(S i).rc.call with
  |false=>obtain ⟨_,_,_,_,e1,_⟩:=ci.smp hci;exact eL x (by have:=e1 x hx;omega)
  |true=>obtain ⟨_,_,_,e1,_⟩:=ci.cal hci;exact eL x (by have:=e1 x hx;omega)
 ·intro i hi hSi;rcases sd with he|⟨he,_,h2,h3⟩
  ·have hSi:l0.length≤i:=hSi;omega
  ·have hSi:l0.length≤i:=hSi;have e:i=l0.length:=by omega
   subst e;refine ⟨he,h2,fun g1 a1 w1 K q1 q2 q3 q4 q5 q6=> ?_⟩
   have Kg:(⟨T',F'⟩:DS)=stP (fun x=>(S x).u) (List.range' 0 l0.length) (fun _=>true) ⟨T,F⟩:=fin
   rw[←Kg] at q2 q3 q4;exact h3 g1 a1 w1 K q1 q2 q3 q4 q5 (fun x hx=>hno g1 x (.inl hx) q6) (fun x hx=>by rw[hno g1 x (.inr hx) q6];exact eL x (by omega))
 ·intro hns g' a' w' h1 h2 h3 h4 h5;have he:l0.length=ops.size:=by
   rcases sd with he|⟨he,_⟩
   ·exact he
   ·exact absurd (Nat.le_refl _) (hns l0.length (by omega))
  have Kg:(⟨T',F'⟩:DS)=stP (fun x=>(S x).u) (List.range' 0 ops.size) (fun _=>true) ⟨T,F⟩:=by rw[←he];exact fin
  rw[←Kg] at h1 h2 h3;have h5':∀y,g'.ρ y≠g.ρ y→∃k,k<l0.length∧(S k).newp y:=by
   intro y hy;apply Classical.byContradiction;intro hc;exact hy (h5 y (fun i hi hn=>hc ⟨i,by omega,hn⟩))
  exact hq he g' a' w' h1 h2 h3 h4 (fun x hx=>hno g' x (.inl hx) h5') (fun x hx=>by rw[hno g' x (.inr hx) h5'];exact eL x (by omega))
end
section
variable {E:Env} {g:Gh} {f:Hf} {w:World} {T:Tf}
def ld (f:Hf) (new:Nat) (us:List Up):Prop:=∀u∈us,u.1=new∨f u.1≠none
theorem keys_nil {new:Nat}:ld f new []:=fun u hu=>by simp at hu
theorem iR {new:Nat} {o:Option SO}:ld f new [(new,o)]:=fun u hu=>by simp at hu;subst hu;exact .inl rfl
theorem p9 {new id:Nat} {o:Option SO} (h:f id≠none):ld f new [(id,o)]:=fun u hu=>by simp at hu;subst hu;exact .inr h
theorem MA {new:Nat} {t:TypeId} {v a:SV} {us:List Up} (h:jb E f t v a=some us):ld f new us:=by
 obtain ⟨q,h1,h⟩:=af h;obtain ⟨i,xs,p,_,_,hp,h⟩:=oZ h;obtain ⟨_,h⟩:=av h;cases h;exact p9 (by rw[jX hp];simp)
theorem Es {new:Nat} {t:TypeId} {x k v:SV} {us:List Up} (h:lA E f t x k v=some us):ld f new us:=by
 obtain ⟨id,_,h⟩:=af h;obtain ⟨i,_,h⟩:=af h;obtain ⟨q,_,h⟩:=af h;obtain ⟨ik,p,_,hp,h⟩:=ay h;obtain ⟨_,h⟩:=av h;obtain ⟨r,_,h⟩:=af h;cases h;exact p9 (by rw[nN hp];simp)
theorem Ld {new:Nat} {t:TypeId} {s x v:SV} {us:List Up} (h:fC E f new t s x=some (v,us)):ld f new us:=by
 obtain ⟨i,_,h⟩:=af h;obtain ⟨e,_,h⟩:=af h;obtain ⟨ie,_,h⟩:=af (show ai (E.ty.get e) _=some (v,us) from h);obtain ⟨_,h⟩:=av h;obtain ⟨q,_,h⟩:=af h;obtain ⟨_,h⟩:=av h;rw[aC] at h;split at h
 ·obtain ⟨_,h⟩:=av h;cases h;exact keys_nil
 ·cases s with
  |aR=>cases (show some (SV.sl new 0 q.1 (.u e),[(new,some (SO.cells e q.2))])=some (v,us) from h);exact iR
  |sl id off n cap=>
   obtain ⟨_,h⟩:=av (show sel (Nat.ble n 1000000) (sel (FQ n q.1 cap) (ai (eH f id off (Nat.mul n ie.size)) fun old=>me new e (Nat.add n q.1) (old++q.2) []) (aF (jQ (f id)) (eH f id off (Nat.mul n ie.size)) fun p old=>xp new e ie.size id off n cap q.1 q.2 p old)) none=some (v,us) from h)
   rw[aC] at h;split at h
   ·obtain ⟨old,_,h⟩:=af h;cases h;exact iR
   ·obtain ⟨p,old,hp,_,h⟩:=ay h;have hf:f id≠none:=by rw[jX hp];simp
    cases cap with
    |k c=>
     have h:sel (Nat.ble (Nat.add n q.1) c) (sel (Nat.ble (Nat.add off (Nat.mul (Nat.add n q.1) ie.size)) p.2.length) (some (SV.sl id off (Nat.add n q.1) (.k c),[(id,some (SO.cells p.1 (bI p.2 (Nat.add off (Nat.mul n ie.size)) q.2)))])) none)
      (me new e (Nat.add n q.1) (old++q.2) [])=some (v,us):=h
     rw[aC] at h;split at h
     ·obtain ⟨_,h⟩:=av h;cases h;exact p9 hf
     ·cases h;exact iR
    |u e0=>
     obtain ⟨_,h⟩:=av (show sel (Nat.ble (Nat.add off (Nat.mul n ie.size)) p.2.length&&Nat.beq e p.1) (me new e (Nat.add n q.1) (old++q.2) [(id,none)]) none=some (v,us) from h);cases h;intro u hu;simp at hu;rcases hu with rfl|rfl
     ·exact .inr hf
     ·exact .inl rfl
  |_=>cases h
theorem Rm {new:Nat} {t:TypeId} {d s v:SV} {us:List Up} (h:ly E f t d s=some (v,us)):ld f new us:=by
 obtain ⟨i,_,h⟩:=af h;obtain ⟨e,_,h⟩:=af h;obtain ⟨ie,_,h⟩:=af (show ai (E.ty.get e) _=some (v,us) from h);obtain ⟨_,h⟩:=av h;obtain ⟨nd,q,_,_,h⟩:=ay h;cases d with
 |sl id off n cap=>
  obtain ⟨p,hp,h⟩:=af (show ai (jQ (f id)) (fun p=>sel (Nat.ble (Nat.add off (Nat.mul (sel (Nat.ble q.1 nd) q.1 nd) ie.size)) p.2.length) (some (SV.int .i64 (.lit (.ofNat (sel (Nat.ble q.1 nd) q.1 nd))),[(id,some (SO.cells p.1 (bI p.2 off (q.2.take (Nat.mul (sel (Nat.ble q.1 nd) q.1 nd) ie.size)))))])) none)=some (v,us) from h)
  obtain ⟨_,h⟩:=av h;cases h;exact p9 (by rw[jX hp];simp)
 |aR=>cases (show some (SV.int .i64 (.lit (.ofNat (sel (Nat.ble q.1 nd) q.1 nd))),([]:List Up))=some (v,us) from h);exact keys_nil
 |sle=>cases (show some (SV.int .i64 (.lit (.ofNat (sel (Nat.ble q.1 nd) q.1 nd))),([]:List Up))=some (v,us) from h);exact keys_nil
 |_=>cases h
theorem dJ {new:Nat} {r:Option SV} {v:SV} {us:List Up} (h:same r=some (v,us)):ld f new us:=by
 obtain ⟨z,_,h⟩:=af h;cases h;exact keys_nil
theorem Jt {op:Op} {new:Nat} {v:SV} {us:List Up} (ho:opA E op T f new=some (v,us)):ld f new us:=by
 cases op with
 |move x=>
  obtain ⟨y,hy,ho⟩:=af (show ai (aI T x) (fun v=>some (v,([]:List Up)))=some (v,us) from ho)
  cases ho;exact keys_nil
 |assign x=>
  obtain ⟨y,hy,ho⟩:=af (show ai (aI T x) (fun v=>some (v,([]:List Up)))=some (v,us) from ho)
  cases ho;exact keys_nil
 |pick c x y=>
  obtain ⟨cv,hc,ho⟩:=af (show ai (aI T c) (fun v=>ai (il v) fun b=>one T (sel b x y) fun v=>some (v,([]:List Up)))=some (v,us) from ho)
  obtain ⟨b,hb,ho⟩:=af ho;obtain ⟨z,hz,ho⟩:=af ho;cases ho;exact keys_nil
 |alloc e=>
  obtain ⟨i,hi,ho⟩:=af (show ai (E.ty.get e) (fun i=>some (SV.ptr new 0,[(new,some (SO.cells e i.zero))]))=some (v,us) from ho)
  cases ho;exact iR
 |box e x=>
  obtain ⟨y,hy,ho⟩:=af (show ai (aI T x) (wV new e)=some (v,us) from ho);obtain ⟨cs,hc,ho⟩:=af ho;cases ho;exact iR
 |build t parts=>
  obtain ⟨pcs,hpc,ho⟩:=af (show ai (ep T parts.toList) (fun pcs=>same (nZ E t pcs))=some (v,us) from ho)
  exact dJ ho
 |buildSlice t len parts=>
  obtain ⟨pcs,hpc,ho⟩:=af (show ai (ep T parts.toList) (fun pcs=>hX E new t len pcs)=some (v,us) from ho)
  obtain ⟨i,hi,ho⟩:=af ho;obtain ⟨e,he,ho⟩:=af ho;obtain ⟨ie,hie,ho⟩:=af ho;obtain ⟨hc,ho⟩:=av ho;obtain ⟨cs,hf,ho⟩:=af ho;cases ho;exact iR
 |insert t m k x=>
  obtain ⟨y1,y2,h1,h2,ho⟩:=ay (show aF (aI T m) (aI T k) (fun a b=>one T x fun c=>unit (lA E f t a b c))=some (v,us) from ho)
  obtain ⟨y3,h3,ho⟩:=af ho;obtain ⟨us',hu,ho⟩:=af ho;cases ho;exact Es hu
 |mapUpdate t m k x=>
  obtain ⟨y1,y2,h1,h2,ho⟩:=ay (show aF (aI T m) (aI T k) (fun a b=>one T x fun c=>unit (lA E f t a b c))=some (v,us) from ho)
  obtain ⟨y3,h3,ho⟩:=af ho;obtain ⟨us',hu,ho⟩:=af ho;cases ho;exact Es hu
 |load t x=>
  obtain ⟨y,hy,ho⟩:=af (show ai (aI T x) (fun v=>same (iJ E f t v))=some (v,us) from ho)
  exact dJ ho
 |store t x y=>
  obtain ⟨y1,y2,h1,h2,ho⟩:=ay (show aF (aI T x) (aI T y) (fun a v=>unit (jb E f t v a))=some (v,us) from ho)
  obtain ⟨us',hu,ho⟩:=af ho;cases ho;exact MA hu
 |nilCheck x=>
  obtain ⟨y,hy,ho⟩:=af (show ai (aI T x) (fun v=>same (Av v))=some (v,us) from ho)
  exact dJ ho
 |binOp op t x y yt=>
  obtain ⟨y1,y2,h1,h2,ho⟩:=ay (show aF (aI T x) (aI T y) (fun v u=>same (sj E op t x y v u))=some (v,us) from ho)
  exact dJ ho
 |unOp op t x=>
  obtain ⟨y,hy,ho⟩:=af (show ai (aI T x) (fun v=>same (unA op v))=some (v,us) from ho)
  exact dJ ho
 |convert s d x=>
  obtain ⟨y,hy,ho⟩:=af (show ai (aI T x) (fun v=>same (Br E s d v))=some (v,us) from ho)
  exact dJ ho
 |makeInterface t x=>
  obtain ⟨y,hy,ho⟩:=af (show ai (aI T x) (Ar E t)=some (v,us) from ho);obtain ⟨i,hi,ho⟩:=af ho;rw[aC] at ho;split at ho
  ·cases ho
  ·cases ho;exact keys_nil
 |makeFunc fn first cf=>
  obtain ⟨hok,ho⟩:=av (show sel (Dp fn) (aF (bF T first.toList) (bF T cf.toList) fun l m=>some (SV.fn fn l m,([]:List Up))) none=some (v,us) from ho)
  obtain ⟨l,m,h1,h2,ho⟩:=ay ho;cases ho;exact keys_nil
 |makeMap t r=>
  cases r with
  |none=>cases (show some (SV.mp new,[(new,some (SO.map [] 0))])=some (v,us) from ho);exact iR
  |some x=>
   obtain ⟨i,y,hi,hy,ho⟩:=ay (show aF (E.ty.get t) (aI T x) (fun i v=>aF (pZ i.desc) (eX v) fun _ _=>Ay new)=some (v,us) from ho)
   obtain ⟨q,n,hq,vH,ho⟩:=ay ho;cases ho;exact iR
 |makeSlice t l c=>
  obtain ⟨y1,y2,h1,h2,ho⟩:=ay (show aF (aI T l) (aI T c) (fun u v=>aF (eX u) (eX v) (pR E new t))=some (v,us) from ho)
  obtain ⟨n1,n2,k1,k2,ho⟩:=ay ho;obtain ⟨i,hi,ho⟩:=af ho;obtain ⟨e,he,ho⟩:=af ho;obtain ⟨ie,hie,ho⟩:=af ho;obtain ⟨hc,ho⟩:=av ho;cases ho;exact iR
 |slice t x lo hi mx=>
  obtain ⟨y,hy,ho⟩:=af (show ai (aI T x) (fun v=>o7 (dv T lo) (dv T hi) (dv T mx) fun l u m=>same (pL E t v l u m))=some (v,us) from ho)
  obtain ⟨l,u,m,h1,h2,h3,ho⟩:=oZ ho;exact dJ ho
 |fieldAddr s x k=>
  obtain ⟨y,hy,ho⟩:=af (show ai (aI T x) (iQ E s k)=some (v,us) from ho);obtain ⟨i,p,hi,hp,ho⟩:=ay ho;obtain ⟨fs,hfs,ho⟩:=af ho;obtain ⟨fl,hfl,ho⟩:=af ho;obtain ⟨fi,hfi,ho⟩:=af ho;obtain ⟨hc,ho⟩:=av ho;cases ho;exact keys_nil
 |field t x k=>
  obtain ⟨y,hy,ho⟩:=af (show ai (aI T x) (mO E t k)=some (v,us) from ho);obtain ⟨i,cs,hi,hp,ho⟩:=ay ho;obtain ⟨fs,hfs,ho⟩:=af ho;obtain ⟨fl,hfl,ho⟩:=af ho;obtain ⟨fi,hfi,ho⟩:=af ho;exact dJ ho
 |indexAddr t x ix=>
  obtain ⟨y1,y2,h1,h2,ho⟩:=ay (show aF (aI T x) (aI T ix) (fun v u=>ai (eX u) fun k=>same (gQ E t v k))=some (v,us) from ho)
  obtain ⟨n,vH,ho⟩:=af ho;exact dJ ho
 |index t x ix=>
  obtain ⟨y1,y2,h1,h2,ho⟩:=ay (show aF (aI T x) (aI T ix) (fun v u=>ai (eX u) fun k=>jV E t k v)=some (v,us) from ho)
  obtain ⟨n,vH,ho⟩:=af ho;obtain ⟨i,hi,ho⟩:=af ho;generalize i.desc=D at ho;cases D with
  |string=>
   obtain ⟨s,hs,ho⟩:=af (show ai (strOf y1) (fun s=>ai (s.data.toList[n]?) fun b=>some (SV.int .u8 (.lit (.ofNat b.toNat)),([]:List Up)))=some (v,us) from ho)
   obtain ⟨b,hb,ho⟩:=af ho;cases ho;exact keys_nil
  |array m e=>
   obtain ⟨cs,ie,hcs,hie,ho⟩:=ay (show aF (ur y1) (E.ty.get e) (fun cs ie=>sel (Nat.ble (Nat.succ n) m) (same (cO ie cs (Nat.mul n ie.size))) none)=some (v,us) from ho)
   obtain ⟨hc,ho⟩:=av ho;exact dJ ho
  |_=>cases ho
 |lookup t x k ok=>
  obtain ⟨y1,y2,h1,h2,ho⟩:=ay (show aF (aI T x) (aI T k) (fun a b=>same (jW E f t a b ok))=some (v,us) from ho)
  exact dJ ho
 |range t x=>
  obtain ⟨y,hy,ho⟩:=af (show ai (aI T x) (lT E f new t)=some (v,us) from ho);obtain ⟨i,hi,ho⟩:=af ho;obtain ⟨q,hq,ho⟩:=af ho;cases ho;exact iR
 |next it isS=>
  obtain ⟨y,hy,ho⟩:=af (show ai (aI T it) (ma f isS)=some (v,us) from ho);obtain ⟨hs,ho⟩:=av ho;obtain ⟨id,hid,ho⟩:=af ho;obtain ⟨p,hp,ho⟩:=af ho;have ho:some (iC id p)=some (v,us):=ho;unfold iC at ho;rw[aC] at ho;split at ho
  ·cases ho;exact p9 (by rw[AN hp];simp)
  ·cases ho;exact keys_nil
 |typeAssert x xt t ok=>
  obtain ⟨y,hy,ho⟩:=af (show ai (aI T x) (pS E t ok)=some (v,us) from ho);obtain ⟨i,hi,ho⟩:=af ho;rw[aC] at ho;split at ho
  ·cases ho
  ·exact dJ ho
 |extract x i=>
  obtain ⟨y,hy,ho⟩:=af (show ai (aI T x) (fun v=>ai (zN v) fun vs=>same (vs[i]?))=some (v,us) from ho)
  obtain ⟨vs,hvs,ho⟩:=af ho;exact dJ ho
 |call c=>
  have ho:fJ E T f new c=some (v,us):=ho;unfold fJ at ho;split at ho
  ·rename_i b hb;obtain ⟨aa,has,ho⟩:=af ho;cases b with
   |len=>
    obtain ⟨x,t,h1,h2,ho⟩:=ay (show aF aa.head? c.argTypes.toList.head? (fun x t=>sel (Nat.beq aa.length 1) (ai (E.ty.get t) fun i=>same (mS i.desc x f)) none)=some (v,us) from ho)
    obtain ⟨hl,ho⟩:=av ho;obtain ⟨i,hi,ho⟩:=af ho;exact dJ ho
   |append=>
    obtain ⟨p,q,h1,h2,ho⟩:=ay (show aF (jo aa) (jo c.argTypes.toList) (fun p q=>ai (E.ty.get q.2) fun i=>sel (j0 i.desc) (fC E f new q.1 p.1 p.2) none)=some (v,us) from ho)
    obtain ⟨i,hi,ho⟩:=af ho;obtain ⟨hr,ho⟩:=av ho;exact Ld ho
   |copy=>
    obtain ⟨p,t,h1,h2,ho⟩:=ay (show aF (jo aa) c.argTypes.toList.head? (fun p t=>ly E f t p.1 p.2)=some (v,us) from ho)
    exact Rm ho
   |min=>
    obtain ⟨p,h1,ho⟩:=af (show ai (jo aa) (fun p=>same (yV E false p.1 p.2))=some (v,us) from ho)
    exact dJ ho
   |max=>
    obtain ⟨p,h1,ho⟩:=af (show ai (jo aa) (fun p=>same (yV E true p.1 p.2))=some (v,us) from ho)
    exact dJ ho
   |_=>cases ho
  ·cases ho
 |_=>cases ho
end
section
variable {E:Env} {g:Gh} {f:Hf} {w:World}
def AB (F:Fence) (n:Nat) (P:Program) (c:Code) (Q:Exit→Act→World→Prop) (a:Act) (w:World):Prop:=
 ∀(b:Frame) (k:List Item) (cs:List Frame),b.roundOf=F.round→F.fn b.fn→F.room (cs.length+1+n)→
  ∃e a' w',Q e a' w'∧ArrivesIn (Machine.fenced P F) P (lone (b.atR a (.code c:: .inLoop c::k)) cs w) b k cs e a' w'
def wpX (F:Fence) (n:Nat) (P:Program) (c:Code) (Q:Exit→Act→World→Prop) (a:Act) (w:World):Prop:=
 match c with
 | .loop b=>AB F n P b Q a w
 |c=>c.wpIn F n P Q a w
inductive ExR (g:Gh):Ex→Exit→Prop
 |normal:ExR g .normal .normal
 |exit (id):ExR g (.exit id) (.exit id)
 |ret:ExR g .ret .ret
 |pan {v u} (h:VR g u v):ExR g (.pan v) (.panic [{v:=u,recovered:=false}])
inductive Marks (g:Gh):List Dm→List Deferred→Prop
 |nil:Marks g [] []
 |mark {d mk r o ds} (h:g.ρ d=some (r,o)) (ht:Marks g mk ds):Marks g (.mark d::mk) ({target:=.collected r,args:= #[]}::ds)
 |fn {k aa ca mk ds} {us cs:Array Value} (h1:VRs g us.toList aa) (h2:VRs g cs.toList ca) (ht:Marks g mk ds):Marks g (.fn k aa ca::mk) ({target:=.fn (.func k) cs,args:=us}::ds)
theorem Marks.mono {g g':Gh} (hle:g.le g'):∀{mk:List Dm} {ds:List Deferred},Marks g mk ds→Marks g' mk ds
 |_,_,.nil=>.nil
 |_,_,.mark h ht=>.mark (hle.ρ _ _ h) (ht.mono hle)
 |_,_,.fn h1 h2 ht=>.fn (h1.mono hle) (h2.mono hle) (ht.mono hle)
def Bd (h:Hs):Prop:=∀x,h.nx≤x→h.hp.get x=none
structure Fac (h h':Hs):Prop where
 nx:h.nx≤h'.nx
 bd:Bd h'
 lg:∀x,x<h.nx→x∉h'.lg→h'.hp.get x=h.hp.get x
 sub:∀x∈h.lg,x∈h'.lg
 dead:∀x,x<h.nx→h.hp.get x=none→h'.hp.get x=none
theorem Fac.refl {h:Hs} (hb:Bd h):Fac h h:=⟨Nat.le_refl _,hb,fun _ _ _=>rfl,fun _ h=>h,fun _ _ h=>h⟩
theorem Fac.trans {a b c:Hs} (h:Fac a b) (k:Fac b c):Fac a c:=
 ⟨Nat.le_trans h.nx k.nx,k.bd,fun x hx hn=>(k.lg x (Nat.lt_of_lt_of_le hx h.nx) hn).trans (h.lg x hx (fun hc=>hn (k.sub x hc))),fun x hx=>k.sub x (h.sub x hx),fun x hx hn=>k.dead x (Nat.lt_of_lt_of_le hx h.nx) (h.dead x hx hn)⟩
def gG (h:Hs) (mk mk':List Dm):Prop:=mk.length≤mk'.length∧∀x,Dm.mark x∈mk'→Dm.mark x∈mk∨h.nx≤x
theorem gG.refl (h:Hs) (mk:List Dm):gG h mk mk:=⟨Nat.le_refl _,fun _ hx=>.inl hx⟩
theorem gG.trans {h h1:Hs} {mk mk1 mk2:List Dm} (f1:h.nx≤h1.nx) (l1:gG h mk mk1) (l2:gG h1 mk1 mk2):gG h mk mk2:=
 ⟨Nat.le_trans l1.1 l2.1,fun x hx=>(l2.2 x hx).elim (l1.2 x) fun hx=>.inr (Nat.le_trans f1 hx)⟩
def RN (nt:Nat) (g:Gh) (h:Hs) (w:World) (Q:Exit→Act→World→Prop) (o:Oc):Prop:=
 ∀g' a' w' x,ExR g' o.e x→FR g' nt o.tm.get a'.tmps→HR g' o.h.hp.get w'→Fr g h.hp.get w g' o.h.hp.get w'→Marks g' o.dm a'.defers→(∀x,o.h.nx≤x→g'.ρ x=none)→(∀x,x<h.nx→g'.ρ x=g.ρ x)→Q x a' w'
def cX (E:Env) (nt:Nat) (c:Code) (tm:Tr SV) (mk:List Dm) (h:Hs) (l:List Oc):Prop:=
 l≠ []∧(∀o∈l,Fac h o.h∧gG h mk o.dm)∧
 ∀(ro:Option Nat) (m:Nat) (g:Gh) (a:Act) (w:World) (Q:Exit→Act→World→Prop),codeOk c=true→(ro=none∨∀o∈l,o.dm.length=mk.length)→bu E g→FR g nt tm.get a.tmps→HR g h.hp.get w→Marks g mk a.defers→(∀x,h.nx≤x→g.ρ x=none)→
  (∀o∈l,RN nt g h w Q o)→wpX (fro ro) m E.P c Q a w
def OpsS (E:Env) (nt:Nat) (ops:Array Oper) (l:List Oper) (tm:Tr SV) (mk:List Dm) (h:Hs) (r:List Oc):Prop:=
 r≠ []∧(∀o∈r,Fac h o.h∧gG h mk o.dm)∧
 ∀(ro:Option Nat) (m:Nat) (g:Gh) (a:Act) (w:World) (Q:Exit→Act→World→Prop),(ro=none∨∀o∈r,o.dm.length=mk.length)→bu E g→FR g nt tm.get a.tmps→HR g h.hp.get w→Marks g mk a.defers→(∀x,h.nx≤x→g.ρ x=none)→
  (∀o∈r,RN nt g h w Q o)→wpOpsIn (fro ro) m E.P ops Q (List.range' (ops.size-l.length) l.length) a w
structure RP (base i W:Nat) (h h':Hs):Prop where
 nx:h.nx≤h'.nx
 bd:Bd h'
 lg:∀x,x<h.nx→¬(base+i≤x∧x<base+W)→x∉h'.lg→h'.hp.get x=h.hp.get x
 sub:∀x∈h.lg,x∈h'.lg
 dead:∀x,x<h.nx→¬(base+i≤x∧x<base+W)→h.hp.get x=none→h'.hp.get x=none
structure CndP (E:Env) (nt:Nat) (ops:Array Oper) (i:Nat) (o:Oper) (T:Tf) (F:Hf) (nx:Nat) (v:SV) (H':Hf) (nx':Nat):Prop where
 last:i+1=ops.size
 op:ops[i]? =some o
 lt:∀d∈dt o,d<i
 anc:∀j,j<i→j∈anc ops ops.size i
 oh:nx≤nx'
 sem:∀(ro:Option Nat) (m:Nat) (g:Gh) (a:Act) (w:World) (Q:Exit→Act→World→Prop) (K:Act→World→Prop),bu E g→FR g nt T a.tmps→HR g F w→(∀x,nx≤x→g.ρ x=none)→
  (∀u w' g',VR g' u v→HR g' H' w'→Fr g F w g' H' w'→(∀x,x<nx→g'.ρ x=g.ρ x)→(∀x,nx'≤x→g'.ρ x=none)→Q (.panic [{v:=u,recovered:=false}]) a w')→wpOpIn (fro ro) m E.P ops Q i K a w
def Sound (E:Env):Job→Out→Prop
 | .code nt c tm mk h,.aQ l=>Bd h→cX E nt c tm mk h l
 | .ops nt all l tm mk h,.aQ r=>∀ops:Array Oper,ops.toList=all→ops.toList.drop (ops.size-l.length)=l→Bd h→OpsS E nt ops l tm mk h r
 | .draw nt W all base i M prev l tm h,.st tm' h'=>∀ops:Array Oper,ops.toList=all→W=ops.size→ops.toList.drop i=l→base+W≤h.nx→Bd h→(∀x,h.hp.get x≠none→¬(base+i≤x∧x<base+W))→ss ops W M i→(∀p∈prev,p.call=false→p.hi=p.lo+1∧p.lo<base+W)→
   ∀ps:List St,ps.map (·.rc)=prev→RP base i W h h'∧∃out,DT E nt W ops base i ps l tm.get h.hp.get h.nx tm'.get h'.hp.get h'.nx out
 | .draw nt W all base i M prev l tm h,.aQ r=>∀ops:Array Oper,ops.toList=all→W=ops.size→ops.toList.drop i=l→base+W≤h.nx→Bd h→(∀x,h.hp.get x≠none→¬(base+i≤x∧x<base+W))→ss ops W M i→(∀p∈prev,p.call=false→p.hi=p.lo+1∧p.lo<base+W)→
   ∀ps:List St,ps.map (·.rc)=prev→∃v tm' dm h',r= [⟨.pan v,tm',dm,h'⟩]∧RP base i W h h'∧∃l0 o out F1 nx1,l=l0++ [o]∧DT E nt W ops base i ps l0 tm.get h.hp.get h.nx tm'.get F1 nx1 out∧CndP E nt ops (i+l0.length) o tm'.get F1 nx1 v h'.hp.get h'.nx
 | .call fv aa h,.bN l=>Bd h→l≠ []∧(∀r∈l,Fac h r.h)∧kz E fv aa h.hp.get h.nx l
 |_,_=>True
structure BJ (w w':World):Prop where
 os:w'.os=w.os
 tape:w'.tape=w.tape
 output:w'.output=w.output
 size:w.heap.size≤w'.heap.size
 heap:∀b,b<w.heap.size→w'.heap[b]? =w.heap[b]?
def RO (P:Program) (k:FuncId):Prop:=∃fn,P.funcs[k]? =some fn∧fn.body.isSome=true∧fn.name≠ "runtime.NumGoroutine"
def BT (P:Program) (k:FuncId) (v:SV):Prop:=
 RO P k∧∀m w,CallsIn Fence.wide m P k #[] w fun e w'=>∃r,e= .returned r∧(∀g,VR g r v)∧BJ w w'
def XA (P:Program) (k:FuncId) (t:TypeId):Prop:=
 RO P k∧∀(m:Nat) (w:World) (p:Option Addr) (n c:Nat) (lf:Fn) (la lb:Array Value),n≤1→CallsIn Fence.wide m P k #[.iface t (.slice p n c),.func lf la lb] w fun e w'=>e= .returned (.tuple #[])∧BJ w w'
def akO (m:Mo):Prop:=(∀p∈m.inp,p.1<m.nx)∧(∀p∈m.out,p.1<m.nx'∧(m.nx≤p.1∨p.1∈m.inp.map (·.1)))∧m.nx≤m.nx'∧j3 (m.inp.map (·.1)) m.aa=true∧y8 (m.inp.map (·.1)) m.inp=true∧∀p∈m.out,sG p.2=true
def ow (E:Env) (m:Mo):Prop:=
 RO E.P m.k∧akO m∧∀(j:Nat) (g:Gh) (w:World) (us:List Value),bu E g→HR g (bU m.inp .nil).get w→(∀x,m.nx≤x→g.ρ x=none)→VRs g us m.aa→
  CallsIn Fence.wide j E.P m.k us.toArray w fun e w'=>∃r g',e= .returned r∧VR g' r m.v∧HR g' (bU m.out (bU m.inp .nil)).get w'∧Fr g (bU m.inp .nil).get w g' (bU m.out (bU m.inp .nil)).get w'∧(∀x,x<m.nx→g'.ρ x=g.ρ x)∧∀x,m.nx'≤x→g'.ρ x=none
structure jM (E:Env):Prop where
 fn:∀k fn,E.fn.get k=some fn→E.P.funcs[k]? =some fn∧QM fn=true
 ext:∀k fn,E.fn.get k=some fn→fn.body=none→(fn.name== "internal/bytealg.abigen_runtime_cmpstring")=true→Extern.findNext fn=none∧Extern.find fn=some Extern.BytealgCompare.compare
 mix:E.P.follows .mixedOrders=true
 done:∀k v,iV E k []=some v→BT E.P k v
 jZ:∀k t,zP k t E.jZ=true→XA E.P k t
 fE:∀m∈E.fE,ow E m
theorem RL {a b:Out} {r:List Oc} (h:Le a b= .aQ r):∃x y,a= .aQ x∧b= .aQ y∧r=x++y:=by
 cases a<;>cases b<;>first|(cases h;done)|(cases h;exact ⟨_,_,rfl,rfl,rfl⟩)
theorem Xy {a b:Out} {r:List Rs} (h:Le a b= .bN r):∃x y,a= .bN x∧b= .bN y∧r=x++y:=by
 cases a<;>cases b<;>first|(cases h;done)|(cases h;exact ⟨_,_,rfl,rfl,rfl⟩)
theorem kL {α:Type} {k:α→Out}:∀{l:List α} {r:List Oc},lM k l= .aQ r→l≠ []∧(∀o∈l,∃r',k o= .aQ r'∧∀x∈r',x∈r)∧∀x∈r,∃o∈l,∃r',k o= .aQ r'∧x∈r'
 | [],r,h=>by cases h
 | [o],r,h=>by
  have h:k o= .aQ r:=h;refine ⟨by simp,fun o' ho=> ?_,fun x hx=>⟨o,by simp,r,h,hx⟩⟩
  obtain rfl:=List.mem_singleton.1 ho;exact ⟨r,h,fun _ hx=>hx⟩
 |o::o'::l,r,h=>by
  obtain ⟨x,y,h1,h2,rfl⟩:=RL (show Le (k o) (lM k (o'::l))= .aQ r from h);obtain ⟨_,q1,q2⟩:=kL h2;refine ⟨by simp,fun z hz=> ?_,fun z hz=> ?_⟩
  ·rcases List.mem_cons.1 hz with rfl|hz
   ·exact ⟨x,h1,fun a ha=>by simp[ha]⟩
   ·obtain ⟨r',e1,e2⟩:=q1 z hz;exact ⟨r',e1,fun a ha=>by simp[e2 a ha]⟩
  ·rcases List.mem_append.1 hz with hz|hz
   ·exact ⟨o,by simp,x,h1,hz⟩
   ·obtain ⟨a,ha,r',e1,e2⟩:=q2 z hz;exact ⟨a,List.mem_cons_of_mem _ ha,r',e1,e2⟩
theorem lY {α:Type} {k:α→Out}:∀{l:List α} {r:List Rs},lM k l= .bN r→l≠ []∧(∀o∈l,∃r',k o= .bN r'∧∀x∈r',x∈r)∧∀x∈r,∃o∈l,∃r',k o= .bN r'∧x∈r'
 | [],r,h=>by cases h
 | [o],r,h=>by
  have h:k o= .bN r:=h;refine ⟨by simp,fun o' ho=> ?_,fun x hx=>⟨o,by simp,r,h,hx⟩⟩
  obtain rfl:=List.mem_singleton.1 ho;exact ⟨r,h,fun _ hx=>hx⟩
 |o::o'::l,r,h=>by
  obtain ⟨x,y,h1,h2,rfl⟩:=Xy (show Le (k o) (lM k (o'::l))= .bN r from h);obtain ⟨_,q1,q2⟩:=lY h2;refine ⟨by simp,fun z hz=> ?_,fun z hz=> ?_⟩
  ·rcases List.mem_cons.1 hz with rfl|hz
   ·exact ⟨x,h1,fun a ha=>by simp[ha]⟩
   ·obtain ⟨r',e1,e2⟩:=q1 z hz;exact ⟨r',e1,fun a ha=>by simp[e2 a ha]⟩
  ·rcases List.mem_append.1 hz with hz|hz
   ·exact ⟨o,by simp,x,h1,hz⟩
   ·obtain ⟨a,ha,r',e1,e2⟩:=q2 z hz;exact ⟨a,List.mem_cons_of_mem _ ha,r',e1,e2⟩
theorem pT {r:Out} {k:Ex→Tr SV→List Dm→Hs→Out} {x:List Oc} (h:pU r k= .aQ x):∃l,r= .aQ l∧lM (fun o:Oc=>k o.e o.tm o.dm o.h) l= .aQ x:=by
 cases r<;>first|(cases h;done)|exact ⟨_,rfl,h⟩
theorem nv {r:Out} {k:Ex→Tr SV→List Dm→Hs→Out} {x:List Rs} (h:pU r k= .bN x):∃l,r= .aQ l∧lM (fun o:Oc=>k o.e o.tm o.dm o.h) l= .bN x:=by
 cases r<;>first|(cases h;done)|exact ⟨_,rfl,h⟩
theorem Ps {r:Out} {k kp:SV→Hs→Out} {x:List Oc} (h:Dd r k kp= .aQ x):∃l,r= .bN l∧lM (fun r:Rs=>sel r.pan (kp r.v r.h) (k r.v r.h)) l= .aQ x:=by
 cases r<;>first|(cases h;done)|exact ⟨_,rfl,h⟩
theorem UJ {r:Out} {k kp:SV→Hs→Out} {x:List Rs} (h:Dd r k kp= .bN x):∃l,r= .bN l∧lM (fun r:Rs=>sel r.pan (kp r.v r.h) (k r.v r.h)) l= .bN x:=by
 cases r<;>first|(cases h;done)|exact ⟨_,rfl,h⟩
theorem Hq:∀(us:List Up) (h:Hs),(∀x∈h.lg,x∈(h.ups us).lg)∧∀u∈us,u.1∈(h.ups us).lg
 | [],h=>⟨fun _ hx=>hx,fun u hu=>by simp at hu⟩
 |u::us,h=>by
  obtain ⟨h1,h2⟩:=Hq us (h.up u);refine ⟨fun x hx=>h1 x (List.mem_cons_of_mem _ hx),fun v hv=> ?_⟩
  rcases List.mem_cons.1 hv with rfl|hv
  ·exact h1 v.1 (by simp[Hs.up])
  ·exact h2 v hv
theorem aej (h:Hs) (us:List Up):(h.fin us).hp.get=gL h.hp.get us:=by
 cases us with
 |nil=>rfl
 |cons u us=>exact wJ (u::us) h
theorem iF {us:List Up} {x:Nat} (h:x∉us.map (·.1)) (F:Hf):gL F us x=F x:=by rw[pI us F F x,if_neg h]
theorem aek {h:Hs} {us:List Up} (hb:Bd h) (hk:ld h.hp.get h.nx us):Fac h (h.fin us):=by
 cases us with
 |nil=>exact Fac.refl hb
 |cons u us=>
  have e:h.fin (u::us)=(h.ups (u::us)).bump:=rfl;have hn:(h.ups (u::us)).nx=h.nx:=pH _ _;have hg:(h.ups (u::us)).hp.get=gL h.hp.get (u::us):=wJ _ _;have hlt:∀v∈u::us,v.1≤h.nx:=fun v hv=>by
   rcases hk v hv with h1|h1
   ·omega
   ·by_cases hl:h.nx≤v.1
    ·exact absurd (hb _ hl) h1
    ·omega
  obtain ⟨l1,l2⟩:=Hq (u::us) h;refine ⟨?_,fun x hx=> ?_,fun x hx hl=> ?_,fun x hx=>l1 x hx,fun x hx hl=> ?_⟩
  ·rw[e];show h.nx≤(h.ups (u::us)).nx+1;omega
  ·rw[e] at hx ⊢;have hx:(h.ups (u::us)).nx+1≤x:=hx;show (h.ups (u::us)).hp.get x=none;rw[hg,iF (fun hc=>by obtain ⟨v,hv,rfl⟩:=List.mem_map.1 hc;have:=hlt v hv;omega)]
   exact hb x (by omega)
  ·rw[e] at hl ⊢;show (h.ups (u::us)).hp.get x=_;rw[hg,iF (fun hc=>by obtain ⟨v,hv,rfl⟩:=List.mem_map.1 hc;exact hl (l2 v hv))]
  ·rw[e];show (h.ups (u::us)).hp.get x=_;rw[hg,iF (fun hc=>by
    obtain ⟨v,hv,rfl⟩:=List.mem_map.1 hc;rcases hk v hv with h1|h1
    ·omega
    ·exact h1 hl)]
   exact hl
theorem Jn {ops:Array Oper} {o:Oper} {l:List Oper} (h:ops.toList.drop (ops.size-(o::l).length)=o::l):ops[ops.size-(o::l).length]? =some o∧ops.toList.drop (ops.size-l.length)=l∧ops.size-l.length=ops.size-(o::l).length+1:=by
 have hi:ops.size-(o::l).length<ops.toList.length:=by
  by_cases hl:ops.size-(o::l).length<ops.toList.length
  ·exact hl
  ·rw[List.drop_of_length_le (by omega)] at h;simp at h
 have hlen:(o::l).length≤ops.size:=by
  have:=congrArg List.length h;simp at this ⊢;omega
 rw[List.drop_eq_getElem_cons hi] at h;obtain ⟨h1,h2⟩:=List.cons.inj h;have e:ops.size-l.length=ops.size-(o::l).length+1:=by simp at hlen ⊢;omega
 refine ⟨?_,by rw[e];exact h2,e⟩
 have:ops.toList[ops.size-(o::l).length]? =some o:=by rw[List.getElem?_eq_getElem hi,h1]
 simpa using this
theorem pQ {nt:Nat} {all:List Oper} {o:Oper} {l:List Oper} {tm:Tr SV} {mk:List Dm} {h:Hs} {r:List Oc} (W:List (Tr SV×List Dm×Hs)) (P:List Oc)
  (tR:∀(ops:Array Oper) (i:Nat),ops.toList=all→ops[i]? =some o→Bd h→∀(ro:Option Nat) (m:Nat) (g:Gh) (a:Act) (w:World) (K:Act→World→Prop) (Q:Exit→Act→World→Prop),(ro=none∨∀y∈W,y.2.1.length=mk.length)→bu E g→FR g nt tm.get a.tmps→HR g h.hp.get w→Marks g mk a.defers→(∀x,h.nx≤x→g.ρ x=none)→
   (∀y∈W,∀g' a' w',FR g' nt y.1.get a'.tmps→HR g' y.2.2.hp.get w'→Fr g h.hp.get w g' y.2.2.hp.get w'→Marks g' y.2.1 a'.defers→(∀x,y.2.2.nx≤x→g'.ρ x=none)→(∀x,x<h.nx→g'.ρ x=g.ρ x)→K a' w')→(∀o∈P,RN nt g h w Q o)→wpOpIn (fro ro) m E.P ops Q i K a w)
  (Kh:Bd h→(∀y∈W,Fac h y.2.2∧gG h mk y.2.1)∧∀o∈P,Fac h o.h∧gG h mk o.dm) (hP:∀o∈P,o∈r) (hne:∀ops:Array Oper,ops.toList=all→ops.toList.drop (ops.size-l.length)=l→Bd h→r≠ [])
  (hin:∀o∈r,o∈P∨∃y∈W,∃r',Sound E (.ops nt all l y.1 y.2.1 y.2.2) (.aQ r')∧o∈r') (ih:∀y∈W,∃r',Sound E (.ops nt all l y.1 y.2.1 y.2.2) (.aQ r')∧∀o∈r',o∈r):Sound E (.ops nt all (o::l) tm mk h) (.aQ r):=by
 intro ops he hd hbd;obtain ⟨hi,hd',hidx⟩:=Jn hd;obtain ⟨fW,fP⟩:=Kh hbd;refine ⟨hne ops he hd' hbd,fun o ho=> ?_,fun ro m g a w Q hro hE hfr hr hmk hnx hk=> ?_⟩
 ·rcases hin o ho with hp|⟨y,hy,r',hs,hor⟩
  ·exact fP o hp
  ·obtain ⟨_,f1,_⟩:=hs ops he hd' (fW y hy).1.bd;exact ⟨(fW y hy).1.trans (f1 o hor).1,gG.trans (fW y hy).1.nx (fW y hy).2 (f1 o hor).2⟩
 ·rw[List.length_cons,List.range'_succ,wpOpsIn_cons];refine tR ops _ he hi hbd ro m g a w _ Q (hro.imp_right fun hro y hy=> ?_) hE hfr hr hmk hnx (fun y hy g' a' w' q1 q2 q3 q4 q5 q6=> ?_) (fun o ho=>hk o (hP o ho))
  ·obtain ⟨r',hs,hor⟩:=ih y hy;obtain ⟨tS,f1,_⟩:=hs ops he hd' (fW y hy).1.bd;obtain ⟨o',ho'⟩:=List.exists_mem_of_ne_nil _ tS;have h1:=(fW y hy).2.1;have h2:=(f1 o' ho').2.1;have h3:=hro o' (hor o' ho');omega
  ·obtain ⟨r',hs,hor⟩:=ih y hy;obtain ⟨tS,f1,k1⟩:=hs ops he hd' (fW y hy).1.bd;have:=k1 ro m g' a' w' Q (hro.imp_right fun hro o' ho'=>by
    obtain ⟨o2,ho2⟩:=List.exists_mem_of_ne_nil _ tS;have h1:=(fW y hy).2.1;have h2:=(f1 o' ho').2.1;have h3:=hro o' (hor o' ho');omega) (hE.mono q3.le) q1 q2 q4 q5 (fun o' ho' g2 a2 w2 x s0 s1 s2 s3 s4 s5 s6=>hk o' (hor o' ho') g2 a2 w2 x s0 s1 s2 (q3.trans s3) s4 s5 (fun x hx=>by
     rw[s6 x (Nat.lt_of_lt_of_le hx (fW y hy).1.nx),q6 x hx]))
   rw[hidx] at this;exact this
theorem Jm {nt:Nat} {all:List Oper} {o:Oper} {l:List Oper} {tm tm1:Tr SV} {mk:List Dm} {h h1:Hs} {out:Out} {need frp newp:Nat→Prop} {v:SV} {D:Nat→Bool} {H':Hf}
  (hst:∀(ops:Array Oper) (i:Nat),ops.toList=all→ops[i]? =some o→Bd h→∀ro,nG E ro nt ops i o tm.get need h.hp.get frp newp v D H') (htm:tm1.get=mM tm.get o.dst v) (hh:Bd h→h1.hp.get=gg D H' h.hp.get) (hfrp:∀x,frp x→h.nx≤x)
  (eL:∀x,newp x→h.nx≤x∧x<h1.nx) (Kh:Bd h→Fac h h1) (ih:Sound E (.ops nt all l tm1 mk h1) out):Sound E (.ops nt all (o::l) tm mk h) out:=by
 cases out with
 |aQ r=>
  by_cases hne:r= []
  ·intro ops he hd hbd;obtain ⟨_,hd',_⟩:=Jn hd;exact absurd hne (ih ops he hd' (Kh hbd).bd).1
  refine pQ [(tm1,mk,h1)] [] (fun ops i he hi hbd ro m g a w K Q hro hE hfr hr hmk hnx hk _=> ?_) (fun hbd=>⟨fun y hy=> ?_,fun o ho=>by simp at ho⟩) (fun o ho=>by simp at ho) (fun _ _ _ _=>hne) (fun o ho=>.inr ⟨(tm1,mk,h1),by simp,r,ih,ho⟩) (fun y hy=> ?_)
  ·refine hst ops i he hi hbd ro m g h.hp.get tm.get a w K Q hE hfr hr (fun _ _=>rfl) (fun _ _=>rfl) (fun x hx=>hnx x (hfrp x hx)) (fun r w' g' q1 q2 q3 q4=> ?_)
   rw[←htm] at q1;rw[←hh hbd] at q2 q3;have hf1:=(Kh hbd).nx;exact hk (tm1,mk,h1) (by simp) g' (a.put o.dst r) w' q1 q2 q3 (by rw[put_defers];exact hmk.mono q3.le) (fun x hx=>by
    have hx:h1.nx≤x:=hx;rw[q4 x (fun hn=>by have:=eL x hn;omega)]
    exact hnx x (by omega)) (fun x hx=>q4 x (fun hn=>by have:=eL x hn;omega))
  ·obtain rfl:=List.mem_singleton.1 hy;exact ⟨Kh hbd,gG.refl _ _⟩
  ·obtain rfl:=List.mem_singleton.1 hy;exact ⟨r,ih,fun _ h=>h⟩
 |_=>trivial
def oN (us:List Up) (new:Nat):Nat→Bool:=fun x=>decide (x∈us.map (·.1)∨x=new)
theorem adK {nt:Nat} {all:List Oper} {o:Oper} {l:List Oper} {tm:Tr SV} {mk:List Dm} {h:Hs} {out:Out} {v:SV} {us:List Up} (hw:bG all o tm.get=some true) (hd:bX nt o.dst=true) (ho:opA E o.op tm.get h.hp.get h.nx=some (v,us))
  (hnd:∀c,o.op≠ .defer c) (ih:Sound E (.ops nt all l (aY tm o.dst v) mk (h.fin us)) out):Sound E (.ops nt all (o::l) tm mk h) out:=by
 refine Jm (need:=fun x=>x∈eF o.op tm.get) (frp:=fun x=>x=h.nx) (newp:=fun x=>x=h.nx∧us≠ []) (v:=v) (D:=oN us h.nx) (H':=gL h.hp.get us) (fun ops i he hi hbd ro=> ?_) (jz _ _ _) (fun hbd=> ?_) (fun x hx=>by omega) (fun x hx=> ?_) (fun hbd=>aek hbd (Jt ho)) ih
 ·subst he;exact yh hi hw hd ho (hbd _ (Nat.le_refl _)) (fun x=>by simp[oN]) hnd
 ·rw[aej];funext x;unfold gg oN;by_cases h1:x∈us.map (·.1)
  ·rw[if_pos (by simp only[decide_eq_true_eq];exact .inl h1)]
  ·rw[iF h1];split<;>rfl
 ·obtain ⟨rfl,hne⟩:=hx;refine ⟨Nat.le_refl _,?_⟩;cases us with
  |nil=>exact absurd rfl hne
  |cons u us=>
   show h.nx<(h.ups (u::us)).nx+1;rw[pH];omega
theorem Ys {nt:Nat} {all:List Oper} {o:Oper} {l:List Oper} {tm:Tr SV} {mk:List Dm} {h:Hs} {out:Out} (hw:bG all o tm.get=some false) (hd:bX nt o.dst=true) (ih:Sound E (.ops nt all l (aY tm o.dst (.tup [])) mk h) out):Sound E (.ops nt all (o::l) tm mk h) out:=by
 refine Jm (need:=fun _=>False) (frp:=fun x=>x=h.nx) (newp:=fun _=>False) (v:=.tup []) (D:=fun x=>decide (x=h.nx)) (H':=h.hp.get) (fun ops i he hi hbd ro=> ?_) (jz _ _ _) (fun hbd=> ?_) (fun x hx=>by omega) (fun x hx=>hx.elim) (fun hbd=>Fac.refl hbd) ih
 ·subst he;exact step_skip hi hw hd (hbd _ (Nat.le_refl _)) (fun x=>by simp)
 ·funext x;unfold gg;split<;>rfl
theorem yA {op:Op} {c:Call} (h:dx op=some c):op= .call c∧isValue c.callee=true:=by
 cases op<;>first|(cases h;done)|skip
 rename_i c';have h:sel (isValue c'.callee) (some c') none=some c:=h;obtain ⟨h1,h2⟩:=av h;cases h2;exact ⟨rfl,h1⟩
theorem Bn {op:Op} {T:Tf} {new:Nat} {r:SV×List Up} (h:opA E op T f new=some r):∀c,op≠ .defer c:=by
 intro c e;subst e;cases h
end
section
variable {E:Env} {g:Gh} {f:Hf} {w:World}
theorem Jb {h:Hs} {l:Nat} {o o':SO} (hb:Bd h) (hl:h.hp.get l=some o):Fac h (h.put l o'):=by
 have hlt:l<h.nx:=by
  by_cases hc:h.nx≤l
  ·rw[hb l hc] at hl;simp at hl
  ·omega
 have hg:∀x,(h.put l o').hp.get x=if x=l then some o' else h.hp.get x:=fun x=>Tr.bR _ _ _ _
 refine ⟨Nat.le_refl _,fun x hx=> ?_,fun x hx hn=> ?_,fun x hx=>List.mem_cons_of_mem _ hx,fun x hx hn=> ?_⟩
 ·have hx:h.nx≤x:=hx;rw[hg,if_neg (by omega)];exact hb x hx
 ·have hn:x∉l::h.lg:=hn;rw[hg,if_neg (fun e=>hn (by simp[e]))]
 ·rw[hg,if_neg (fun e=>by subst e;rw[hl] at hn;simp at hn)];exact hn
theorem Ym (h:Hs) (l:Nat) (o:SO):(h.put l o).hp.get=upF h.hp.get (l,some o):=funext fun x=>Tr.bR _ _ _ _
theorem yP {nt:Nat} {all:List Oper} {o:Oper} {l:List Oper} {tm:Tr SV} {mk mk1:List Dm} {h:Hs} {r:List Oc} {v:SV} (hd:bX nt o.dst=true) (hmk:gG h mk mk1)
  (tR:∀(ops:Array Oper) (i:Nat),ops.toList=all→ops[i]? =some o→∀(ro:Option Nat) (m:Nat) (g:Gh) (a:Act) (w:World) (K:Act→World→Prop) (Q:Exit→Act→World→Prop),(ro=none∨mk1.length=mk.length)→bu E g→FR g nt tm.get a.tmps→HR g h.hp.get w→Marks g mk a.defers→
   (∀a' u,VR g u v→a'.tmps=(a.put o.dst u).tmps→Marks g mk1 a'.defers→K a' w)→wpOpIn (fro ro) m E.P ops Q i K a w)
  (ih:Sound E (.ops nt all l (aY tm o.dst v) mk1 h) (.aQ r)):Sound E (.ops nt all (o::l) tm mk h) (.aQ r):=by
 by_cases hne:r= []
 ·intro ops he hd hbd;obtain ⟨_,hd',_⟩:=Jn hd;exact absurd hne (ih ops he hd' hbd).1
 refine pQ [(aY tm o.dst v,mk1,h)] [] (fun ops i he hi hbd ro m g a w K Q hro hE hfr hr hmk' hnx hk _=> ?_) (fun hbd=>⟨fun y hy=> ?_,fun o ho=>by simp at ho⟩) (fun o ho=>by simp at ho) (fun _ _ _ _=>hne) (fun o' ho=>.inr ⟨(aY tm o.dst v,mk1,h),by simp,r,ih,ho⟩) (fun y hy=> ?_)
 ·refine tR ops i he hi ro m g a w K Q (hro.imp_right fun hh=>hh (aY tm o.dst v,mk1,h) (by simp)) hE hfr hr hmk' (fun a' u hu ha hm=> ?_)
  refine hk (aY tm o.dst v,mk1,h) (by simp) g a' w ?_ hr (Fr.refl _ _ _) hm hnx (fun _ _=>rfl)
  rw[jz,ha];exact hfr.put hd hu
 ·obtain rfl:=List.mem_singleton.1 hy;exact ⟨Fac.refl hbd,hmk⟩
 ·obtain rfl:=List.mem_singleton.1 hy;exact ⟨r,ih,fun _ h=>h⟩
theorem Vh {x v:SV} (h:Dh x=some v):∃t y,x= .ifc t y∧v= .ifc t y:=by
 cases x with
 |ifc t y=>cases h;exact ⟨t,y,rfl,rfl⟩
 |_=>cases h
theorem MG {x:SV} {aa:List SV} {d:Dm} (h:vm x aa=some d):∃k fi ca,x= .fn (.func k) fi ca∧d= .fn k (fi++aa) ca:=by
 cases x with
 |fn f fi ca=>
  cases f with
  |func k=>cases h;exact ⟨k,fi,ca,rfl,rfl⟩
  |_=>cases h
 |_=>cases h
theorem KJ {op:Op} {c:Call} (h:lX op=some c):op= .defer c∧isValue c.callee=true:=by
 cases op<;>first|(cases h;done)|skip
 rename_i c';have h:sel (isValue c'.callee) (some c') none=some c:=h;obtain ⟨h1,h2⟩:=av h;cases h2;exact ⟨rfl,h1⟩
theorem Jj {op:Op} {x:Operand} (h:kG op=some x):op= .panic x:=by
 cases op<;>first|(cases h;done)|(cases h;rfl)
theorem MT {op:Op} {x:Operand×Bool} (h:mb op=some x):(op= .next x.1 false∧x.2=false)∨(op= .entry x.1∧x.2=true):=by
 cases op<;>first|(cases h;done)|skip
 ·rename_i it isS;have h:sel isS none (some (it,false))=some x:=h;cases isS with
  |true=>cases h
  |false=>cases h;exact .inl ⟨rfl,rfl⟩
 ·cases h;exact .inr ⟨rfl,rfl⟩
theorem kV {nt:Nat} {tm:Tf} {a:Act} {ops:Array Oper} {o:Oper} (hfr:FR g nt tm a.tmps) (hw:bG ops.toList o tm=some true):Region.wanted o (yielded ops a.tmps)=true:=nk hfr hw
theorem Aq {ro:Option Nat} {ops:Array Oper} {i m:Nat} {o:Oper} {a:Act} {K:Act→World→Prop} {Q:Exit→Act→World→Prop} (hi:ops[i]? =some o) (hw:Region.wanted o (yielded ops a.tmps)=true) (h:o.uponIn (fro ro) m E.P a K Q ((o.semAt (fro ro).round a.eval).run E.P w)):wpOpIn (fro ro) m E.P ops Q i K a w:=by
 unfold wpOpIn;rw[hi];simp only;rw[if_pos hw];exact ⟨pb E.P w,h⟩
theorem Wh {nt:Nat} {all:List Oper} {o:Oper} {l:List Oper} {tm:Tr SV} {mk:List Dm} {h:Hs} {x:Operand} {y v:SV} (hw:bG all o tm.get=some true) (hop:o.op= .panic x) (hx:aI tm.get x=some y) (hy:Dh y=some v):
  Sound E (.ops nt all (o::l) tm mk h) (.aQ [⟨.pan v,tm,mk,h⟩]):=by
 refine pQ [] [⟨.pan v,tm,mk,h⟩] (fun ops i he hi hbd ro m g a w K Q hro hE hfr hr hmk hnx _ hk=> ?_) (fun hbd=>⟨fun y hy=>by simp at hy,fun o ho=> ?_⟩) (fun o ho=>ho) (fun _ _ _ _=>by simp) (fun o ho=>.inl ho) (fun y hy=>by simp at hy)
 ·subst he;obtain ⟨t,z,rfl,rfl⟩:=Vh hy;have hv:=fD hfr hx;generalize hu:a.eval x=u at hv;cases hv with
  | @ifc _ u' _ hu'=>
  refine Aq hi (kV hfr hw) ?_;rw[Oper.semAt_eq _ _ _ (fun c' h=>by rw[hop] at h;cases h)]
  have hex:(execOp a.eval o).run E.P w= .halt (.panic (.iface t u')) w:=by
   simp only[execOp,hop,hu,Instr.panic,goPanic,Sem.run_bind];rfl
  rw[hex];exact hk ⟨.pan (.ifc t z),tm,mk,h⟩ (by simp) g a w _ (.pan (.ifc hu')) hfr hr (Fr.refl _ _ _) hmk hnx (fun _ _=>rfl)
 ·obtain rfl:=List.mem_singleton.1 ho;exact ⟨Fac.refl hbd,gG.refl _ _⟩
theorem Wj {nt:Nat} {all:List Oper} {o:Oper} {c:Call} {l:List Oper} {tm:Tr SV} {mk:List Dm} {h:Hs} {r:List Oc} {fv:SV} {aa:List SV} {d:Dm} (hw:bG all o tm.get=some true) (hd:bX nt o.dst=true) (hop:o.op= .defer c) (hc:eW tm.get c.callee=some fv) (has:bF tm.get c.args.toList=some aa) (hdm:vm fv aa=some d)
  (ih:Sound E (.ops nt all l (aY tm o.dst .undef) (d::mk) h) (.aQ r)):Sound E (.ops nt all (o::l) tm mk h) (.aQ r):=by
 obtain ⟨k,fi,ca,rfl,rfl⟩:=MG hdm;refine yP hd ⟨by simp,fun x hx=>.inl (by simpa using hx)⟩ (fun ops i he hi ro m g a w K Q hro hE hfr hr hmk hk=> ?_) ih
 subst he;have hro:ro=none:=by
  rcases hro with h|h
  ·exact h
  ·simp at h
 subst hro;obtain ⟨x,hx⟩:∃x,c.callee= .value x:=by
  cases hcc:c.callee with
  |value x=>exact ⟨x,rfl⟩
  |_=>rw[hcc] at hc;cases hc
 rw[hx] at hc;have hu:=fD hfr (show aI tm.get x=some (.fn (.func k) fi ca) from hc);have hus:=lR hfr has;generalize hue:a.eval x=u at hu;cases hu with
 | @fn _ first cf _ _ h1 h2=>
 refine Aq hi (kV hfr hw) ?_;have aZ:(resolve a.eval c o.type).run E.P w= .ok {target:=.fn (.func k) cf,args:=first++(c.args.toList.map a.eval).toArray} w:=by
  simp only[resolve,hx,hue];have:c.args.map a.eval=(c.args.toList.map a.eval).toArray:=qy (by simp)
  rw[this];rfl
 have hex:(o.semAt (fro none).round a.eval).run E.P w= .ok (.defer {target:=.fn (.func k) cf,args:=first++(c.args.toList.map a.eval).toArray}) w:=by
  show (o.semAt none a.eval).run E.P w=_;rw[Oper.semAt_none];simp only[execOp,hop,Sem.run_bind,aZ,Result.andThen_ok,Sem.run_pure]
 rw[hex];refine hk _ undef (.undef _) ?_ ?_
 ·cases o.dst<;>rfl
 ·rw[put_defers];exact .fn (by simpa using h1.append hus) h2 hmk
theorem EF (x:Nat):∀(l:List Nat),tI x l=true↔x∈l
 | []=>by simp[tI]
 |y::l=>by
  unfold tI;rw[aC,beq_eq];by_cases h:x=y
  ·simp[h]
  ·simp only[h,decide_false,Bool.false_eq_true,if_false,List.mem_cons,false_or];exact EF x l
theorem AE {seen:List Nat} {sa:Array Nat} (hs:sa.toList=seen):∀{ms:List MapEntry} {es:List (SV×SV×Nat)},cy g ms es→cy g (ms.filter fun e=> !sa.contains e.born) (tM seen es)
 |_,_,.nil=>.nil
 |_,_,.cons (m:=m) (x:=x) (ms:=ms) (xs:=xs) hd ht=>by
  have ih:=AE hs ht;have hc:sa.contains m.born=tI x.2.2 seen:=by
   rw[Bool.eq_iff_iff,EF,Array.contains_iff_mem,←Array.mem_toList_iff,hs,hd.2.2]
  unfold tM at ih ⊢;rw[List.filter_cons,List.filter_cons,hc];cases tI x.2.2 seen with
  |true=>exact ih
  |false=>exact .cons hd ih
theorem cy.adU {ms:List MapEntry} {es:List (SV×SV×Nat)} (h:cy g ms es):ms= []↔es= []:=by cases h<;>simp
theorem cy.mem {ms:List MapEntry} {es:List (SV×SV×Nat)} (h:cy g ms es):∀m∈ms,∃x∈es,R1 g m x:=by
 intro m hm;induction h with
 |nil=>simp at hm
 |cons hd ht ih=>
  rcases List.mem_cons.1 hm with rfl|hm
  ·exact ⟨_,by simp,hd⟩
  ·obtain ⟨x,hx,h⟩:=ih hm;exact ⟨x,List.mem_cons_of_mem _ hx,h⟩
theorem yp {seen:List Nat} {sa:Array Nat} (hs:sa.toList=seen) {ms:Array MapEntry} {es:List (SV×SV×Nat)} (h:cy g ms.toList es):cy g (leftOf ms sa).toList (tM seen es):=by
 have:=AE hs h;unfold leftOf;rw[Array.toList_filter];exact this
theorem uR {y:SV} {id:Nat} (h:lP y=some id):y= .ptr id 0:=by
 obtain ⟨q,h1,h2⟩:=af h;obtain ⟨h3,h4⟩:=av h2;cases h4;have:=(beq_iff _ _).1 h3;obtain rfl:=gO h1;rw[this]
theorem P5 {since last c:Nat} {seen:List Nat} {es:List (SV×SV×Nat)} (h:iterM since seen last c es=true):(∀e∈es,e.2.2<since)∧since≤last:=by
 unfold iterM at h;rw[Bool.and_eq_true] at h;refine ⟨fun e he=> ?_,(aX _ _).1 h.2⟩
 exact (aX _ _).1 (List.all_eq_true.1 h.1 e he)
theorem Yt {rec:Job→Out} (cn:∀j,Sound E j (rec j)) {nt:Nat} {all:List Oper} {o:Oper} {l:List Oper} {tm:Tr SV} {mk:List Dm} {h:Hs} {r:List Oc} {x:Operand} {y:SV} {id:Nat} (hw:bG all o tm.get=some true) (hd:bX nt o.dst=true) (hop:o.op= .next x false) (hx:aI tm.get x=some y) (hy:lP y=some id)
  (aZ:mF rec nt all l tm mk h o.dst id= .aQ r):Sound E (.ops nt all (o::l) tm mk h) (.aQ r):=by
 obtain rfl:=uR hy;have over:(∀(g:Gh) (w:World),HR g h.hp.get w→∀b c,g.ρ id=some (b,c)→c=0∧(Instr.next (.pointer (some ⟨b,0,none⟩)) false o.type).run E.P w= .ok (.tuple #[.bool false]) w)→
   Sound E (.ops nt all l (aY tm o.dst (.tup [.bool false])) mk h) (.aQ r)→Sound E (.ops nt all (o::l) tm mk h) (.aQ r):=by
  intro ez ih;refine yP hd (gG.refl _ _) (fun ops i he hi ro m g a w K Q hro hE hfr hr hmk hk=> ?_) ih
  subst he;have hu:=fD hfr hx;generalize hue:a.eval x=u at hu;cases hu with
  | @ptr _ _ b c hρ=>
  obtain ⟨rfl,hn⟩:=ez g w hr b c hρ;refine Aq hi (kV hfr hw) ?_;rw[Oper.semAt_eq _ _ _ (fun c' h=>by rw[hop] at h;cases h)]
  have hex:(execOp a.eval o).run E.P w= .ok (.value (.tuple #[.bool false])) w:=by
   simp only[execOp,hop,hue,Nat.add_zero,Sem.run_bind,hn,Result.andThen_ok,Sem.run_pure]
  rw[hex];exact hk _ _ (.tup (.cons (.bool false) .nil)) rfl (by rw[put_defers];exact hmk)
 unfold mF at aZ;split at aZ
 ·rename_i s q t hid;have ih:=cn (.ops nt all l (aY tm o.dst (.tup [.bool false])) mk h);rw[show rec (.ops nt all l (aY tm o.dst (.tup [.bool false])) mk h)= .aQ r from aZ] at ih;refine over (fun g w hr b c hρ=> ?_) ih
  obtain ⟨_,rfl,bm,sa,h1,h2,h3⟩:=hr.at hid hρ;have h3:bm=none:=h3;subst h3;refine ⟨rfl,?_⟩;simp[Instr.next,getObj,Sem.run,h1]
 ·rename_i m0 since seen last hid;split at aZ;rotate_left
  ·cases aZ
  rename_i es c0 Ke;rw[aC] at aZ;split at aZ;rotate_left
  ·cases aZ
  rename_i hit;obtain ⟨hold,hsl⟩:=P5 hit;unfold Ni at aZ;have model:∀(g:Gh) (w:World),HR g h.hp.get w→∀b c,g.ρ id=some (b,c)→c=0∧∃(bm y:Nat) (sa:Array Nat) (ms:Array MapEntry),g.ρ m0=some (bm,y)∧sa.toList=seen∧w.heap[b]? =some (.mapIter (some bm) since sa last)∧w.heap[bm]? =some (.map ms c0)∧cy g ms.toList es∧∀z∈ms.toList,z.born<since:=by
   intro g w hr b c hρ;obtain ⟨_,rfl,bm,sa,h1,h2,h3⟩:=hr.at hid hρ;obtain ⟨bm',y,rfl,h4⟩:=h3;obtain ⟨_,ms,m1,m2⟩:=hr.at Ke h4;refine ⟨rfl,bm',y,sa,ms,h4,h2,h1,m1,m2,fun z hz=> ?_⟩
   obtain ⟨e,he,h5⟩:=m2.mem z hz;rw[h5.2.2];exact hold e he
  cases hle:tM seen es with
  |nil=>
   rw[hle] at aZ;have ih:=cn (.ops nt all l (aY tm o.dst (.tup [.bool false])) mk h);rw[show rec (.ops nt all l (aY tm o.dst (.tup [.bool false])) mk h)= .aQ r from aZ] at ih;refine over (fun g w hr b c hρ=> ?_) ih
   obtain ⟨rfl,bm,y,sa,ms,q1,q2,q3,q4,q5,q6⟩:=model g w hr b c hρ;refine ⟨rfl,?_⟩;have hl0:=yp q2 q5;rw[hle] at hl0;rcases run_next_at (P:=E.P) w o.type b bm since last sa ms c0 q3 q4 q6 hsl with ⟨_,hn⟩|⟨e,he,_⟩
   ·exact hn
   ·have:(leftOf ms sa).toList= []:=hl0.adU.2 rfl;rw[this] at he;simp at he
  |cons e0 l0=>
   rw[hle] at aZ;have aZ:lM (fun e=>jB rec nt all l tm mk o.dst (.tup [.bool true,e.1,e.2.1]) (h.put id (.mapIter (some m0) since (seen++ [e.2.2]) c0))) (e0::l0)= .aQ r:=aZ
   rw[←hle] at aZ;obtain ⟨hne,q1,q2⟩:=kL aZ;have DH:∀ops:Array Oper,ops.toList=all→ops.toList.drop (ops.size-l.length)=l→Bd h→r≠ []:=by
    intro ops sb QI hbd hr0;subst hr0;obtain ⟨r',h1,h2⟩:=q1 e0 (by rw[hle];simp)
    have hs:=cn (.ops nt all l (aY tm o.dst (.tup [.bool true,e0.1,e0.2.1])) mk (h.put id (.mapIter (some m0) since (seen++ [e0.2.2]) c0)));rw[show rec (.ops nt all l (aY tm o.dst (.tup [.bool true,e0.1,e0.2.1])) mk (h.put id (.mapIter (some m0) since (seen++ [e0.2.2]) c0)))= .aQ r' from h1] at hs;obtain ⟨tS,_⟩:=hs ops sb QI (Jb hbd hid).bd;obtain ⟨z,hz⟩:=List.exists_mem_of_ne_nil _ tS;have:=h2 z hz;simp at this
   refine pQ ((tM seen es).map fun e=>(aY tm o.dst (.tup [.bool true,e.1,e.2.1]),mk,h.put id (.mapIter (some m0) since (seen++ [e.2.2]) c0))) [] (fun ops i he hi hbd ro m g a w K Q hro hE hfr hr hmk hnx hk _=> ?_) (fun hbd=>⟨fun y hy=> ?_,fun o ho=>by simp at ho⟩) (fun o ho=>by simp at ho) DH (fun oc ho=> ?_) (fun y hy=> ?_)
   ·subst he;have hu:=fD hfr hx;generalize hue:a.eval x=u at hu;cases hu with
    | @ptr _ _ b c hρ=>
    obtain ⟨rfl,bm,y,sa,ms,p1,p2,p3,p4,p5,p6⟩:=model g w hr b c hρ;have hl0:=yp p2 p5;rcases run_next_at (P:=E.P) w o.type b bm since last sa ms c0 p3 p4 p6 hsl with ⟨h0,_⟩|⟨e,he,w1,hw1,hn⟩
    ·have:(leftOf ms sa).toList= []:=List.eq_nil_of_length_eq_zero (by simpa using h0)
     rw[this,hle] at hl0;cases hl0
    obtain ⟨x0,hx0,Zk⟩:=hl0.mem e he;refine Aq hi (kV hfr hw) ?_;rw[Oper.semAt_eq _ _ _ (fun c' h=>by rw[hop] at h;cases h)]
    have hex:(execOp a.eval o).run E.P w= .ok (.value (.tuple #[.bool true,e.key,e.val])) (ChangeMaps.setBlock w1 b (.mapIter (some bm) since (sa.push e.born) c0)):=by
     simp only[execOp,hop,hue,Nat.add_zero,Sem.run_bind,hn,Result.andThen_ok,Sem.run_pure]
    rw[hex];have xb:w1.heap=w.heap∧w1.os=w.os∧w1.tape=w.tape∧w1.output=w.output:=by
     rcases hw1 with rfl|rfl
     ·exact ⟨rfl,rfl,rfl,rfl⟩
     ·exact ⟨rfl,rfl,rfl,rfl⟩
    have hb:b<w.heap.size:=(hr.at hid hρ).1;obtain ⟨t1,t2⟩:=HR.write hr (o':=.mapIter (some m0) since (seen++ [x0.2.2]) c0) (w':=ChangeMaps.setBlock w1 b (.mapIter (some bm) since (sa.push e.born) c0)) hid hρ (by simp[ChangeMaps.setBlock,xb.1]) (fun k hk=>by simp[ChangeMaps.setBlock,xb.1,Array.getElem?_setIfInBounds_ne (Ne.symm hk)])
     ⟨rfl,some bm,sa.push e.born,by simp[ChangeMaps.setBlock,xb.1,hb],by rw[Array.toList_push,p2,Zk.2.2],bm,y,rfl,p1⟩ xb.2.1 xb.2.2.1 xb.2.2.2
    rw[←Ym] at t1 t2;refine hk (aY tm o.dst (.tup [.bool true,x0.1,x0.2.1]),mk,h.put id (.mapIter (some m0) since (seen++ [x0.2.2]) c0)) (List.mem_map.2 ⟨x0,hx0,rfl⟩) g (a.put o.dst (.tuple #[.bool true,e.key,e.val])) _ ?_ t1 t2 (by rw[put_defers];exact hmk) hnx (fun _ _=>rfl)
    rw[jz];exact hfr.put hd (.tup (.cons (.bool true) (.cons Zk.1 (.cons Zk.2.1 .nil))))
   ·obtain ⟨e,he,rfl⟩:=List.mem_map.1 hy;exact ⟨Jb hbd hid,gG.refl _ _⟩
   ·obtain ⟨e,he,r',h1,h2⟩:=q2 oc ho;refine .inr ⟨(aY tm o.dst (.tup [.bool true,e.1,e.2.1]),mk,h.put id (.mapIter (some m0) since (seen++ [e.2.2]) c0)),List.mem_map.2 ⟨e,he,rfl⟩,r',?_,h2⟩;have ih:=cn (.ops nt all l (aY tm o.dst (.tup [.bool true,e.1,e.2.1])) mk (h.put id (.mapIter (some m0) since (seen++ [e.2.2]) c0)));rw[show rec (.ops nt all l (aY tm o.dst (.tup [.bool true,e.1,e.2.1])) mk (h.put id (.mapIter (some m0) since (seen++ [e.2.2]) c0)))= .aQ r' from h1] at ih;exact ih
   ·obtain ⟨e,he,rfl⟩:=List.mem_map.1 hy;obtain ⟨r',h1,h2⟩:=q1 e he;refine ⟨r',?_,h2⟩;have ih:=cn (.ops nt all l (aY tm o.dst (.tup [.bool true,e.1,e.2.1])) mk (h.put id (.mapIter (some m0) since (seen++ [e.2.2]) c0)));rw[show rec (.ops nt all l (aY tm o.dst (.tup [.bool true,e.1,e.2.1])) mk (h.put id (.mapIter (some m0) since (seen++ [e.2.2]) c0)))= .aQ r' from h1] at ih;exact ih
 ·cases aZ
theorem Bb {b:Nat}:∀{ms:List MapEntry} {es:List (SV×SV×Nat)},cy g ms es→∀{v:SV},FU b es=some v→∃e,ms.find? (·.born==b)=some e∧VR g (.tuple #[e.key,e.val]) v
 |_,_,.nil,v,h=>by cases h
 |_,_,.cons (m:=m) (x:=x) (ms:=ms) (xs:=es) hd ht,v,h=>by
  unfold FU at h;rw[aC] at h;split at h
  ·rename_i hb;have hb:=(beq_iff _ _).1 hb;cases h;refine ⟨m,by simp[hd.2.2,hb],.tup (.cons hd.1 (.cons hd.2.1 .nil))⟩
  ·rename_i hb;have hb:¬x.2.2=b:=fun e=>hb ((beq_iff _ _).2 e)
   obtain ⟨e,h1,h2⟩:=Bb ht h;refine ⟨e,?_,h2⟩;rw[List.find?_cons];have:(m.born==b)=false:=by rw[hd.2.2];simpa using hb
   rw[this];exact h1
theorem AG:∀{l:List Nat} {b:Nat},PY l=some b→l.getLast? =some b
 | [],b,h=>by cases h
 | [a],b,h=>by cases h;rfl
 |a::c::l,b,h=>by
  have:=AG (l:=c::l) h;rw[List.getLast?_cons_cons];exact this
theorem Wi {nt:Nat} {all:List Oper} {o:Oper} {l:List Oper} {tm:Tr SV} {mk:List Dm} {h:Hs} {r:List Oc} {x:Operand} {y v:SV} {id:Nat} (hw:bG all o tm.get=some true) (hd:bX nt o.dst=true) (hop:o.op= .entry x) (hx:aI tm.get x=some y) (hy:lP y=some id)
  (hv:sV h.hp.get id=some v) (ih:Sound E (.ops nt all l (aY tm o.dst v) mk h) (.aQ r)):Sound E (.ops nt all (o::l) tm mk h) (.aQ r):=by
 obtain rfl:=uR hy;refine yP hd (gG.refl _ _) (fun ops i he hi ro m g a w K Q hro hE hfr hr hmk hk=> ?_) ih
 subst he;have hu:=fD hfr hx;generalize hue:a.eval x=u at hu;cases hu with
 | @ptr _ _ b c hρ=>
 unfold sV at hv;split at hv;rotate_left
 ·cases hv
 rename_i m0 since seen last hid;split at hv;rotate_left
 ·cases hv
 rename_i es c0 Ke;obtain ⟨hc,hv2⟩:=av hv;have hc:=(beq_iff _ _).1 hc;subst hc;obtain ⟨bo,h1,h2⟩:=af hv2;obtain ⟨_,rfl,bm,sa,q1,q2,q3⟩:=hr.at hid hρ;obtain ⟨bm',y',rfl,q4⟩:=q3;obtain ⟨_,ms,m1,m2⟩:=hr.at Ke q4;obtain ⟨e,e1,e2⟩:=Bb m2 h2;have aE:sa.back? =some bo:=by rw[←Array.getLast?_toList,q2];exact AG h1
 refine Aq hi (kV hfr hw) ?_;rw[Oper.semAt_eq _ _ _ (fun c' h=>by rw[hop] at h;cases h)]
 have hf:ms.find? (·.born==bo)=some e:=by rw[←Array.find?_toList];exact e1
 have hn:(Instr.entry (.pointer (some ⟨b,0,none⟩))).run E.P w= .ok (.tuple #[e.key,e.val]) w:=by
  simp only[Instr.entry,getObj,Sem.run_bind,Sem.run,q1,m1,Result.andThen,aE,bne_self_eq_false,Bool.false_eq_true,if_false,hf];rfl
 have hex:(execOp a.eval o).run E.P w= .ok (.value (.tuple #[e.key,e.val])) w:=by
  simp only[execOp,hop,hue,Nat.add_zero,Sem.run_bind,hn,Result.andThen_ok,Sem.run_pure]
 rw[hex];exact hk _ _ e2 rfl (by rw[put_defers];exact hmk)
theorem Yu {rec:Job→Out} (cn:∀j,Sound E j (rec j)) {nt:Nat} {all:List Oper} {o:Oper} {c:Call} {l:List Oper} {tm:Tr SV} {mk:List Dm} {h:Hs} {r:List Oc} {fv:SV} {aa:List SV} {rs:List Rs} (hw:bG all o tm.get=some true) (hd:bX nt o.dst=true) (hop:o.op= .call c) (hc:eW tm.get c.callee=some fv)
  (has:bF tm.get c.args.toList=some aa) (hs:Sound E (.call fv aa h) (.bN rs)) (aZ:lM (fun x:Rs=>sel x.pan (.aQ [⟨.pan x.v,tm,mk,x.h⟩]) (jB rec nt all l tm mk o.dst x.v x.h)) rs= .aQ r):Sound E (.ops nt all (o::l) tm mk h) (.aQ r):=by
 have hs:Bd h→rs≠ []∧(∀r∈rs,Fac h r.h)∧kz E fv aa h.hp.get h.nx rs:=hs;obtain ⟨hne,q1,q2⟩:=kL aZ;have way:∀x∈rs,(x.pan=true∧(⟨.pan x.v,tm,mk,x.h⟩:Oc)∈r)∨(x.pan=false∧∃r',Sound E (.ops nt all l (aY tm o.dst x.v) mk x.h) (.aQ r')∧∀z∈r',z∈r):=by
  intro x hx;obtain ⟨r',h1,h2⟩:=q1 x hx;cases hp:x.pan with
  |true=>
   rw[hp] at h1;cases (show Out.aQ [⟨.pan x.v,tm,mk,x.h⟩]= .aQ r' from h1);exact .inl ⟨rfl,h2 _ (by simp)⟩
  |false=>
   rw[hp] at h1;have ih:=cn (.ops nt all l (aY tm o.dst x.v) mk x.h);rw[show rec (.ops nt all l (aY tm o.dst x.v) mk x.h)= .aQ r' from h1] at ih;exact .inr ⟨rfl,r',ih,h2⟩
 refine pQ ((rs.filter fun x=> !x.pan).map fun x=>(aY tm o.dst x.v,mk,x.h)) ((rs.filter fun x=>x.pan).map fun x=>⟨.pan x.v,tm,mk,x.h⟩) (fun ops i he hi hbd ro m g a w K Q hro hE hfr hr hmk hnx hk hP=> ?_) (fun hbd=>⟨fun y hy=> ?_,fun o ho=> ?_⟩) (fun o ho=> ?_) (fun ops sb QI hbd hr0=> ?_) (fun oc ho=> ?_) (fun y hy=> ?_)
 ·subst he;refine Di (g:=g) (H:=h.hp.get) (nx:=h.nx) hi hw hop hc has hfr (fun _ _=>rfl) (fun u us hu hus=>(hs hbd).2.2 (m-1) g w u us hE hr hnx hu hus) ?_
  rintro e w' ⟨x,hx,u,g',rfl,h1,h2,h3,h4,h5⟩;refine ⟨x.pan,u,rfl,fun hp=> ?_,fun hp=> ?_⟩
  ·refine hk (aY tm o.dst x.v,mk,x.h) (List.mem_map.2 ⟨x,List.mem_filter.2 ⟨hx,by simp[hp]⟩,rfl⟩) g' _ w' ?_ h2 h3 (by rw[put_defers];exact hmk.mono h3.le) h5 h4
   rw[jz];exact (hfr.mono h3.le).put hd h1
  ·exact hP ⟨.pan x.v,tm,mk,x.h⟩ (List.mem_map.2 ⟨x,List.mem_filter.2 ⟨hx,hp⟩,rfl⟩) g' a w' _ (.pan h1) (hfr.mono h3.le) h2 h3 (hmk.mono h3.le) h5 h4
 ·obtain ⟨x,hx,rfl⟩:=List.mem_map.1 hy;exact ⟨(hs hbd).2.1 x (List.mem_filter.1 hx).1,gG.refl _ _⟩
 ·obtain ⟨x,hx,rfl⟩:=List.mem_map.1 ho;exact ⟨(hs hbd).2.1 x (List.mem_filter.1 hx).1,gG.refl _ _⟩
 ·obtain ⟨x,hx,rfl⟩:=List.mem_map.1 ho;obtain ⟨hx1,hx2⟩:=List.mem_filter.1 hx;rcases way x hx1 with ⟨_,h1⟩|⟨h1,_⟩
  ·exact h1
  ·rw[h1] at hx2;simp at hx2
 ·subst hr0;obtain ⟨x,hx⟩:=List.exists_mem_of_ne_nil _ hne;rcases way x hx with ⟨_,h1⟩|⟨_,r',h1,h2⟩
  ·simp at h1
  ·obtain ⟨tS,_⟩:=h1 ops sb QI ((hs hbd).2.1 x hx).bd;obtain ⟨z,hz⟩:=List.exists_mem_of_ne_nil _ tS;have:=h2 z hz;simp at this
 ·obtain ⟨x,hx,r',h1,h2⟩:=q2 oc ho;cases hp:x.pan with
  |true=>
   rw[hp] at h1;cases (show Out.aQ [⟨.pan x.v,tm,mk,x.h⟩]= .aQ r' from h1);obtain rfl:=List.mem_singleton.1 h2;exact .inl (List.mem_map.2 ⟨x,List.mem_filter.2 ⟨hx,hp⟩,rfl⟩)
  |false=>
   rw[hp] at h1;have ih:=cn (.ops nt all l (aY tm o.dst x.v) mk x.h);rw[show rec (.ops nt all l (aY tm o.dst x.v) mk x.h)= .aQ r' from h1] at ih;exact .inr ⟨(aY tm o.dst x.v,mk,x.h),List.mem_map.2 ⟨x,List.mem_filter.2 ⟨hx,by simp[hp]⟩,rfl⟩,r',ih,h2⟩
 ·obtain ⟨x,hx,rfl⟩:=List.mem_map.1 hy;obtain ⟨hx1,hx2⟩:=List.mem_filter.1 hx;rcases way x hx1 with ⟨h1,_⟩|⟨_,h1⟩
  ·rw[h1] at hx2;simp at hx2
  ·exact h1
theorem Xa {rec:Job→Out} {h:Hs} {fo:Option SV} {ao:Option (List SV)} {k kp:SV→Hs→Out} {r:List Oc} (hg:goK rec h fo ao k kp= .aQ r):∃fv aa rs,fo=some fv∧ao=some aa∧rec (.call fv aa h)= .bN rs∧lM (fun x:Rs=>sel x.pan (kp x.v x.h) (k x.v x.h)) rs= .aQ r:=by
 cases fo with
 |none=>cases hg
 |some fv=>
  cases ao with
  |none=>cases hg
  |some aa=>
   obtain ⟨rs,h1,h2⟩:=Ps (show Dd (rec (.call fv aa h)) k kp= .aQ r from hg);exact ⟨fv,aa,rs,rfl,rfl,h1,h2⟩
theorem CE {rec:Job→Out} (cn:∀j,Sound E j (rec j)) (nt:Nat) (all l:List Oper) (tm:Tr SV) (mk:List Dm) (h:Hs):Sound E (.ops nt all l tm mk h) (Nh E rec nt all l tm mk h):=by
 cases l with
 |nil=>
  intro ops he hd hbd;refine ⟨by simp,fun o ho=> ?_,fun ro m g a w Q hro hE hfr hr hmk hnx hk=> ?_⟩
  ·obtain rfl:=List.mem_singleton.1 ho;exact ⟨Fac.refl hbd,gG.refl _ _⟩
  ·simp only[List.length_nil,List.range'_zero];exact hk ⟨.normal,tm,mk,h⟩ (by simp) g a w _ .normal hfr hr (Fr.refl _ _ _) hmk hnx (fun _ _=>rfl)
 |cons o l=>
  show Sound E _ (sel (bX nt o.dst) (wI E rec nt all l tm mk h o (bG all o tm.get)) (.fail "slot"));rw[aC];split;rotate_left
  ·trivial
  rename_i hd;unfold wI;cases hw:bG all o tm.get with
  |none=>trivial
  |some wb=>
   show Sound E _ (sel wb (doK E rec nt all l tm mk h o (dx o.op)) (jB rec nt all l tm mk o.dst (.tup []) h));cases wb with
   |false=>exact Ys hw hd (cn _)
   |true=>
    show Sound E _ (doK E rec nt all l tm mk h o (dx o.op));unfold doK;cases hc:dx o.op with
    |some c=>
     obtain ⟨hop,_⟩:=yA hc;show Sound E _ (goK rec h (eW tm.get c.callee) (bF tm.get c.args.toList) (jB rec nt all l tm mk o.dst) fun v h=>.code (.pan v) tm mk h)
     cases hg:goK rec h (eW tm.get c.callee) (bF tm.get c.args.toList) (jB rec nt all l tm mk o.dst) fun v h=>.code (.pan v) tm mk h with
     |aQ r=>
      obtain ⟨fv,aa,rs,h1,h2,h3,h4⟩:=Xa hg;have hs:=cn (.call fv aa h);rw[h3] at hs;exact Yu cn hw hd hop h1 h2 hs h4
     |_=>trivial
    |none=>
     show Sound E _ (FB E rec nt all l tm mk h o (lX o.op) (kG o.op));unfold FB;cases hdf:lX o.op with
     |some c=>
      obtain ⟨hop,_⟩:=KJ hdf;show Sound E _ (KK rec nt all l tm mk h o (aF (eW tm.get c.callee) (bF tm.get c.args.toList) vm));unfold KK;cases hb:aF (eW tm.get c.callee) (bF tm.get c.args.toList) vm with
      |none=>trivial
      |some d=>
       obtain ⟨fv,aa,h1,h2,h3⟩:=ay hb;show Sound E _ (rec (.ops nt all l (aY tm o.dst .undef) (d::mk) h));have ih:=cn (.ops nt all l (aY tm o.dst .undef) (d::mk) h);cases hr:rec (.ops nt all l (aY tm o.dst .undef) (d::mk) h) with
       |aQ r=>rw[hr] at ih;exact Wj hw hd hop h1 h2 h3 ih
       |_=>trivial
     |none=>
      show Sound E _ (@Option.rec Operand (fun _=>Out) (Ae E rec nt all l tm mk h o (mb o.op)) (fun x=>Ap tm mk h (ai (aI tm.get x) Dh)) (kG o.op))
      cases hpn:kG o.op with
      |some x=>
       have hop:=Jj hpn;show Sound E _ (Ap tm mk h (ai (aI tm.get x) Dh));unfold Ap;cases hb:ai (aI tm.get x) Dh with
       |none=>trivial
       |some v=>
        obtain ⟨y,h1,h2⟩:=af hb;exact Wh hw hop h1 h2
      |none=>
       show Sound E _ (Ae E rec nt all l tm mk h o (mb o.op));unfold Ae;cases hnx:mb o.op with
       |some x=>
        show Sound E _ (P6 rec nt all l tm mk h o.dst x.2 (aI tm.get x.1));unfold P6;cases hb:ai (aI tm.get x.1) lP with
        |none=>trivial
        |some id=>
         obtain ⟨y,h1,h2⟩:=af hb;show Sound E _ (sel x.2 (Bf rec nt all l tm mk h o.dst (sV h.hp.get id)) (mF rec nt all l tm mk h o.dst id));rcases MT hnx with ⟨hop,hx2⟩|⟨hop,hx2⟩
         ·rw[hx2];show Sound E _ (mF rec nt all l tm mk h o.dst id);cases hr:mF rec nt all l tm mk h o.dst id with
          |aQ r=>exact Yt cn hw hd hop h1 h2 hr
          |_=>trivial
         ·rw[hx2];show Sound E _ (Bf rec nt all l tm mk h o.dst (sV h.hp.get id));unfold Bf;cases hv:sV h.hp.get id with
          |none=>trivial
          |some v=>
           show Sound E _ (rec (.ops nt all l (aY tm o.dst v) mk h));have ih:=cn (.ops nt all l (aY tm o.dst v) mk h);cases hr:rec (.ops nt all l (aY tm o.dst v) mk h) with
           |aQ r=>rw[hr] at ih;exact Wi hw hd hop h1 h2 hv ih
           |_=>trivial
       |none=>
        show Sound E _ (OS rec nt all l tm mk h o (opA E o.op tm.get h.hp.get h.nx));unfold OS;cases ho:opA E o.op tm.get h.hp.get h.nx with
        |none=>trivial
        |some r=>exact adK hw hd ho (Bn ho) (cn _)
end
section
variable {E:Env} {g:Gh} {f:Hf} {w:World}
theorem nG.afM {ro:Option Nat} {nt:Nat} {all:Array Oper} {i:Nat} {o:Oper} {T:Tf} {need frp newp:Nat→Prop} {H H2 H':Hf} {v:SV} {D:Nat→Bool} (h:nG E ro nt all i o T need H frp newp v D H') (he:∀x,need x→H x=H2 x):
  nG E ro nt all i o T need H2 frp newp v D H':=
 fun m g f T1 a w K Q hE hfr hr hT hn hf hk=>h m g f T1 a w K Q hE hfr hr hT (fun x hx=>(hn x hx).trans (he x hx).symm) hf hk
theorem drop_cons {ops:Array Oper} {i:Nat} {o:Oper} {l:List Oper} (h:ops.toList.drop i=o::l):ops[i]? =some o∧ops.toList.drop (i+1)=l∧i<ops.size:=by
 have hi:i<ops.toList.length:=by
  by_cases hl:i<ops.toList.length
  ·exact hl
  ·rw[List.drop_of_length_le (by omega)] at h;simp at h
 rw[List.drop_eq_getElem_cons hi] at h;obtain ⟨h1,h2⟩:=List.cons.inj h;have:ops.toList[i]? =some o:=by rw[List.getElem?_eq_getElem hi,h1]
 exact ⟨by simpa using this,h2,by simpa using hi⟩
theorem yW {new x:Nat}:∀{us:List Up},x∈gK new us↔(x∈us.map (·.1)∧x≠new)
 | []=>by simp[gK]
 |u::us=>by
  unfold gK;rw[aC,beq_eq];by_cases h:u.1=new
  ·simp only[h,decide_true,if_true,List.map_cons,List.mem_cons];rw[yW (us:=us)];constructor
   ·rintro ⟨h1,h2⟩;exact ⟨.inr h1,h2⟩
   ·rintro ⟨h1|h1,h2⟩
    ·exact absurd h1 h2
    ·exact ⟨h1,h2⟩
  ·simp only[h,decide_false,Bool.false_eq_true,if_false,List.map_cons,List.mem_cons];rw[yW (us:=us)];constructor
   ·rintro (h1|⟨h1,h2⟩)
    ·subst h1;exact ⟨.inl rfl,h⟩
    ·exact ⟨.inr h1,h2⟩
   ·rintro ⟨h1|h1,h2⟩
    ·exact .inl h1
    ·exact .inr ⟨h1,h2⟩
theorem gZ {n x:Nat}:∀{l acc:List Nat},x∈below n l acc↔(x∈l∧x<n)∨x∈acc
 | [],acc=>by simp[below]
 |y::l,acc=>by
  unfold below;rw[aC,ble_eq];by_cases h:y+1≤n
  ·simp only[h,decide_true,if_true];rw[gZ (l:=l)];simp only[List.mem_cons];constructor
   ·rintro (⟨h1,h2⟩|h1|h1)
    ·exact .inl ⟨.inr h1,h2⟩
    ·subst h1;exact .inl ⟨.inl rfl,h⟩
    ·exact .inr h1
   ·rintro (⟨h1|h1,h2⟩|h1)
    ·exact .inr (.inl h1)
    ·exact .inl ⟨h1,h2⟩
    ·exact .inr (.inr h1)
  ·simp only[show Nat.succ y≤n↔y+1≤n from Iff.rfl,h,decide_false,Bool.false_eq_true,if_false];rw[gZ (l:=l)];simp only[List.mem_cons];constructor
   ·rintro (⟨h1,h2⟩|h1)
    ·exact .inl ⟨.inr h1,h2⟩
    ·exact .inr h1
   ·rintro (⟨h1|h1,h2⟩|h1)
    ·subst h1;omega
    ·exact .inl ⟨h1,h2⟩
    ·exact .inr h1
def Hid (m:Nat) (prev:List Rc) (x:Nat):Prop:=∃p∈prev,dC m p.i=false∧p.lo=x
theorem eB {m:Nat}:∀(prev:List Rc) (hp:Hp) (x:Nat),(Hid m prev x→(fF m prev hp).get x=none)∧(¬Hid m prev x→(fF m prev hp).get x=hp.get x)
 | [],hp,x=>⟨fun ⟨p,hp,_⟩=>by simp at hp,fun _=>rfl⟩
 |q::ps,hp,x=>by
  unfold fF;rw[aC];cases hb:dC m q.i with
  |true=>
   rw[if_pos rfl];obtain ⟨h1,h2⟩:=eB ps hp x;have:Hid m (q::ps) x↔Hid m ps x:=by
    constructor
    ·rintro ⟨p,h,h3,h4⟩;rcases List.mem_cons.1 h with rfl|h
     ·rw[hb] at h3;simp at h3
     ·exact ⟨p,h,h3,h4⟩
    ·rintro ⟨p,h,h3,h4⟩;exact ⟨p,by simp[h],h3,h4⟩
   exact ⟨fun h=>h1 (this.1 h),fun h=>h2 (fun h'=>h (this.2 h'))⟩
  |false=>
   rw[if_neg (by simp)]
   obtain ⟨h1,h2⟩:=eB ps (hp.set q.lo none) x;refine ⟨fun ⟨p,h,h3,h4⟩=> ?_,fun h=> ?_⟩
   ·by_cases hh:Hid m ps x
    ·exact h1 hh
    ·rw[h2 hh,Tr.bR];rcases List.mem_cons.1 h with rfl|h
     ·rw[if_pos h4.symm]
     ·exact absurd ⟨p,h,h3,h4⟩ hh
   ·rw[h2 (fun ⟨p,h',h3,h4⟩=>h ⟨p,by simp[h'],h3,h4⟩),Tr.bR,if_neg (fun e=>h ⟨q,by simp,hb,e.symm⟩)]
theorem iG {m:Nat} {old:Hp}:∀(prev:List Rc) (hp:Hp) (x:Nat),(Hid m prev x→(eh m old prev hp).get x=old.get x)∧(¬Hid m prev x→(eh m old prev hp).get x=hp.get x)
 | [],hp,x=>⟨fun ⟨p,hp,_⟩=>by simp at hp,fun _=>rfl⟩
 |q::ps,hp,x=>by
  unfold eh;rw[aC];cases hb:dC m q.i with
  |true=>
   rw[if_pos rfl];obtain ⟨h1,h2⟩:=iG (old:=old) ps hp x;have:Hid m (q::ps) x↔Hid m ps x:=by
    constructor
    ·rintro ⟨p,h,h3,h4⟩;rcases List.mem_cons.1 h with rfl|h
     ·rw[hb] at h3;simp at h3
     ·exact ⟨p,h,h3,h4⟩
    ·rintro ⟨p,h,h3,h4⟩;exact ⟨p,by simp[h],h3,h4⟩
   exact ⟨fun h=>h1 (this.1 h),fun h=>h2 (fun h'=>h (this.2 h'))⟩
  |false=>
   rw[if_neg (by simp)]
   obtain ⟨h1,h2⟩:=iG (old:=old) ps (hp.set q.lo (old.get q.lo)) x;refine ⟨fun ⟨p,h,h3,h4⟩=> ?_,fun h=> ?_⟩
   ·by_cases hh:Hid m ps x
    ·exact h1 hh
    ·rw[h2 hh,Tr.bR];rcases List.mem_cons.1 h with rfl|h
     ·rw[if_pos h4.symm,h4]
     ·exact absurd ⟨p,h,h3,h4⟩ hh
   ·rw[h2 (fun ⟨p,h',h3,h4⟩=>h ⟨p,by simp[h'],h3,h4⟩),Tr.bR,if_neg (fun e=>h ⟨q,by simp,hb,e.symm⟩)]
theorem vY {nt W:Nat} {all:List Oper} {base i M:Nat} {prev:List Rc} {o:Oper} {l:List Oper} {tm tm1:Tr SV} {h h1:Hs} {r:Rc} {out:Out} (m:Nat)
  (hc:∀(ops:Array Oper),ops.toList=all→W=ops.size→ops[i]? =some o→i<W→base+W≤h.nx→Bd h→(∀x,h.hp.get x≠none→¬(base+i≤x∧x<base+W))→(∀x,dC m x=true→x∈anc ops (i+1) i)→(∀p∈prev,p.call=false→p.hi=p.lo+1∧p.lo<base+W)→
   ∀ps:List St,ps.map (·.rc)=prev→∃s:St,s.rc=r∧Cnd E nt W ops base i ps o tm.get h.hp.get h.nx s h1.nx∧tm1.get=mM tm.get s.u.dst s.u.v∧h1.hp.get=gg s.u.D s.u.H h.hp.get∧
    (∀x∈h.lg,x∈h1.lg)∧(∀x,x<h.nx→¬(base+i≤x∧x<base+W)→x∉h1.lg→h1.hp.get x=h.hp.get x)∧(∀x,x<h.nx→¬(base+i≤x∧x<base+W)→h.hp.get x=none→h1.hp.get x=none)∧Bd h1∧
    (∀x,h1.hp.get x≠none→¬(base+(i+1)≤x∧x<base+W))∧(r.call=false→r.hi=r.lo+1∧r.lo<base+W))
  (hm:m=Nat.mod (fh W M (dt o)) (Nat.pow 2 W))
  (ih:Sound E (.draw nt W all base (i+1) (Nat.lor M (Nat.shiftLeft m (Nat.mul i W))) (r::prev) l tm1 h1) out):Sound E (.draw nt W all base i M prev (o::l) tm h) out:=by
 cases out with
 |st tm' h'=>
  intro ops he hW hd hb hbd aZ hinv hpr ps hps;obtain ⟨hi,hd',hlt⟩:=drop_cons hd;obtain ⟨m1,m2⟩:=qX hi hinv;obtain ⟨s,hr,jI,htm,hh,f1,f2,f3,f4,f5,f6⟩:=hc ops he hW hi (by omega) hb hbd aZ (fun x hx=>(m1 x (by rw[←hm];exact (uo _ _).1 hx)).2) hpr ps hps
  obtain ⟨k1,out,k2⟩:=ih ops he hW hd' (Nat.le_trans hb jI.oh) f4 f5 (by rw[hm];exact m2) (fun p hp=>by
   rcases List.mem_cons.1 hp with rfl|hp
   ·exact f6
   ·exact hpr p hp) (s::ps) (by simp[hr,hps])
  refine ⟨⟨Nat.le_trans jI.oh k1.nx,k1.bd,fun x hx hn hl=> ?_,fun x hx=>k1.sub x (f1 x hx),fun x hx hn hl=> ?_⟩,out,?_⟩
  ·have hx1:x<h1.nx:=Nat.lt_of_lt_of_le hx jI.oh;rw[k1.lg x hx1 (fun hc=>hn ⟨by omega,hc.2⟩) hl]
   exact f2 x hx hn (fun hc=>hl (k1.sub x hc))
  ·have hx1:x<h1.nx:=Nat.lt_of_lt_of_le hx jI.oh;exact k1.dead x hx1 (fun hc=>hn ⟨by omega,hc.2⟩) (f3 x hx hn hl)
  ·rw[htm,hh] at k2;exact .cons jI k2
 |aQ r=>
  intro ops he hW hd hb hbd aZ hinv hpr ps hps;obtain ⟨hi,hd',hlt⟩:=drop_cons hd;obtain ⟨m1,m2⟩:=qX hi hinv;obtain ⟨s,hr,jI,htm,hh,f1,f2,f3,f4,f5,f6⟩:=hc ops he hW hi (by omega) hb hbd aZ (fun x hx=>(m1 x (by rw[←hm];exact (uo _ _).1 hx)).2) hpr ps hps
  obtain ⟨v,tm',dm,h',hr',k1,l0,o',out,F1,nx1,e1,k2,k3⟩:=ih ops he hW hd' (Nat.le_trans hb jI.oh) f4 f5 (by rw[hm];exact m2) (fun p hp=>by
   rcases List.mem_cons.1 hp with rfl|hp
   ·exact f6
   ·exact hpr p hp) (s::ps) (by simp[hr,hps])
  refine ⟨v,tm',dm,h',hr',⟨Nat.le_trans jI.oh k1.nx,k1.bd,fun x hx hn hl=> ?_,fun x hx=>k1.sub x (f1 x hx),fun x hx hn hl=> ?_⟩,o::l0,o',out,F1,nx1,by rw[e1];rfl,?_,?_⟩
  ·have hx1:x<h1.nx:=Nat.lt_of_lt_of_le hx jI.oh;rw[k1.lg x hx1 (fun hc=>hn ⟨by omega,hc.2⟩) hl]
   exact f2 x hx hn (fun hc=>hl (k1.sub x hc))
  ·have hx1:x<h1.nx:=Nat.lt_of_lt_of_le hx jI.oh;exact k1.dead x hx1 (fun hc=>hn ⟨by omega,hc.2⟩) (f3 x hx hn hl)
  ·rw[htm,hh] at k2;exact .cons jI k2
  ·have e:i+(o::l0).length=i+1+l0.length:=by simp;omega
   rw[e];exact k3
 |_=>trivial
theorem J0 {m:Nat} {r:Rc} {prev:List Rc} (h:cT m r prev=true) {ps:List St} (hps:ps.map (·.rc)=prev):∀p∈ps,dC m p.rc.i=true∨BO p.rc r:=by
 intro p hp;have iS:p.rc∈prev:=by rw[←hps];exact List.mem_map.2 ⟨p,hp,rfl⟩
 rcases lr h p.rc iS with h1|h1
 ·exact .inl h1
 ·exact .inr (yu h1)
theorem ZO {nt W:Nat} {all:List Oper} {base i M:Nat} {prev:List Rc} {o:Oper} {l:List Oper} {tm:Tr SV} {h:Hs} {out:Out} {v:SV} {us:List Up} (m:Nat) (hm:m=Nat.mod (fh W M (dt o)) (Nat.pow 2 W)) (hlt:fX i (dt o)=true)
  (hw:bG all o tm.get=some true) (hd:bX nt o.dst=true) (ho:opA E o.op tm.get h.hp.get (base+i)=some (v,us)) (hnd:∀c,o.op≠ .defer c) (DJ:cT m ⟨i,false,eF o.op tm.get,gK (base+i) us,base+i,base+i+1⟩ prev=true)
  (ih:Sound E (.draw nt W all base (i+1) (Nat.lor M (Nat.shiftLeft m (Nat.mul i W))) (⟨i,false,eF o.op tm.get,gK (base+i) us,base+i,base+i+1⟩::prev) l (aY tm o.dst v) (h.ups us)) out):
  Sound E (.draw nt W all base i M prev (o::l) tm h) out:=by
 refine vY m (fun ops he hW hi hiW hb hbd aZ Kk hpr ps hps=> ?_) hm ih
 have hnx:(h.ups us).nx=h.nx:=pH _ _;have hg:(h.ups us).hp.get=gL h.hp.get us:=wJ _ _;obtain ⟨l1,l2⟩:=Hq us h;have hk:=Jt ho;have j9:h.hp.get (base+i)=none:=by
  cases hx:h.hp.get (base+i) with
  |none=>rfl
  |some o'=>exact absurd ⟨Nat.le_refl _,by omega⟩ (aZ (base+i) (by rw[hx];simp))
 have vB:∀x,x∈us.map (·.1)→x=base+i∨(h.hp.get x≠none∧x<h.nx):=by
  intro x hx;obtain ⟨u,hu,rfl⟩:=List.mem_map.1 hx;rcases hk u hu with h1|h1
  ·exact .inl h1
  ·refine .inr ⟨h1,?_⟩;by_cases hl:h.nx≤u.1
   ·exact absurd (hbd _ hl) h1
   ·omega
 have DI:base+i<h.nx:=by omega
 refine ⟨⟨⟨o.dst,v,oN us (base+i),gL h.hp.get us⟩,⟨i,false,eF o.op tm.get,gK (base+i) us,base+i,base+i+1⟩,m,fun x=>x∈eF o.op tm.get,fun x=>x=base+i,fun x=>x=base+i∧us≠ []⟩,rfl,?_,jz _ _ _,?_,l1,fun x hx hn hl=> ?_,fun x hx hn hl=> ?_,fun x hx=> ?_,fun x hx=> ?_,fun _=>⟨rfl,by show base+i<base+W;omega⟩⟩
 ·refine ⟨rfl,fun ro=> ?_,n4 hlt,Kk,rfl,J0 DJ hps,fun x=> ?_,fun _=>⟨rfl,rfl,by rw[hnx],fun x hx=>hx,fun x hx=>hx,fun x hx=>hx.1⟩,(fun hc=>by cases hc),by rw[hnx];exact Nat.le_refl _,aZ,hb⟩
  ·subst he;exact yh hi hw hd ho j9 (fun x=>by simp[oN]) hnd
  ·show oN us (base+i) x=true↔(x∈gK (base+i) us∨(base+i≤x∧x<base+i+1));rw[yW];simp only[oN,decide_eq_true_eq];constructor
   ·rintro (h1|h1)
    ·by_cases e:x=base+i
     ·exact .inr ⟨by omega,by omega⟩
     ·exact .inl ⟨h1,e⟩
    ·exact .inr ⟨by omega,by omega⟩
   ·rintro (⟨h1,_⟩|⟨h1,h2⟩)
    ·exact .inl h1
    ·exact .inr (by omega)
 ·rw[hg];funext x;show gL h.hp.get us x=gg (oN us (base+i)) (gL h.hp.get us) h.hp.get x;unfold gg oN;by_cases h1:x∈us.map (·.1)
  ·rw[if_pos (by simp only[decide_eq_true_eq];exact .inl h1)]
  ·rw[iF h1];split<;>rfl
 ·rw[hg,iF (fun hc=>by obtain ⟨u,hu,rfl⟩:=List.mem_map.1 hc;exact hl (l2 u hu))]
 ·rw[hg,iF (fun hc=>by
   rcases vB x hc with h1|h1
   ·exact hn ⟨by omega,by omega⟩
   ·exact h1.1 hl)]
  exact hl
 ·rw[hnx] at hx;rw[hg,iF (fun hc=>by rcases vB x hc with h1|h1<;>omega)]
  exact hbd x hx
 ·intro hcc;by_cases hc:x∈us.map (·.1)
  ·rcases vB x hc with h1|h1
   ·omega
   ·exact aZ x h1.1 ⟨by omega,hcc.2⟩
  ·rw[hg,iF hc] at hx;exact aZ x hx ⟨by omega,hcc.2⟩
theorem Xl {nt W:Nat} {all:List Oper} {base i M:Nat} {prev:List Rc} {o:Oper} {l:List Oper} {tm:Tr SV} {h:Hs} {out:Out} (m:Nat) (hm:m=Nat.mod (fh W M (dt o)) (Nat.pow 2 W)) (hlt:fX i (dt o)=true)
  (hw:bG all o tm.get=some false) (hd:bX nt o.dst=true) (DJ:cT m ⟨i,false,[],[],base+i,base+i+1⟩ prev=true)
  (ih:Sound E (.draw nt W all base (i+1) (Nat.lor M (Nat.shiftLeft m (Nat.mul i W))) (⟨i,false,[],[],base+i,base+i+1⟩::prev) l (aY tm o.dst (.tup [])) h) out):
  Sound E (.draw nt W all base i M prev (o::l) tm h) out:=by
 refine vY m (fun ops he hW hi hiW hb hbd aZ Kk hpr ps hps=> ?_) hm ih
 have j9:h.hp.get (base+i)=none:=by
  cases hx:h.hp.get (base+i) with
  |none=>rfl
  |some o'=>exact absurd ⟨Nat.le_refl _,by omega⟩ (aZ (base+i) (by rw[hx];simp))
 refine ⟨⟨⟨o.dst,.tup [],fun x=>decide (x=base+i),h.hp.get⟩,⟨i,false,[],[],base+i,base+i+1⟩,m,fun _=>False,fun x=>x=base+i,fun _=>False⟩,rfl,?_,jz _ _ _,?_,fun x hx=>hx,fun x _ _ _=>rfl,fun x _ _ hl=>hl,hbd,fun x hx hcc=>aZ x hx ⟨by omega,hcc.2⟩,fun _=>⟨rfl,by show base+i<base+W;omega⟩⟩
 ·refine ⟨rfl,fun ro=> ?_,n4 hlt,Kk,rfl,J0 DJ hps,fun x=> ?_,fun _=>⟨rfl,rfl,rfl,fun x hx=>hx.elim,fun x hx=>hx,fun x hx=>hx.elim⟩,(fun hc=>by cases hc),Nat.le_refl _,aZ,hb⟩
  ·subst he;exact step_skip hi hw hd j9 (fun x=>by simp)
  ·show decide (x=base+i)=true↔(x∈([]:List Nat)∨(base+i≤x∧x<base+i+1));simp;omega
 ·funext x;unfold gg;split<;>rfl
theorem Xm {nt W:Nat} {all:List Oper} {base i M:Nat} {prev:List Rc} {o:Oper} {c:Call} {l:List Oper} {tm:Tr SV} {h h2:Hs} {out:Out} {fv v:SV} {aa:List SV} (m:Nat) (hm:m=Nat.mod (fh W M (dt o)) (Nat.pow 2 W)) (hlt:fX i (dt o)=true)
  (hw:bG all o tm.get=some true) (hd:bX nt o.dst=true) (hop:o.op= .call c) (hc:eW tm.get c.callee=some fv) (has:bF tm.get c.args.toList=some aa) (hs:Sound E (.call fv aa ⟨fF m prev h.hp,h.nx,[]⟩) (.res v h2))
  (DJ:cT m ⟨i,true,[],below h.nx h2.lg [],h.nx,h2.nx⟩ prev=true)
  (ih:Sound E (.draw nt W all base (i+1) (Nat.lor M (Nat.shiftLeft m (Nat.mul i W))) (⟨i,true,[],below h.nx h2.lg [],h.nx,h2.nx⟩::prev) l (aY tm o.dst v) ⟨eh m h.hp prev h2.hp,h2.nx,below h.nx h2.lg h.lg⟩) out):
  Sound E (.draw nt W all base i M prev (o::l) tm h) out:=by
 refine vY m (fun ops he hW hi hiW hb hbd aZ Kk hpr ps hps=> ?_) hm ih
 have hbm:Bd ⟨fF m prev h.hp,h.nx,[]⟩:=by
  intro x hx;show (fF m prev h.hp).get x=none;by_cases hh:Hid m prev x
  ·exact (eB prev h.hp x).1 hh
  ·rw[(eB prev h.hp x).2 hh];exact hbd x hx
 obtain ⟨_,fac,sem⟩:=(show Bd ⟨fF m prev h.hp,h.nx,[]⟩→_ from hs) hbm;have fac:Fac ⟨fF m prev h.hp,h.nx,[]⟩ h2:=fac ⟨false,v,h2⟩ (by simp)
 have sem:=kz.one sem;have fnx:h.nx≤h2.nx:=fac.nx;have QK:∀x,Hid m prev x→x<base+W∧x∉h2.lg:=by
  rintro x ⟨p,hp,hb1,rfl⟩;rcases lr DJ p hp with h1|h1
  ·rw[hb1] at h1;simp at h1
  ·have hI:=yu h1;obtain ⟨c1,c2⟩:=hI.c2 rfl;obtain ⟨e1,e2⟩:=hpr p hp c1;refine ⟨e2,fun hl=> ?_⟩
   have:=hI.a2 p.lo (gZ.2 (.inl ⟨hl,by omega⟩))
   omega
 have A3:∀x,(eh m h.hp prev h2.hp).get x=if x∈h2.lg∧x<h.nx∨h.nx≤x∧x<h2.nx then h2.hp.get x else h.hp.get x:=by
  intro x;by_cases hh:Hid m prev x
  ·obtain ⟨q1,q2⟩:=QK x hh;rw[(iG prev h2.hp x).1 hh,if_neg (by rintro (⟨h1,_⟩|⟨h1,_⟩);exact q2 h1;omega)]
  ·rw[(iG prev h2.hp x).2 hh];split
   ·rfl
   ·rename_i hn;by_cases hx:x<h.nx
    ·have:=fac.lg x hx (fun hl=>hn (.inl ⟨hl,hx⟩))
     rw[this];exact (eB prev h.hp x).2 hh
    ·rw[fac.bd x (by
      by_cases hx2:x<h2.nx
      ·exact absurd (.inr ⟨by omega,hx2⟩) hn
      ·show h2.nx≤x;omega),hbd x (by omega)]
 have acG:∀x,x<h.nx→h.hp.get x=none→h2.hp.get x=none:=by
  intro x hx hn;refine fac.dead x hx ?_;show (fF m prev h.hp).get x=none;by_cases hh:Hid m prev x
  ·exact (eB prev h.hp x).1 hh
  ·rw[(eB prev h.hp x).2 hh];exact hn
 refine ⟨⟨⟨o.dst,v,fun x=>decide (x∈h2.lg∧x<h.nx∨h.nx≤x∧x<h2.nx),h2.hp.get⟩,⟨i,true,[],below h.nx h2.lg [],h.nx,h2.nx⟩,m,fun x=>(fF m prev h.hp).get x≠none,fun x=>h.nx≤x,fun x=>h.nx≤x∧x<h2.nx⟩,rfl,?_,jz _ _ _,?_,fun x hx=>gZ.2 (.inr hx),fun x hx hn hl=> ?_,fun x hx hn hl=> ?_,fun x hx=> ?_,fun x hx=> ?_,fun hc=>by cases hc⟩
 ·refine ⟨rfl,fun ro=> ?_,n4 hlt,Kk,rfl,J0 DJ hps,fun x=> ?_,(fun hc=>by cases hc),fun _=>⟨rfl,rfl,fun x hx=>⟨?_,fun p hp hbp hxe=> ?_⟩,fun x hx=>hx,fun x hx=>hx⟩,fnx,aZ,hb⟩
  ·subst he;refine nG.afM (Tj (D:=fun x=>decide (x∈h2.lg∧x<h.nx∨h.nx≤x∧x<h2.nx)) hi hw hd hop hc has sem (fun x hx hl=> ?_) (fun x hx hl=> ?_)) (fun x hx=> ?_)
   ·have hn:¬(x∈h2.lg∧x<h.nx∨h.nx≤x∧x<h2.nx):=by simpa using hx
    exact fac.lg x hl (fun hc=>hn (.inl ⟨hc,hl⟩))
   ·have hn:¬(x∈h2.lg∧x<h.nx∨h.nx≤x∧x<h2.nx):=by simpa using hx
    refine fac.bd x ?_;by_cases hx2:x<h2.nx
    ·exact absurd (.inr ⟨hl,hx2⟩) hn
    ·omega
   ·by_cases hh:Hid m prev x
    ·exact absurd ((eB prev h.hp x).1 hh) hx
    ·exact (eB prev h.hp x).2 hh
  ·show decide (x∈h2.lg∧x<h.nx∨h.nx≤x∧x<h2.nx)=true↔(x∈below h.nx h2.lg []∨(h.nx≤x∧x<h2.nx));rw[gZ];simp
  ·by_cases hh:Hid m prev x
   ·exact absurd ((eB prev h.hp x).1 hh) hx
   ·rw[←(eB prev h.hp x).2 hh];exact hx
  ·have hh:Hid m prev x:=⟨p.rc,by rw[←hps];exact List.mem_map.2 ⟨p,hp,rfl⟩,hbp,hxe.symm⟩
   exact hx ((eB prev h.hp x).1 hh)
 ·funext x;show (eh m h.hp prev h2.hp).get x=gg _ h2.hp.get h.hp.get x;rw[A3];unfold gg;simp only[decide_eq_true_eq]
 ·show (eh m h.hp prev h2.hp).get x=_;rw[A3,if_neg (by
   rintro (⟨h1,h3⟩|⟨h1,_⟩)
   ·exact hl (gZ.2 (.inl ⟨h1,h3⟩))
   ·omega)]
 ·show (eh m h.hp prev h2.hp).get x=_;rw[A3];split
  ·exact acG x hx hl
  ·exact hl
 ·have hx:h2.nx≤x:=hx;show (eh m h.hp prev h2.hp).get x=_;rw[A3,if_neg (by omega)]
  exact hbd x (by omega)
 ·intro hcc;have hx:(eh m h.hp prev h2.hp).get x≠none:=hx;rw[A3] at hx;have QE:x<h.nx:=by omega
  have hn0:h.hp.get x=none:=by
   cases hq:h.hp.get x with
   |none=>rfl
   |some o'=>exact absurd ⟨by omega,hcc.2⟩ (aZ x (by rw[hq];simp))
  split at hx
  ·exact hx (acG x QE hn0)
  ·exact hx hn0
theorem vw {m:Nat}:∀{i:Nat},mQ m i=true→∀j,j<i→dC m j=true
 |0,_,j,hj=>by omega
 |i+1,h,j,hj=>by
  have h:(dC m i&&mQ m i)=true:=h;rw[Bool.and_eq_true] at h;by_cases e:j=i
  ·rw[e];exact h.1
  ·exact vw h.2 j (by omega)
theorem ZP {nt W:Nat} {all:List Oper} {base i M:Nat} {prev:List Rc} {o:Oper} {c:Call} {l:List Oper} {tm:Tr SV} {h h2:Hs} {fv v:SV} {aa:List SV} (m:Nat) (hm:m=Nat.mod (fh W M (dt o)) (Nat.pow 2 W)) (hlt:fX i (dt o)=true)
  (hw:bG all o tm.get=some true) (hop:o.op= .call c) (hc:eW tm.get c.callee=some fv) (has:bF tm.get c.args.toList=some aa) (hs:Sound E (.call fv aa ⟨fF m prev h.hp,h.nx,[]⟩) (.pan v h2)) (hl:FE l=true) (hma:mQ m i=true) (hab:na m prev=true):
  Sound E (.draw nt W all base i M prev (o::l) tm h) (.aQ [⟨.pan v,tm,[],⟨h2.hp,h2.nx,below h.nx h2.lg h.lg⟩⟩]):=by
 intro ops he hW hd hb hbd aZ hinv hpr ps hps;obtain ⟨hi,hd',QE⟩:=drop_cons hd;obtain ⟨m1,m2⟩:=qX hi hinv;have mX:l= []:=by cases l with
  |nil=>rfl
  |cons _ _=>cases hl
 subst mX;have QF:i+1=ops.size:=by
  have:=congrArg List.length hd;simp at this;omega
 have hH:(fF m prev h.hp).get=h.hp.get:=by
  funext x;refine (eB prev h.hp x).2 (fun ⟨p,hp,hp2,_⟩=> ?_)
  have:∀(l:List Rc),na m l=true→∀p∈l,dC m p.i=true:=by
   intro l;induction l with
   |nil=>intro _ p hp;simp at hp
   |cons q l ih=>
    intro hq p hp;have hq:(dC m q.i&&na m l)=true:=hq;rw[Bool.and_eq_true] at hq;rcases List.mem_cons.1 hp with rfl|hp
    ·exact hq.1
    ·exact ih hq.2 p hp
  rw[this prev hab p hp] at hp2;cases hp2
 have hbm:Bd ⟨fF m prev h.hp,h.nx,[]⟩:=fun x hx=>by
  show (fF m prev h.hp).get x=none;rw[hH];exact hbd x hx
 obtain ⟨_,fac,sem⟩:=(show Bd ⟨fF m prev h.hp,h.nx,[]⟩→_ from hs) hbm;have fac:Fac ⟨fF m prev h.hp,h.nx,[]⟩ h2:=fac ⟨true,v,h2⟩ (by simp)
 have sem:=kz.one sem;have sem:jY E true fv aa (fF m prev h.hp).get h.nx v h2.hp.get h2.nx:=sem;rw[hH] at sem;have glg:∀x,x<h.nx→x∉h2.lg→h2.hp.get x=h.hp.get x:=fun x hx hn=>by rw[←hH];exact fac.lg x hx hn
 have ahX:∀x,x<h.nx→h.hp.get x=none→h2.hp.get x=none:=fun x hx hn=>fac.dead x hx (by show (fF m prev h.hp).get x=none;rw[hH];exact hn)
 refine ⟨v,tm,[],⟨h2.hp,h2.nx,below h.nx h2.lg h.lg⟩,rfl,⟨fac.nx,fac.bd,fun x hx hn hl=>glg x hx (fun hc=>hl (gZ.2 (.inl ⟨hc,hx⟩))),fun x hx=>gZ.2 (.inr hx),fun x hx _ hn=>ahX x hx hn⟩,[],o,ps,h.hp.get,h.nx,rfl,.nil,?_⟩
 refine ⟨QF,hi,n4 hlt,fun j hj=>qA _ _ _ (by omega) j (m1 j (by rw[←hm];exact (uo _ _).1 (vw hma j hj))).2,fac.nx,fun ro mm g a w Q K hE hfr hr hnx hk=> ?_⟩
 subst he;refine Di (g:=g) (H:=h.hp.get) (nx:=h.nx) hi hw hop hc has hfr (fun _ _=>rfl) (fun u us hu hus=>sem (mm-1) g w u us hE hr hnx hu hus) ?_
 rintro e w' ⟨r,rfl,g',h1,h3,h4,h5,h6⟩;exact ⟨true,r,rfl,(fun hc=>by cases hc),fun _=>hk r w' g' h1 h3 h4 h5 h6⟩
theorem Zr {rec:Job→Out} {h:Hs} {fo:Option SV} {ao:Option (List SV)} {k kp:SV→Hs→Out} {Q:Out→Prop} (hf:∀s,Q (.fail s)) (ht:∀a b c,Q (.gM a b c))
  (hr:∀fv aa v h2,fo=some fv→ao=some aa→rec (.call fv aa h)= .res v h2→Q (k v h2)) (hp:∀fv aa v h2,fo=some fv→ao=some aa→rec (.call fv aa h)= .pan v h2→Q (kp v h2)):Q (QL rec h fo ao k kp):=by
 unfold QL;cases fo with
 |none=>exact hf _
 |some fv=>
  cases ao with
  |none=>exact hf _
  |some aa=>
   show Q (Dl (rec (.call fv aa h)) k kp);cases hrc:rec (.call fv aa h) with
   |bN l=>
    cases l with
    |nil=>exact hf _
    |cons r l=>
     cases l with
     |nil=>
      obtain ⟨pan,v,h2⟩:=r;cases pan with
      |false=>exact hr fv aa v h2 rfl rfl hrc
      |true=>exact hp fv aa v h2 rfl rfl hrc
     |cons _ _=>exact hf _
   |fail s=>exact hf _
   |gM a b c=>exact ht _ _ _
   |_=>exact hf _
theorem zR {rec:Job→Out} (cn:∀j,Sound E j (rec j)) (nt W:Nat) (all:List Oper) (base i M:Nat) (prev:List Rc) (l:List Oper) (tm:Tr SV) (h:Hs):
  Sound E (.draw nt W all base i M prev l tm h) (HD E rec nt W all base i M prev l tm h):=by
 cases l with
 |nil=>
  intro ops he hW hd hb hbd aZ hinv hpr ps hps;exact ⟨⟨Nat.le_refl _,hbd,fun _ _ _ _=>rfl,fun _ h=>h,fun _ _ _ h=>h⟩,ps,.nil⟩
 |cons o l=>
  show Sound E _ (sel (bX nt o.dst && fX i (dt o)) (force (Nat.mod (fh W M (dt o)) (Nat.pow 2 W)) fun m=>Ft E rec nt W all base i M m prev l tm h o (bG all o tm.get)) (.fail "slot"))
  rw[aC];split;rotate_left
  ·trivial
  rename_i hd;rw[Bool.and_eq_true] at hd;obtain ⟨hd,hlt⟩:=hd;rw[force_eq];generalize hm:Nat.mod (fh W M (dt o)) (Nat.pow 2 W)=m;unfold Ft;have next:∀(r:Rc) (v:SV) (h1:Hs) (out:Out),jC rec nt W all base i M m prev l tm o.dst r v h1=out→(∃s,out= .fail s)∨(cT m r prev=true∧out=rec (.draw nt W all base (i+1) (Nat.lor M (Nat.shiftLeft m (Nat.mul i W))) (r::prev) l (aY tm o.dst v) h1)):=by
   intro r v h1 out ho;unfold jC at ho;rw[aC,force_eq] at ho;split at ho
   ·rename_i hi;exact .inr ⟨hi,ho.symm⟩
   ·exact .inl ⟨_,ho.symm⟩
  cases hw:bG all o tm.get with
  |none=>trivial
  |some wb=>
   show Sound E _ (sel wb (doD E rec nt W all base i M m prev l tm h o (dx o.op)) (jC rec nt W all base i M m prev l tm o.dst ⟨i,false,[],[],Nat.add base i,Nat.add (Nat.add base i) 1⟩ (.tup []) h));cases wb with
   |false=>
    show Sound E _ (jC rec nt W all base i M m prev l tm o.dst ⟨i,false,[],[],Nat.add base i,Nat.add (Nat.add base i) 1⟩ (.tup []) h);rcases next ⟨i,false,[],[],Nat.add base i,Nat.add (Nat.add base i) 1⟩ (.tup []) h _ rfl with ⟨s,hs⟩|⟨hi,hs⟩
    ·rw[hs];trivial
    ·rw[hs];exact Xl m hm.symm hlt hw hd hi (cn _)
   |true=>
    show Sound E _ (doD E rec nt W all base i M m prev l tm h o (dx o.op));unfold doD;cases hc:dx o.op with
    |none=>
     show Sound E _ (OT rec nt W all base i M m prev l tm h o (opA E o.op tm.get h.hp.get (Nat.add base i)));unfold OT;cases ho:opA E o.op tm.get h.hp.get (Nat.add base i) with
     |none=>trivial
     |some r=>
      show Sound E _ (jC rec nt W all base i M m prev l tm o.dst ⟨i,false,eF o.op tm.get,gK (Nat.add base i) r.2,Nat.add base i,Nat.add (Nat.add base i) 1⟩ r.1 (h.ups r.2));rcases next ⟨i,false,eF o.op tm.get,gK (Nat.add base i) r.2,Nat.add base i,Nat.add (Nat.add base i) 1⟩ r.1 (h.ups r.2) _ rfl with ⟨s,hs⟩|⟨hi,hs⟩
      ·rw[hs];trivial
      ·rw[hs];exact ZO m hm.symm hlt hw hd ho (Bn ho) hi (cn _)
    |some c=>
     obtain ⟨hop,_⟩:=yA hc;refine Zr (Q:=Sound E _) (fun _=>trivial) (fun _ _ _=>trivial) (fun fv aa v h2 h1 h3 h4=> ?_) (fun fv aa v h2 h1 h3 h4=> ?_)
     ·have hs:=cn (.call fv aa ⟨fF m prev h.hp,h.nx,[]⟩);rw[h4] at hs;rcases next ⟨i,true,[],below h.nx h2.lg [],h.nx,h2.nx⟩ v ⟨eh m h.hp prev h2.hp,h2.nx,below h.nx h2.lg h.lg⟩ _ rfl with ⟨s,he⟩|⟨hi,he⟩
      ·rw[he];trivial
      ·rw[he];exact Xm m hm.symm hlt hw hd hop h1 h3 hs hi (cn _)
     ·have hs:=cn (.call fv aa ⟨fF m prev h.hp,h.nx,[]⟩);rw[h4] at hs;show Sound E _ (sel (FE l && (mQ m i && na m prev)) (.code (.pan v) tm [] ⟨h2.hp,h2.nx,below h.nx h2.lg h.lg⟩) (.fail "panic in a drawn region"));rw[aC];split;rotate_left
      ·trivial
      rename_i jI;rw[Bool.and_eq_true,Bool.and_eq_true] at jI;exact ZP m hm.symm hlt hw hop h1 h3 hs jI.1 jI.2.1 jI.2.2
end
end Go.Sim
end
