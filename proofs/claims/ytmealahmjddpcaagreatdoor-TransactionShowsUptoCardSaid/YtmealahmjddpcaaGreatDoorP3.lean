/- Texts that belong together. The first: A region that draws its order. -/
import Derived.Test.YtmealahmjddpcaaGreatDoorP2
import Derived.Lib.Bytealg
import Derived.Laws.Externs
import Derived.Maps.RangeRun
set_option linter.all false
noncomputable section
namespace Go.Sim
open Go.RowKit
section
variable {E:Env} {g:Gh} {f:Hf} {w:World}
structure DS where
 T:Tf
 F:Hf
structure Stp where
 dst:Option Nat
 v:SV
 D:Nat->Bool
 H:Hf
def DS.app (s:DS) (u:Stp):DS:=⟨fO s.T u.dst u.v,ir u.D u.H s.F⟩
def stP (us:Nat->Stp) (l:List Nat) (p:Nat->Bool) (s:DS):DS:=(l.filter p).foldl (fun s j=>s.app (us j)) s
theorem Gc (us:Nat->Stp) (t:Nat) (p q:Nat->Bool):∀(l:List Nat) (s s2:DS),s.T t=s2.T t->(∀j∈l,(us j).dst=some t->p j=q j)->(stP us l p s).T t=(stP us l q s2).T t
 | [],s,s2,h,_=>h
 |j::l,s,s2,h,hpq=>by
  have jU:=fun s s2 hs=>Gc us t p q l s s2 hs (fun i hi=>hpq i (List.mem_cons_of_mem _ hi))
  have sN:∀s:DS,(s.app (us j)).T t=if (us j).dst=some t then some (us j).v else s.T t:=fun s=>rfl
  unfold stP at jU ⊢;by_cases hl:(us j).dst=some t
  ·have:=hpq j (by simp) hl
   cases hp:p j
   ·rw[hp] at this;simp only[List.filter_cons,hp,<-this];exact jU s s2 h
   ·rw[hp] at this;simp only[List.filter_cons,hp,<-this,if_true,List.foldl_cons];exact jU _ _ (by rw[sN,sN,if_pos hl,if_pos hl])
  ·have key:∀s:DS,(s.app (us j)).T t=s.T t:=fun s=>by rw[sN,if_neg hl]
   cases hp:p j<;>cases hq:q j<;>simp only[List.filter_cons,hp,hq,if_true,List.foldl_cons,Bool.false_eq_true,if_false]
   ·exact jU _ _ h
   ·exact jU _ _ (by rw[key];exact h)
   ·exact jU _ _ (by rw[key];exact h)
   ·exact jU _ _ (by rw[key,key];exact h)
theorem Gd (us:Nat->Stp) (x:Nat) (p q:Nat->Bool):∀(l:List Nat) (s s2:DS),s.F x=s2.F x->(∀j∈l,(us j).D x=true->p j=q j)->(stP us l p s).F x=(stP us l q s2).F x
 | [],s,s2,h,_=>h
 |j::l,s,s2,h,hpq=>by
  have jU:=fun s s2 hs=>Gd us x p q l s s2 hs (fun i hi=>hpq i (List.mem_cons_of_mem _ hi))
  have sN:∀s:DS,(s.app (us j)).F x=if (us j).D x=true then (us j).H x else s.F x:=fun s=>rfl
  unfold stP at jU ⊢;by_cases hl:(us j).D x=true
  ·have:=hpq j (by simp) hl
   cases hp:p j
   ·rw[hp] at this;simp only[List.filter_cons,hp,<-this];exact jU s s2 h
   ·rw[hp] at this;simp only[List.filter_cons,hp,<-this,if_true,List.foldl_cons];exact jU _ _ (by rw[sN,sN,if_pos hl,if_pos hl])
  ·have key:∀s:DS,(s.app (us j)).F x=s.F x:=fun s=>by rw[sN,if_neg hl]
   cases hp:p j<;>cases hq:q j<;>simp only[List.filter_cons,hp,hq,if_true,List.foldl_cons,Bool.false_eq_true,if_false]
   ·exact jU _ _ h
   ·exact jU _ _ (by rw[key];exact h)
   ·exact jU _ _ (by rw[key];exact h)
   ·exact jU _ _ (by rw[key,key];exact h)
theorem DS.ext' {s t:DS} (h1:∀u,s.T u=t.T u) (h2:∀k,s.F k=t.F k):s=t:=by
 cases s;cases t;simp only[DS.mk.injEq];exact ⟨funext h1,funext h2⟩
theorem rG (i n:Nat) (h:i<=n):(List.range' 0 n).filter (fun j=>decide (j<i))=List.range' 0 i:=by
 obtain ⟨m,rfl⟩:=Nat.exists_eq_add_of_le h;rw[<-List.range'_append_1,List.filter_append];have h1:(List.range' 0 i).filter (fun j=>decide (j<i))=List.range' 0 i:=List.filter_eq_self.2 fun x hx=>by simp[List.mem_range'_1] at hx;simpa using hx
 have h2:(List.range' (0+i) m).filter (fun j=>decide (j<i))= []:=List.filter_eq_nil_iff.2 fun x hx=>by simp[List.mem_range'_1] at hx;simp;omega
 rw[h1,h2];simp
theorem Iq (us:Nat->Stp) (p:Nat->Bool) (i n:Nat) (h:i<n) (hp:p i=true) (s:DS):stP us (List.range' 0 n) (fun j=>p j&&decide (j<=i)) s=(stP us (List.range' 0 i) p s).app (us i):=by
 obtain ⟨m,rfl⟩:=Nat.exists_eq_add_of_lt h;have e:List.range' 0 (i+m+1)=List.range' 0 i++(i::List.range' (i+1) m):=by
  rw[show i+m+1=i+(m+1) from by omega,<-List.range'_append_1]
  simp[List.range'_succ]
 unfold stP;rw[e,List.filter_append,List.filter_cons];have h1:(List.range' 0 i).filter (fun j=>p j&&decide (j<=i))=(List.range' 0 i).filter p:=List.filter_congr fun x hx=>by simp[List.mem_range'_1] at hx;simp;omega
 have h2:(List.range' (i+1) m).filter (fun j=>p j&&decide (j<=i))= []:=List.filter_eq_nil_iff.2 fun x hx=>by simp[List.mem_range'_1] at hx;simp;omega
 rw[h1,h2];simp[hp]
theorem ZY (l:Array Bool) (i j:Nat) (h:i<l.size) (d:Bool):(l.setIfInBounds i true).getD j d=if j=i then true else l.getD j d:=by
 simp only[Array.getD_eq_getD_getElem?,Array.getElem?_setIfInBounds];by_cases hj:j=i
 ·subst hj;simp[h]
 ·simp[hj,Ne.symm hj]
def direct (ops:Array Oper) (j:Nat):List Nat:=((ops[j]?).map dB).getD []
def anc (ops:Array Oper):Nat->Nat->List Nat
 |0,_=> []
 |n+1,j=>direct ops j++(direct ops j).flatMap (anc ops n)
theorem pK {ops:Array Oper} {S:Nat->Prop} (hS:∀j,S j->∀i∈direct ops j,S i):∀(n j:Nat),S j->∀i∈anc ops n j,S i
 |0,_,_,i,hi=>by simp[anc] at hi
 |n+1,j,hj,i,hi=>by
  simp only[anc,List.mem_append,List.mem_flatMap] at hi;rcases hi with hi|⟨k,hk,hi⟩
  ·exact hS j hj i hi
  ·exact pK hS n k (hS j hj k hk) i hi
theorem B8 {ops:Array Oper} {S:Nat->Prop} (hS:∀j,S j->∀i∈direct ops j,S i):∀(n j:Nat),(∀i∈direct ops j,S i)->∀i∈anc ops n j,S i
 |0,_,_,i,hi=>by simp[anc] at hi
 |n+1,j,hj,i,hi=>by
  simp only[anc,List.mem_append,List.mem_flatMap] at hi;rcases hi with hi|⟨k,hk,hi⟩
  ·exact hj i hi
  ·exact pK hS n k (hj k hk) i hi
theorem tZ {ops:Array Oper} {listed:Array Bool} {i:Nat}:i∈Region.ready .any ops listed↔i<ops.size/\listed.getD i true=false/\∀j∈direct ops i,listed.getD j false=true:=by
 unfold Region.ready;simp only[List.mem_filter,List.mem_range,Bool.and_eq_true,Bool.not_eq_true'];constructor
 ·rintro ⟨h1,h2,h3⟩;refine ⟨h1,h2,fun j hj=> ?_⟩
  unfold direct at hj;rw[Array.getElem?_eq_getElem h1] at hj h3;simp only[Option.map_some,Option.getD_some,dB,List.mem_map,List.mem_filter] at hj h3;obtain ⟨e,⟨he1,he2⟩,rfl⟩:=hj;rw[Array.all_eq_true'] at h3;have:=h3 e (by simpa using he1)
  simpa[he2] using this
 ·rintro ⟨h1,h2,h3⟩;refine ⟨h1,h2,?_⟩;rw[Array.getElem?_eq_getElem h1];simp only[Option.map_some,Option.getD_some];rw[Array.all_eq_true'];intro e he;by_cases hb:Region.binds .any e=true
  ·have:=h3 e.on (by
    unfold direct;rw[Array.getElem?_eq_getElem h1];simp only[Option.map_some,Option.getD_some,dB,List.mem_map,List.mem_filter];exact ⟨e,⟨by simpa using he,hb⟩,rfl⟩)
   simp[this]
  ·simp[hb]
theorem HR.Eg {w':World} (h:HR g f w) (he:w'.heap=w.heap):HR g f w':=
 ⟨fun id o ho=>by
  obtain ⟨b,c,q1,q2,q3⟩:=h.ob id o ho;exact ⟨b,c,q1,by rw[he];exact q2,q3.mono (.refl _) q1 (by rw[he])⟩,h.inj⟩
theorem Fr.Eg {w':World} (he:w'.heap=w.heap) (h1:w'.os=w.os) (h2:w'.tape=w.tape) (h3:w'.output=w.output):Fr g f w g f w':=
 ⟨h1,h2,h3,by rw[he];exact Nat.le_refl _,.refl _,fun b _ _=>by rw[he],fun _ _ h=>h⟩
structure Ind (ops:Array Oper) (us:Nat->Stp) (need:Nat->Nat->Prop) (i j:Nat):Prop where
 s1:∀t,(us i).dst=some t->∀o,ops[j]? =some o->t∉o.looksAt ops
 s2:∀t,(us j).dst=some t->∀o,ops[i]? =some o->t∉o.looksAt ops
 s3:∀t,(us i).dst=some t->(us j).dst≠some t
 d:∀x,(us i).D x=true->(us j).D x=false
 n1:∀x,need j x->(us i).D x=false
 n2:∀x,need i x->(us j).D x=false
theorem RL {S:Nat->Prop} {ro:Option Nat} {nt:Nat} {ops:Array Oper} {U:Nat->Stp} {need frp newp:Nat->Nat->Prop} {s0:DS} (uB:E.P.follows .mixedOrders=true)
  (uz:∀i (hi:i<ops.size),¬S i->(U i).dst=ops[i].dst/\n6 E ro nt ops i ops[i] (stP U (List.range' 0 i) (fun _=>true) s0).T (need i) (stP U (List.range' 0 i) (fun _=>true) s0).F (frp i) (newp i) (U i).v (U i).D (U i).H)
  (hd:∀j,j<ops.size->(∀i∈direct ops j,i<j)/\∀i,i<j->i∈anc ops ops.size j\/Ind ops U need i j)
  (hfp:∀i k,i<ops.size->k<ops.size->i≠k->∀x,frp i x->newp k x->i∈anc ops ops.size k)
  {a:Act} {id m:Nat} {Q:Exit->Act->World->Prop} (hE:bC E g) (hfr:FR g nt s0.T a.tmps) (hr:HR g s0.F w) (eX:∀i,i<ops.size->∀x,frp i x->g.ρ x=none)
  (aiK:∀i,i<ops.size->S i->i+1=ops.size/\(∀j,j<i->j∈anc ops ops.size i)/\∀(g1:Gh) (a1:Act) (w1:World) (K:Act->World->Prop),bC E g1->FR g1 nt (stP U (List.range' 0 i) (fun _=>true) s0).T a1.tmps->HR g1 (stP U (List.range' 0 i) (fun _=>true) s0).F w1->
   Fr g s0.F w g1 (stP U (List.range' 0 i) (fun _=>true) s0).F w1->a1.defers=a.defers->(∀x,g1.ρ x≠g.ρ x->∃k,k<i/\newp k x)->wpOpIn (fro ro) m E.P ops Q i K a1 w1)
  (hq:(∀i,i<ops.size->¬S i)->∀g' a' w',FR g' nt (stP U (List.range' 0 ops.size) (fun _=>true) s0).T a'.tmps->HR g' (stP U (List.range' 0 ops.size) (fun _=>true) s0).F w'->Fr g s0.F w g' (stP U (List.range' 0 ops.size) (fun _=>true) s0).F w'->a'.defers=a.defers->
   (∀x,(∀i,i<ops.size->¬newp i x)->g'.ρ x=g.ρ x)->Q .normal a' w'):(Code.region id ops true).wpIn (fro ro) m E.P Q a w:=by
 let n:=ops.size;have key:∀(fuel:Nat) (listed:Array Bool) (a1:Act) (w1:World) (g1:Gh),listed.size=n->(∀j,listed.getD j false=true->∀i∈direct ops j,listed.getD i false=true)->
   ((List.range' 0 n).filter (fun j=> !listed.getD j false)).length=fuel->bC E g1->FR g1 nt (stP U (List.range' 0 n) (fun j=>listed.getD j false) s0).T a1.tmps->HR g1 (stP U (List.range' 0 n) (fun j=>listed.getD j false) s0).F w1->
   Fr g s0.F w g1 (stP U (List.range' 0 n) (fun j=>listed.getD j false) s0).F w1->a1.defers=a.defers->(∀x,g1.ρ x≠g.ρ x->∃k,k<n/\listed.getD k false=true/\newp k x)->(∀j,listed.getD j false=true->¬S j)->wpAnyIn (fro ro) m E.P .any ops Q fuel listed a1 w1:=by
  intro fuel;induction fuel with
  |zero=>
   intro listed a1 w1 g1 hsz hcl Lh hE1 Ef hr1 hf1 hdf La hns;have oS:∀j,j<n->listed.getD j false=true:=by
    intro j hj;have:=List.filter_eq_nil_iff.1 (List.eq_nil_of_length_eq_zero Lh) j (by simp[List.mem_range'_1];exact hj)
    simpa using this
   have hst:stP U (List.range' 0 n) (fun j=>listed.getD j false) s0=stP U (List.range' 0 n) (fun _=>true) s0:=by
    unfold stP;congr 1;exact List.filter_congr fun x hx=>by simp[List.mem_range'_1] at hx;simpa using oS x hx
   rw[hst] at Ef hr1 hf1;refine ⟨?_,hq (fun i hi=>hns i (oS i hi)) g1 a1 w1 Ef hr1 hf1 hdf (fun x hx=> ?_)⟩
   ·rw[List.eq_nil_iff_forall_not_mem];intro i hi;obtain ⟨h1,h2,_⟩:=tZ.1 hi;have:=oS i h1;simp only[Array.getD_eq_getD_getElem?] at this h2;rw[Array.getElem?_eq_getElem (by rw[hsz];exact h1)] at this h2
    simp at this h2;rw[this] at h2;simp at h2
   ·by_cases he:g1.ρ x=g.ρ x
    ·exact he
    ·obtain ⟨k,k1,_,k3⟩:=La x he;exact absurd k3 (hx k k1)
  |succ fuel ih=>
   intro listed a1 w1 g1 hsz hcl Lh hE1 Ef hr1 hf1 hdf La hns;have hun:∀j,j<n->listed.getD j true=listed.getD j false:=by
    intro j hj;simp only[Array.getD_eq_getD_getElem?];rw[Array.getElem?_eq_getElem (by rw[hsz];exact hj)];rfl
   refine ⟨fun hr=> ?_,fun i hi=> ?_⟩
   ·exfalso;have hne:(List.range' 0 n).filter (fun j=> !listed.getD j false)≠ []:=by intro he;rw[he] at Lh;simp at Lh
    obtain ⟨i0,hi0⟩:=List.exists_mem_of_ne_nil _ hne;have hex:∃i,i<n/\listed.getD i false=false:=⟨i0,by simp[List.mem_range'_1] at hi0;exact hi0.1,by simp at hi0;simpa using hi0.2⟩
    have:∀m,(∃i,i<=m/\i<n/\listed.getD i false=false)->∃i,i<n/\listed.getD i false=false/\∀j,j<i->listed.getD j false=true:=by
     intro m;induction m with
     |zero=>rintro ⟨i,h1,h2,h3⟩;exact ⟨i,h2,h3,fun j hj=>by omega⟩
     |succ m ihm=>
      rintro ⟨i,h1,h2,h3⟩;by_cases hj:∃j,j<i/\listed.getD j false=false
      ·obtain ⟨j,hj1,hj2⟩:=hj;exact ihm ⟨j,by omega,by omega,hj2⟩
      ·exact ⟨i,h2,h3,fun j hj'=>by
        cases hq:listed.getD j false with
        |true=>rfl
        |false=>exact absurd ⟨j,hj',hq⟩ hj⟩
    obtain ⟨i,hi1,hi2⟩:=hex;obtain ⟨k,k1,k2,k3⟩:=this i ⟨i,Nat.le_refl _,hi1,hi2⟩;have:k∈Region.ready .any ops listed:=tZ.2 ⟨k1,by rw[hun k k1];exact k2,fun j hj=>k3 j ((hd k k1).1 j hj)⟩
    rw[hr] at this;simp at this
   ·obtain ⟨hi1,hi2,hi3⟩:=tZ.1 hi;rw[hun i hi1] at hi2;by_cases hSi:S i
    ·obtain ⟨Gs,oS,hgo⟩:=aiK i hi1 hSi;have hli:∀j,j<i->listed.getD j false=true:=fun j hj=>B8 (S:=fun j=>listed.getD j false=true) hcl n i hi3 j (oS j hj)
     have hst:stP U (List.range' 0 n) (fun j=>listed.getD j false) s0=stP U (List.range' 0 i) (fun _=>true) s0:=by
      unfold stP;have:(List.range' 0 n).filter (fun j=>listed.getD j false)=(List.range' 0 i).filter (fun _=>true):=by
       rw[List.filter_eq_self.2 (fun _ _=>rfl),<-rG i n (Nat.le_of_lt hi1)]
       refine List.filter_congr fun x hx=> ?_
       have hxn:x<n:=by simp[List.mem_range'_1] at hx;exact hx
       by_cases hxi:x<i
       ·simp only[hli x hxi,hxi,decide_true]
       ·have:x=i:=by omega
        subst this;simp only[hi2,Nat.lt_irrefl,decide_false]
      rw[this]
     rw[hst] at Ef hr1 hf1;refine hgo g1 a1 w1 _ hE1 Ef hr1 hf1 hdf (fun x hx=> ?_)
     obtain ⟨k,k1,k2,k3⟩:=La x hx;refine ⟨k,?_,k3⟩;by_cases hk:k=i
     ·subst hk;rw[hi2] at k2;simp at k2
     ·omega
    obtain ⟨ZP,hs⟩:=uz i hi1 hSi;have hoi:ops[i]? =some ops[i]:=Array.getElem?_eq_getElem hi1;have XB:∀j,j<i->listed.getD j false=false->Ind ops U need j i:=by
     intro j hj hl;rcases (hd i hi1).2 j hj with hc|hc
     ·have:=B8 (S:=fun j=>listed.getD j false=true) hcl n i hi3 j hc
      rw[hl] at this;simp at this
     ·exact hc
    have Gr:∀j,i<j->j<n->listed.getD j false=true->Ind ops U need i j:=by
     intro j hj hjn hl;rcases (hd j hjn).2 i hj with hc|hc
     ·have:=pK (S:=fun j=>listed.getD j false=true) hcl n j hl i hc
      rw[hi2] at this;simp at this
     ·exact hc
    have hst0:stP U (List.range' 0 i) (fun _=>true) s0=stP U (List.range' 0 n) (fun j=>decide (j<i)) s0:=by
     unfold stP;rw[rG i n (Nat.le_of_lt hi1)];congr 1;exact List.filter_eq_self.2 (fun _ _=>rfl)
    have hT:∀t∈(ops[i]).looksAt ops,(stP U (List.range' 0 n) (fun j=>listed.getD j false) s0).T t=(stP U (List.range' 0 i) (fun _=>true) s0).T t:=by
     intro t htr;rw[hst0];refine Gc U t _ _ _ _ _ rfl (fun j hj ny=> ?_)
     have hjn:j<n:=by simp[List.mem_range'_1] at hj;exact hj
     rcases Nat.lt_trichotomy j i with hlt|heq|hgt
     ·cases hl:listed.getD j false with
      |true=>simp[hlt]
      |false=>exact absurd htr ((XB j hlt hl).s1 t ny _ hoi)
     ·subst heq;simp[hi2]
     ·cases hl:listed.getD j false with
      |false=>simp;omega
      |true=>exact absurd htr ((Gr j hgt hjn hl).s2 t ny _ hoi)
    have hB:∀x,need i x->(stP U (List.range' 0 n) (fun j=>listed.getD j false) s0).F x=(stP U (List.range' 0 i) (fun _=>true) s0).F x:=by
     intro x hx;rw[hst0];refine Gd U x _ _ _ _ _ rfl (fun j hj ny=> ?_)
     have hjn:j<n:=by simp[List.mem_range'_1] at hj;exact hj
     rcases Nat.lt_trichotomy j i with hlt|heq|hgt
     ·cases hl:listed.getD j false with
      |true=>simp[hlt]
      |false=>
       have:=(XB j hlt hl).n1 x hx;rw[ny] at this;simp at this
     ·subst heq;simp[hi2]
     ·cases hl:listed.getD j false with
      |false=>simp;omega
      |true=>
       have:=(Gr j hgt hjn hl).n2 x hx;rw[ny] at this;simp at this
    have nA:∀j,(listed.setIfInBounds i true).getD j false=if j=i then true else listed.getD j false:=fun j=>ZY listed i j (by rw[hsz];exact hi1) false
    have hpi:(listed.setIfInBounds i true).getD i false=true:=by rw[nA];simp
    have ads:(stP U (List.range' 0 n) (fun j=>listed.getD j false) s0).app (U i)=stP U (List.range' 0 n) (fun j=>(listed.setIfInBounds i true).getD j false) s0:=by
     refine DS.ext' (fun t=> ?_) (fun x=> ?_)
     ·show (if (U i).dst=some t then some (U i).v else _)=_
      by_cases hl:(U i).dst=some t
      ·have e:=Gc U t (fun j=>(listed.setIfInBounds i true).getD j false) (fun j=>(listed.setIfInBounds i true).getD j false&&decide (j<=i)) (List.range' 0 n) s0 s0 rfl (fun j hj ny=>by
        have hjn:j<n:=by simp[List.mem_range'_1] at hj;exact hj
        by_cases hle:j<=i
        ·simp[hle]
        ·cases hlj:(listed.setIfInBounds i true).getD j false with
         |false=>simp
         |true=>
          rw[nA,if_neg (by omega)] at hlj
          exact absurd ny ((Gr j (by omega) hjn hlj).s3 t hl))
       rw[e,Iq U _ i n hi1 hpi,if_pos hl];show _=if (U i).dst=some t then some (U i).v else _
       rw[if_pos hl]
      ·rw[if_neg hl];refine Gc U t _ _ _ _ _ rfl (fun j hj ny=> ?_)
       rw[nA];split
       ·rename_i he;subst he;exact absurd ny hl
       ·rfl
     ·show (if (U i).D x=true then (U i).H x else _)=_
      by_cases hl:(U i).D x=true
      ·have e:=Gd U x (fun j=>(listed.setIfInBounds i true).getD j false) (fun j=>(listed.setIfInBounds i true).getD j false&&decide (j<=i)) (List.range' 0 n) s0 s0 rfl (fun j hj ny=>by
        have hjn:j<n:=by simp[List.mem_range'_1] at hj;exact hj
        by_cases hle:j<=i
        ·simp[hle]
        ·cases hlj:(listed.setIfInBounds i true).getD j false with
         |false=>simp
         |true=>
          rw[nA,if_neg (by omega)] at hlj
          have:=(Gr j (by omega) hjn hlj).d x hl
          rw[ny] at this;simp at this)
       rw[e,Iq U _ i n hi1 hpi,if_pos hl];show _=if (U i).D x=true then (U i).H x else _
       rw[if_pos hl]
      ·rw[if_neg hl];refine Gd U x _ _ _ _ _ rfl (fun j hj ny=> ?_)
       rw[nA];split
       ·rename_i he;subst he;exact absurd ny hl
       ·rfl
    have hcl':∀j,(listed.setIfInBounds i true).getD j false=true->∀k∈direct ops j,(listed.setIfInBounds i true).getD k false=true:=by
     intro j hj k hk;rw[nA] at hj ⊢;split
     ·rfl
     ·split at hj
      ·rename_i he;subst he;exact hi3 k hk
      ·exact hcl j hj k hk
    have aiR:((List.range' 0 n).filter (fun j=> !(listed.setIfInBounds i true).getD j false)).length=fuel:=by
     have h1:(List.range' 0 n).filter (fun j=> !(listed.setIfInBounds i true).getD j false)=((List.range' 0 n).filter (fun j=> !listed.getD j false)).erase i:=by
      have hnd:((List.range' 0 n).filter (fun j=> !listed.getD j false)).Nodup:=List.Pairwise.filter _ List.nodup_range'
      rw[hnd.erase_eq_filter,List.filter_filter];refine List.filter_congr fun x hx=> ?_
      rw[nA];by_cases hxi:x=i<;>simp[hxi]
     rw[h1,List.length_erase_of_mem (List.mem_filter.2 ⟨by simp[List.mem_range'_1];exact hi1,by rw[hi2];rfl⟩),Lh]
     rfl
    have Ld:∀x,frp i x->g1.ρ x=none:=by
     intro x hx;by_cases he:g1.ρ x=g.ρ x
     ·rw[he];exact eX i hi1 x hx
     ·obtain ⟨k,k1,k2,k3⟩:=La x he;have hne:i≠k:=fun e=>by subst e;rw[hi2] at k2;simp at k2
      have:=pK (S:=fun j=>listed.getD j false=true) hcl n k k2 i (hfp i k hi1 k1 hne x hx k3)
      rw[hi2] at this;simp at this
    refine hs m g1 _ _ a1 w1 (wpAnyIn (fro ro) m E.P .any ops Q fuel (listed.setIfInBounds i true)) Q hE1 Ef hr1 hT hB Ld (fun r w' g' q1 q2 q3 q4=> ?_)
    rw[<-ZP] at q1 ⊢;have e1:fO (stP U (List.range' 0 n) (fun j=>listed.getD j false) s0).T (U i).dst (U i).v=(stP U (List.range' 0 n) (fun j=>(listed.setIfInBounds i true).getD j false) s0).T:=by rw[<-ads];rfl
    have e2:ir (U i).D (U i).H (stP U (List.range' 0 n) (fun j=>listed.getD j false) s0).F=(stP U (List.range' 0 n) (fun j=>(listed.setIfInBounds i true).getD j false) s0).F:=by rw[<-ads];rfl
    rw[e1] at q1;rw[e2] at q2 q3;refine ih (listed.setIfInBounds i true) _ w' g' (by simpa using hsz) hcl' aiR (hE1.mono q3.le) q1 q2 (hf1.trans q3) (by rw[put_defers];exact hdf) (fun x hx=> ?_) ?_
    ·by_cases hn:newp i x
     ·exact ⟨i,hi1,hpi,hn⟩
     rw[q4 x hn] at hx;obtain ⟨k,k1,k2,k3⟩:=La x hx;refine ⟨k,k1,?_,k3⟩;rw[nA];split
     ·rfl
     ·exact k2
    ·intro j hj;rw[nA] at hj;split at hj
     ·rename_i e;subst e;exact hSi
     ·exact hns j hj
 refine wpIn_region_any (F:=fro ro) uB (key ops.size _ a _ g (by simp[n]) ?_ ?_ hE ?_ ?_ ?_ rfl (fun x hx=>absurd rfl hx) ?_)
 ·intro j hj;simp[Array.getD_eq_getD_getElem?,Array.getElem?_replicate] at hj;split at hj<;>simp at hj
 ·have:(List.range' 0 n).filter (fun j=> !(Array.replicate ops.size false).getD j false)=List.range' 0 n:=List.filter_eq_self.2 fun x hx=>by
   simp[Array.getD_eq_getD_getElem?,Array.getElem?_replicate];split<;>simp
  rw[this];simp[n]
 rotate_left 3
 ·intro j hj;simp[Array.getD_eq_getD_getElem?,Array.getElem?_replicate] at hj;split at hj<;>simp at hj
 all_goals
  have hs0:stP U (List.range' 0 n) (fun j=>(Array.replicate ops.size false).getD j false) s0=s0:=by
   unfold stP;have:(List.range' 0 n).filter (fun j=>(Array.replicate ops.size false).getD j false)= []:=List.filter_eq_nil_iff.2 fun x hx=>by
    simp[Array.getD_eq_getD_getElem?,Array.getElem?_replicate];split<;>simp
   rw[this];rfl
  rw[hs0]
 ·exact hfr
 ·exact hr.Eg rfl
 ·exact Fr.Eg rfl rfl rfl rfl
end
section
variable {E:Env} {g:Gh} {f:Hf} {w:World}
theorem force_eq {β:Type} (m:Nat) (k:Nat->β):force m k=k m:=by cases m<;>rfl
theorem uV (m i:Nat):dM m i=true↔m.testBit i=true:=by
 unfold dM;rw[beq_iff];show (m>>>i) &&& 1=1↔_;rw[Nat.and_one_is_mod,Nat.testBit_eq_decide_div_mod_eq,Nat.shiftRight_eq_div_pow];simp
theorem wN {ops:Array Oper} {j:Nat} {o:Oper} (h:ops[j]? =some o):direct ops j=dB o:=by simp[direct,h]
theorem rm {ops:Array Oper}:∀(n m j:Nat),n<=m->∀i∈anc ops n j,i∈anc ops m j
 |0,m,j,_,i,h=>by simp[anc] at h
 |n+1,0,j,hle,_,_=>by omega
 |n+1,m+1,j,hle,i,h=>by
  simp only[anc,List.mem_append,List.mem_flatMap] at h ⊢;rcases h with h|⟨d,hd,h⟩
  ·exact .inl h
  ·exact .inr ⟨d,hd,rm n m d (by omega) i h⟩
def sW (ops:Array Oper) (W M j:Nat):Prop:=∀p,M.testBit p=true->∃i b,i<j/\b<W/\p=i*W+b/\b∈anc ops (i+1) i
theorem YQ {W i b i' b':Nat} (h:i*W+b=i'*W+b') (h1:b<W) (h2:b'<W):i=i'/\b=b':=by
 have e1:(i*W+b) / W=i:=by rw[Nat.mul_comm,Nat.mul_add_div (by omega),Nat.div_eq_of_lt h1];omega
 have e2:(i'*W+b') / W=i':=by rw[Nat.mul_comm,Nat.mul_add_div (by omega),Nat.div_eq_of_lt h2];omega
 have:i=i':=by rw[<-e1,<-e2,h]
 subst this;exact ⟨rfl,by omega⟩
theorem yS {ops:Array Oper} {W M j:Nat} (hM:sW ops W M j) {x:Nat}:∀(ds:List Nat),(fD W M ds).testBit x=true->∃i∈ds,x=i\/(i<j/\x∈anc ops (i+1) i)
 | [],h=>by simp[fD] at h
 |d::ds,h=>by
  have h:(fD W M ds|||((1<<<d)|||((M>>>(d*W)) % 2 ^ W))).testBit x=true:=h;rw[Nat.testBit_or,Nat.testBit_or,Bool.or_eq_true,Bool.or_eq_true] at h;rcases h with h|h|h
  ·obtain ⟨i,hi,h⟩:=yS hM ds h;exact ⟨i,by simp[hi],h⟩
  ·rw[Nat.shiftLeft_eq,Nat.one_mul,Nat.testBit_two_pow] at h;exact ⟨d,by simp,.inl (by simpa using h.symm:d=x).symm⟩
  ·rw[Nat.testBit_mod_two_pow,Bool.and_eq_true,Nat.testBit_shiftRight] at h;obtain ⟨h1,h2⟩:=h;obtain ⟨i,b,q1,q2,q3,q4⟩:=hM _ h2;have hx:x<W:=by simpa using h1
   obtain ⟨rfl,rfl⟩:=YQ q3 hx q2;exact ⟨d,by simp,.inr ⟨q1,q4⟩⟩
theorem oH {j:Nat}:∀{l:List Nat},gp j l=true->∀i∈l,i<j
 | [],_,i,hi=>by simp at hi
 |x::l,h,i,hi=>by
  unfold gp at h;rw[aA] at h;split at h
  ·rename_i hx;rcases List.mem_cons.1 hi with rfl|hi
   ·exact (bj _ _).1 hx
   ·exact oH h i hi
  ·simp at h
theorem rQ {ops:Array Oper} {W M j:Nat} {o:Oper} (hj:ops[j]? =some o) (hM:sW ops W M j):
  (∀x,(Nat.mod (fD W M (dB o)) (Nat.pow 2 W)).testBit x=true->x<W/\x∈anc ops (j+1) j)/\
  sW ops W (Nat.lor M (Nat.shiftLeft (Nat.mod (fD W M (dB o)) (Nat.pow 2 W)) (Nat.mul j W))) (j+1):=by
 have hdir:=wN hj;have hbit:∀x,(fD W M (dB o) % 2 ^ W).testBit x=true->x<W/\x∈anc ops (j+1) j:=by
  intro x hx;rw[Nat.testBit_mod_two_pow,Bool.and_eq_true] at hx;refine ⟨by simpa using hx.1,?_⟩
  obtain ⟨i,hi,h⟩:=yS hM (dB o) hx.2;rw[<-hdir] at hi;simp only[anc,List.mem_append,List.mem_flatMap];rcases h with rfl|⟨q1,q2⟩
  ·exact .inl hi
  ·exact .inr ⟨i,hi,rm (i+1) j i (by omega) x q2⟩
 refine ⟨hbit,fun p hp=> ?_⟩
 have hp:(M|||((fD W M (dB o) % 2 ^ W)<<<(j*W))).testBit p=true:=hp;rw[Nat.testBit_or,Bool.or_eq_true] at hp;rcases hp with hp|hp
 ·obtain ⟨i,b,q1,q2,q3,q4⟩:=hM p hp;exact ⟨i,b,by omega,q2,q3,q4⟩
 ·rw[Nat.testBit_shiftLeft,Bool.and_eq_true] at hp;obtain ⟨p1,p2⟩:=hp;obtain ⟨q1,q2⟩:=hbit _ p2;have p1:j*W<=p:=by simpa using p1
  exact ⟨j,p-j*W,by omega,q1,by omega,q2⟩
theorem l3 (x:Nat):∀(l:List Nat),ep x l=true↔x∈l
 | []=>by simp[ep]
 |y::l=>by
  unfold ep;rw[aA,beq_eq];by_cases h:x=y
  ·simp[h]
  ·simp only[h,decide_false,Bool.false_eq_true,if_false,List.mem_cons,false_or];exact l3 x l
theorem jY:∀{l m:List Nat},jg l m=true->∀x∈l,x∉m
 | [],_,_,x,hx=>by simp at hx
 |y::l,m,h,x,hx=>by
  unfold jg at h;rw[aA] at h;split at h
  ·simp at h
  ·rename_i hm;rcases List.mem_cons.1 hx with rfl|hx
   ·exact fun hc=>hm ((l3 _ _).2 hc)
   ·exact jY h x hx
theorem mr {lo hi:Nat}:∀{l:List Nat},jO lo hi l=true->∀x∈l,x<lo\/hi<=x
 | [],_,x,hx=>by simp at hx
 |y::l,h,x,hx=>by
  unfold jO at h;rw[aA,aA] at h;split at h
  ·rename_i h1;rcases List.mem_cons.1 hx with rfl|hx
   ·exact .inl ((bj _ _).1 h1)
   ·exact mr h x hx
  ·split at h
   ·rename_i h1;rcases List.mem_cons.1 hx with rfl|hx
    ·exact .inr ((bj _ _).1 h1)
    ·exact mr h x hx
   ·simp at h
theorem Kt {l:List Nat} (h:sH l=true):l= []:=by
 cases l with
 |nil=>rfl
 |cons _ _=>simp[sH] at h
theorem lL {m:Nat} {r:Rc}:∀{ps:List Rc},cZ m r ps=true->∀p∈ps,dM m p.i=true\/tB p r=true
 | [],_,p,hp=>by simp at hp
 |q::ps,h,p,hp=>by
  unfold cZ at h;rw[aA,aA] at h;split at h
  ·rename_i h1;rcases List.mem_cons.1 hp with rfl|hp
   ·exact .inl h1
   ·exact lL h p hp
  ·split at h
   ·rename_i h1;rcases List.mem_cons.1 hp with rfl|hp
    ·exact .inr h1
    ·exact lL h p hp
   ·simp at h
structure Cf (p r:Rc):Prop where
 a1:∀x∈r.rd,x<p.lo\/p.hi<=x
 a2:∀x∈r.wr,x<p.lo\/p.hi<=x
 a3:∀x∈p.rd,x<r.lo\/r.hi<=x
 a4:∀x∈p.wr,x<r.lo\/r.hi<=x
 b1:∀x∈p.rd,x∉r.wr
 b2:∀x∈r.rd,x∉p.wr
 b3:∀x∈p.wr,x∉r.wr
 c1:p.call=true->r.call=false/\r.wr= []
 c2:r.call=true->p.call=false/\p.wr= []
theorem zb {p r:Rc} (h:tB p r=true):Cf p r:=by
 unfold tB at h;simp only[Bool.and_eq_true] at h;obtain ⟨h1,h2,h3,h4,h5,h6,h7,h8⟩:=h;refine ⟨mr h1,mr h2,mr h3,mr h4,jY h5,jY h6,jY h7,fun hp=> ?_,fun hr=> ?_⟩
 ·rw[hp] at h8;cases hr:r.call with
  |true=>rw[hr] at h8;cases h8
  |false=>rw[hr] at h8;exact ⟨rfl,Kt h8⟩
 ·rw[hr] at h8;cases hp:p.call with
  |true=>rw[hp] at h8;cases h8
  |false=>rw[hp] at h8;exact ⟨rfl,Kt h8⟩
theorem N0:∀(xs:List Operand),Ih xs=xs.filterMap fun| .tmp t=>some t|_=>none
 | []=>rfl
 |x::xs=>by
  have ih:=N0 xs;cases x<;>simp[Ih,ih]
theorem Ky (ops:Array Oper) (o:Oper):looks ops.toList o=o.looksAt ops:=by
 unfold looks Oper.looksAt;rw[N0];cases hg:o.guard with
 |none=>rfl
 |some p=>
  obtain ⟨j,b⟩:=p;simp only[rN,Array.getElem?_toList];rfl
theorem oM {all:List Oper} {m:Nat} {r:Oper}:∀{k:Nat} {ps:List Oper},qm all m r k ps=true->ps.length=k+1\/ps= []->∀j p,ps[j]? =some p->dM m (k-j)=true\/s9 all p r=true
 |k,[],_,_,j,p,hp=>by simp at hp
 |k,q::ps,h,hl,j,p,hp=>by
  unfold qm at h;rw[aA,aA] at h;have hl':ps.length=Nat.sub k 1+1\/ps= []:=by
   rcases hl with hl|hl
   ·simp at hl;cases k with
    |zero=>exact .inr (List.eq_nil_of_length_eq_zero (by omega))
    |succ k=>exact .inl (by show ps.length=k+1-1+1;omega)
   ·simp at hl
  have hk:∀(j:Nat),ps[j]? =some p->Nat.sub k 1-j=k-(j+1):=fun j _=>by show k-1-j=k-(j+1);omega
  split at h
  ·rename_i h1;cases j with
   |zero=>simp at hp;subst hp;exact .inl h1
   |succ j=>simp at hp;have:=oM h hl' j p hp;rw[hk j hp] at this;exact this
  ·split at h
   ·rename_i h1;cases j with
    |zero=>simp at hp;subst hp;exact .inr h1
    |succ j=>simp at hp;have:=oM h hl' j p hp;rw[hk j hp] at this;exact this
   ·simp at h
theorem vE {ops:Array Oper} {W:Nat}:∀(l:List Oper) (i M:Nat) (prev:List Oper),nh W ops.toList l i M prev=true->ops.toList.drop i=l->prev=(ops.toList.take i).reverse->sW ops W M i->
  ∀j,i<=j->j<ops.size->∀k,k<j->∀p r,ops[k]? =some p->ops[j]? =some r->k∈anc ops (j+1) j\/s9 ops.toList p r=true
 | [],i,M,prev,h,hd,_,_,j,hj,hj',_,_,_,_,_,_=>by
  have:ops.size<=i:=by simpa using hd
  omega
 |o::l,i,M,prev,h,hd,hp,hM,j,hj,hj',k,hk,p,r,hpk,hr=>by
  have hi:i<ops.toList.length:=by
   by_cases hl:i<ops.toList.length
   ·exact hl
   ·rw[List.drop_of_length_le (by omega)] at hd;simp at hd
  rw[List.drop_eq_getElem_cons hi] at hd;obtain ⟨ho,hl⟩:=List.cons.inj hd;have hoi:ops[i]? =some o:=by
   have:ops.toList[i]? =some o:=by rw[List.getElem?_eq_getElem hi,ho]
   simpa using this
  unfold nh at h;rw[force_eq,aA] at h;split at h
  ·rename_i hs;rw[force_eq] at h;obtain ⟨m1,m2⟩:=rQ hoi hM;by_cases hji:j=i
   ·subst hji;rw[hoi] at hr;obtain rfl:o=r:=by simpa using hr
    have hpl:prev.length=j:=by rw[hp];simp at hi ⊢;omega
    have hg:prev[j-1-k]? =some p:=by
     rw[hp,List.getElem?_reverse (by simp at hi ⊢;omega)]
     simp at hi ⊢;rw[Nat.min_eq_left (by omega),List.getElem?_take,if_pos (by omega)]
     have:j-1-(j-1-k)=k:=by omega
     rw[this];simpa using hpk
    rcases oM hs (by
     cases hpp:prev with
     |nil=>exact .inr rfl
     |cons a b=>rw[hpp] at hpl;left;simp at hpl ⊢;show b.length=j-1;omega) (j-1-k) p hg with hb|hb
    ·have e:Nat.sub j 1-(j-1-k)=k:=by show j-1-(j-1-k)=k;omega
     rw[e] at hb;exact .inl (m1 k ((uV _ _).1 hb)).2
    ·exact .inr hb
   ·refine vE l (i+1) _ (o::prev) h hl ?_ m2 j (by omega) hj' k hk p r hpk hr
    have:ops.toList.take (i+1)=ops.toList.take i++ [o]:=by
     rw[List.take_add_one,List.getElem?_eq_getElem hi,ho];rfl
    rw[this,List.reverse_append,hp];rfl
  ·simp at h
end
section
variable {E:Env} {g:Gh} {w:World} {nt W base:Nat} {ops:Array Oper}
structure St where
 u:Stp
 rc:Rc
 m:Nat
 need:Nat->Prop
 frp:Nat->Prop
 newp:Nat->Prop
instance:Inhabited St:=⟨⟨⟨none,.undef,fun _=>false,fun _=>none⟩,⟨0,false,[],[],0,0⟩,0,fun _=>False,fun _=>False,fun _=>False⟩⟩
structure Cnd (E:Env) (nt W:Nat) (ops:Array Oper) (base i:Nat) (prev:List St) (o:Oper) (T:Tf) (F:Hf) (nx:Nat) (s:St) (nx1:Nat):Prop where
 dst:s.u.dst=o.dst
 step:∀ro,n6 E ro nt ops i o T s.need F s.frp s.newp s.u.v s.u.D s.u.H
 lt:∀d∈dB o,d<i
 anc:∀b,dM s.m b=true->b∈anc ops (i+1) i
 rci:s.rc.i=i
 ind:∀p∈prev,dM s.m p.rc.i=true\/Cf p.rc s.rc
 D:∀x,s.u.D x=true↔(x∈s.rc.wr\/(s.rc.lo<=x/\x<s.rc.hi))
 smp:s.rc.call=false->s.rc.lo=base+i/\s.rc.hi=base+i+1/\nx1=nx/\(∀x,s.need x->x∈s.rc.rd)/\(∀x,s.frp x->x=base+i)/\∀x,s.newp x->x=base+i
 cal:s.rc.call=true->s.rc.lo=nx/\s.rc.hi=nx1/\(∀x,s.need x->F x≠none/\∀p∈prev,dM s.m p.rc.i=false->x≠p.rc.lo)/\(∀x,s.frp x->nx<=x)/\∀x,s.newp x->nx<=x/\x<nx1
 oO:nx<=nx1
 bd:∀x,F x≠none->¬(base+i<=x/\x<base+W)
 base:base+W<=nx
inductive DT (E:Env) (nt W:Nat) (ops:Array Oper) (base:Nat):Nat->List St->List Oper->Tf->Hf->Nat->Tf->Hf->Nat->List St->Prop
 |nil {i prev T F nx}:DT E nt W ops base i prev [] T F nx T F nx prev
 |cons {i prev o l T F nx s nx1 T' F' nx' out} (c:Cnd E nt W ops base i prev o T F nx s nx1) (h:DT E nt W ops base (i+1) (s::prev) l (fO T s.u.dst s.u.v) (ir s.u.D s.u.H F) nx1 T' F' nx' out):DT E nt W ops base i prev (o::l) T F nx T' F' nx' out
theorem EZ (U:Nat->Stp) (i j:Nat) (s:DS):stP U (List.range' i (j+1)) (fun _=>true) s=stP U (List.range' (i+1) j) (fun _=>true) (s.app (U i)):=by
 simp[stP,List.range'_succ]
theorem DT.steps {i:Nat} {prev:List St} {l:List Oper} {T:Tf} {F:Hf} {nx:Nat} {T':Tf} {F':Hf} {nx':Nat} {out:List St} (h:DT E nt W ops base i prev l T F nx T' F' nx' out):prev.length=i->
  out.length=i+l.length/\(∃new,out=new++prev)/\∃NX:Nat->Nat,NX i=nx/\NX (i+l.length)=nx'/\
   (∀j o,l[j]? =some o->∃s,out.reverse[i+j]? =some s/\Cnd E nt W ops base (i+j) (out.drop (out.length-(i+j))) o (stP (fun x=>(out.reverse.getD x default).u) (List.range' i j) (fun _=>true) ⟨T,F⟩).T
    (stP (fun x=>(out.reverse.getD x default).u) (List.range' i j) (fun _=>true) ⟨T,F⟩).F (NX (i+j)) s (NX (i+j+1)))/\
   (⟨T',F'⟩:DS)=stP (fun x=>(out.reverse.getD x default).u) (List.range' i l.length) (fun _=>true) ⟨T,F⟩:=by
 induction h with
 |nil=>
  intro hp;exact ⟨by simpa using hp,⟨[],rfl⟩,fun _=>_,rfl,rfl,by simp,by simp[stP]⟩
 | @cons i prev o l T F nx s nx1 T' F' nx' out c h ih=>
  intro hp;obtain ⟨q1,⟨new,q2⟩,NX,q3,q4,q5,q6⟩:=ih (by simp[hp])
  have hsi:out.reverse[i]? =some s:=by
   rw[q2];rw[List.reverse_append,List.reverse_cons,List.append_assoc,List.getElem?_append_right (by simp;omega)]
   simp[hp]
  have hU:(out.reverse.getD i default).u=s.u:=by rw[List.getD_eq_getElem?_getD,hsi];rfl
  have sN:(⟨T,F⟩:DS).app (out.reverse.getD i default).u=⟨fO T s.u.dst s.u.v,ir s.u.D s.u.H F⟩:=by rw[hU];rfl
  refine ⟨by simp;omega,⟨new++ [s],by simp[q2]⟩,fun k=>if k=i then nx else NX k,by simp,?_,?_,?_⟩
  ·simp only[List.length_cons];rw[if_neg (by omega)]
   rw[<-q4];congr 1;omega
  ·intro j o' ho;cases j with
   |zero=>
    simp at ho;subst ho;refine ⟨s,by simpa using hsi,?_⟩
    have e1:(if i+0+1=i then nx else NX (i+0+1))=nx1:=by rw[if_neg (by omega)];exact q3
    have e2:(if i+0=i then nx else NX (i+0))=nx:=by simp
    have e3:out.drop (out.length-(i+0))=prev:=by
     rw[q2];have:(new++s::prev).length-(i+0)=(new++ [s]).length:=by simp;omega
     rw[this,show new++s::prev=(new++ [s])++prev from by simp]
     simp
    simp only[e1,e2,e3];exact c
   |succ j=>
    simp at ho;obtain ⟨s',r1,r2⟩:=q5 j o' ho;refine ⟨s',by rw[<-r1];congr 1;omega,?_⟩
    have a1:i+(j+1)=i+1+j:=by omega
    rw[EZ,sN,a1];simp only[if_neg (show ¬i+1+j=i by omega),if_neg (show ¬i+1+j+1=i by omega)]
    exact r2
  ·rw[List.length_cons,EZ,sN];exact q6
theorem No {p r:Oper} (h:s9 ops.toList p r=true):(∀t,p.dst=some t->t∉r.looksAt ops)/\(∀t,r.dst=some t->t∉p.looksAt ops)/\∀t,p.dst=some t->r.dst≠some t:=by
 unfold s9 at h;rw[Bool.and_eq_true,Bool.and_eq_true,Ky,Ky] at h;obtain ⟨h1,h2,h3⟩:=h;refine ⟨fun t ht=>jY h1 t (by simp[ht]),fun t ht=>jY h2 t (by simp[ht]),fun t ht hr=>jY h3 t (by simp[ht]) (by simp[hr])⟩
theorem yX {T T':Tf} {F F':Hf} {nx nx':Nat} {out:List St} {l0:List Oper} (hs:nh ops.size ops.toList ops.toList 0 0 []=true) (uB:E.P.follows .mixedOrders=true) (hpre:ops.toList.take l0.length=l0) (hdt:DT E nt ops.size ops base 0 [] l0 T F nx T' F' nx' out) (hbn:base<=nx)
  {ro:Option Nat} {a:Act} {id m:Nat} {Q:Exit->Act->World->Prop} (hE:bC E g) (hfr:FR g nt T a.tmps) (hr:HR g F w) (eX:∀x,base<=x->g.ρ x=none)
  (sL:l0.length=ops.size\/(l0.length+1=ops.size/\(∀d∈direct ops l0.length,d<l0.length)/\(∀j,j<l0.length->j∈anc ops ops.size l0.length)/\∀(g':Gh) (a':Act) (w':World) (K:Act->World->Prop),bC E g'->FR g' nt T' a'.tmps->HR g' F' w'->Fr g F w g' F' w'->a'.defers=a.defers->
   (∀x,x<base->g'.ρ x=g.ρ x)->(∀x,nx'<=x->g'.ρ x=none)->wpOpIn (fro ro) m E.P ops Q l0.length K a' w'))
  (hq:l0.length=ops.size->∀g' a' w',FR g' nt T' a'.tmps->HR g' F' w'->Fr g F w g' F' w'->a'.defers=a.defers->(∀x,x<base->g'.ρ x=g.ρ x)->(∀x,nx'<=x->g'.ρ x=none)->Q .normal a' w'):(Code.region id ops true).wpIn (fro ro) m E.P Q a w:=by
 obtain ⟨ol,_,NX,n0,n1,cnd,fin⟩:=hdt.steps rfl;simp only[Nat.zero_add] at ol n1 cnd fin;have hnn:l0.length<=ops.size:=by rcases sL with h|h<;>omega
 have hop:∀j (hj:j<l0.length),l0[j]? =some (ops[j]'(by omega)):=by
  intro j hj;have h1:(ops.toList.take l0.length)[j]? =some (ops[j]'(by omega)):=by
   rw[List.getElem?_take,if_pos hj];simp[show j<ops.size by omega]
  rw[hpre] at h1;exact h1
 let S:Nat->St:=fun x=>out.reverse.getD x default
 have hS:∀j (hj:j<l0.length),Cnd E nt ops.size ops base j (out.drop (out.length-j)) (ops[j]'(by omega)) (stP (fun x=>(S x).u) (List.range' 0 j) (fun _=>true) ⟨T,F⟩).T (stP (fun x=>(S x).u) (List.range' 0 j) (fun _=>true) ⟨T,F⟩).F (NX j) (S j) (NX (j+1)):=by
  intro j hj;obtain ⟨s,r1,r2⟩:=cnd j (ops[j]'(by omega)) (hop j hj)
  have:S j=s:=by simp only[S,List.getD_eq_getElem?_getD,r1];rfl
  rw[this];exact r2
 have aiN:∀d j,j+d<=l0.length->NX j<=NX (j+d):=by
  intro d;induction d with
  |zero=>intro j _;exact Nat.le_refl _
  |succ d ih=>intro j hj;exact Nat.le_trans (ih j (by omega)) ((hS (j+d) (by omega)).oO)
 have BF:∀j k,j<=k->k<=l0.length->NX j<=NX k:=fun j k h1 h2=>by
  have:=aiN (k-j) j (by omega)
  rwa[show j+(k-j)=k by omega] at this
 have jV:∀i j,i<j->j<l0.length->S i∈out.drop (out.length-j):=by
  intro i j hij hj;have hi:i<out.reverse.length:=by simp;omega
  have e:out.drop (out.length-j)=(out.reverse.take j).reverse:=by
   rw[List.take_reverse];simp
  rw[e,List.mem_reverse,List.mem_take_iff_getElem];refine ⟨i,by simp;omega,?_⟩
  simp only[S,List.getD_eq_getElem?_getD,List.getElem?_eq_getElem hi,Option.getD_some]
 have adr:∀i j,i<j->j<l0.length->i∈anc ops ops.size j\/(dM (S j).m i=false/\Cf (S i).rc (S j).rc/\∀p r,ops[i]? =some p->ops[j]? =some r->s9 ops.toList p r=true):=by
  intro i j hij hj;have ci:=hS i (by omega)
  have cj:=hS j hj;by_cases ha:i∈anc ops ops.size j
  ·exact .inl ha
  ·have hb:dM (S j).m i=false:=by
    cases hb:dM (S j).m i with
    |false=>rfl
    |true=>exact absurd (rm _ _ _ (by omega) i (cj.anc i hb)) ha
   refine .inr ⟨hb,?_,fun p r hp hr=> ?_⟩
   ·rcases cj.ind (S i) (jV i j hij hj) with h|h
    ·rw[ci.rci,hb] at h;simp at h
    ·exact h
   ·rcases vE ops.toList 0 0 [] hs (by simp) (by simp) (fun p hp=>by simp at hp) j (Nat.zero_le _) (by omega) i hij p r hp hr with h|h
    ·exact absurd (rm _ _ _ (by omega) i h) ha
    ·exact h
 have ZQ:∀j,l0.length<=j->S j=default:=by
  intro j hj;show out.reverse.getD j default=default;rw[List.getD_eq_getElem?_getD,List.getElem?_eq_none (by simp;omega)]
  rfl
 have hno:∀(g':Gh) x,(x<base\/nx'<=x)->(∀y,g'.ρ y≠g.ρ y->∃k,k<l0.length/\(S k).newp y)->g'.ρ x=g.ρ x:=by
  intro g' x hx hy;by_cases he:g'.ρ x=g.ρ x
  ·exact he
  ·exfalso;obtain ⟨i,hi,hn⟩:=hy x he;have ci:=hS i hi;have hbi:=ci.base;have hm0:=BF 0 i (by omega) (by omega)
   have hm1:=BF (i+1) l0.length (by omega) (Nat.le_refl _)
   have hm2:=ci.oO;rw[n0] at hm0;rw[n1] at hm1;cases hci:(S i).rc.call with
   |false=>obtain ⟨_,_,_,_,_,e1⟩:=ci.smp hci;have:=e1 x hn;omega
   |true=>obtain ⟨_,_,_,_,e1⟩:=ci.cal hci;have:=e1 x hn;omega
 have hmm:=BF 0 l0.length (by omega) (Nat.le_refl _)
 rw[n0,n1] at hmm;refine RL (S:=fun i=>l0.length<=i) (s0:=⟨T,F⟩) (U:=fun x=>(S x).u) (need:=fun i=>(S i).need) (frp:=fun i=>(S i).frp) (newp:=fun i=>(S i).newp) uB (fun i hi hns=>⟨(hS i (by omega)).dst,(hS i (by omega)).step ro⟩) (fun j hj=> ?_) ?_ hE hfr hr ?_ ?_ ?_
 ·by_cases hjn:l0.length<=j
  ·rcases sL with he|⟨he,h1,h2,_⟩
   ·omega
   ·have e:j=l0.length:=by omega
    subst e;exact ⟨h1,fun i hij=>.inl (h2 i hij)⟩
  have hj0:=hj;have hj:j<l0.length:=by omega
  refine ⟨fun i hi=> ?_,fun i hij=> ?_⟩
  ·rw[wN (Array.getElem?_eq_getElem hj0)] at hi;exact (hS j hj).lt i hi
  rcases adr i j hij hj with h|⟨hb,hI,hsl⟩
  ·exact .inl h
  ·have hi':i<l0.length:=by omega
   have hi0:i<ops.size:=by omega
   have ci:=hS i hi';have cj:=hS j hj;have hbi:=ci.base;have hbj:=cj.base;obtain ⟨t1,t2,t3⟩:=No (hsl ops[i] ops[j] (Array.getElem?_eq_getElem hi0) (Array.getElem?_eq_getElem hj0));refine .inr ⟨fun t ht o ho=> ?_,fun t ht o ho=> ?_,fun t ht=> ?_,fun x hx=> ?_,fun x hx=> ?_,fun x hx=> ?_⟩
   ·rw[Array.getElem?_eq_getElem hj0] at ho;cases ho;exact t1 t (by rw[<-ci.dst];exact ht)
   ·rw[Array.getElem?_eq_getElem hi0] at ho;cases ho;exact t2 t (by rw[<-cj.dst];exact ht)
   ·rw[cj.dst];exact t3 t (by rw[<-ci.dst];exact ht)
   ·cases hd:(S j).u.D x with
    |false=>rfl
    |true=>
     exfalso;rcases (ci.D x).1 hx with h1|h1<;>rcases (cj.D x).1 hd with h2|h2
     ·exact hI.b3 x h1 h2
     ·rcases hI.a4 x h1 with h|h<;>omega
     ·rcases hI.a2 x h2 with h|h<;>omega
     ·cases hci:(S i).rc.call with
      |false=>
       obtain ⟨e1,e2,_⟩:=ci.smp hci;cases hcj:(S j).rc.call with
       |false=>obtain ⟨e3,e4,_⟩:=cj.smp hcj;omega
       |true=>obtain ⟨e3,e4,_⟩:=cj.cal hcj;omega
      |true=>
       obtain ⟨e1,e2,_⟩:=ci.cal hci;obtain ⟨e3,_⟩:=hI.c1 hci;obtain ⟨e4,e5,_⟩:=cj.smp e3;omega
   ·cases hd:(S i).u.D x with
    |false=>rfl
    |true=>
     exfalso;cases hcj:(S j).rc.call with
     |false=>
      obtain ⟨_,_,_,e,_⟩:=cj.smp hcj;rcases (ci.D x).1 hd with h1|h1
      ·exact hI.b2 x (e x hx) h1
      ·rcases hI.a1 x (e x hx) with h|h<;>omega
     |true=>
      obtain ⟨_,_,e,_⟩:=cj.cal hcj;obtain ⟨k1,k2⟩:=hI.c2 hcj;obtain ⟨e1,e2,_⟩:=ci.smp k1;rcases (ci.D x).1 hd with h1|h1
      ·rw[k2] at h1;simp at h1
      ·exact (e x hx).2 (S i) (jV i j hij hj) (by rw[ci.rci];exact hb) (by omega)
   ·cases hd:(S j).u.D x with
    |false=>rfl
    |true=>
     exfalso;cases hci:(S i).rc.call with
     |false=>
      obtain ⟨_,_,_,e,_⟩:=ci.smp hci;rcases (cj.D x).1 hd with h1|h1
      ·exact hI.b1 x (e x hx) h1
      ·rcases hI.a3 x (e x hx) with h|h<;>omega
     |true=>
      obtain ⟨_,_,e,_⟩:=ci.cal hci;obtain ⟨k1,k2⟩:=hI.c1 hci;obtain ⟨e1,e2,_⟩:=cj.smp k1;rcases (cj.D x).1 hd with h1|h1
      ·rw[k2] at h1;simp at h1
      ·exact ci.bd x (e x hx).1 ⟨by omega,by omega⟩
 ·intro i k hi hk hne x hx hn;by_cases hil:l0.length<=i
  ·have hx:(S i).frp x:=hx;rw[ZQ i hil] at hx;exact hx.elim
  by_cases hkl:l0.length<=k
  ·have hn:(S k).newp x:=hn;rw[ZQ k hkl] at hn;exact hn.elim
  have hi:i<l0.length:=by omega
  have hk:k<l0.length:=by omega
  have ci:=hS i hi;have ck:=hS k hk;have hbi:=ci.base;have hbk:=ck.base;cases hci:(S i).rc.call with
  |false=>
   obtain ⟨_,_,_,_,e1,_⟩:=ci.smp hci;have:=e1 x hx;cases hck:(S k).rc.call with
   |false=>obtain ⟨_,_,_,_,_,e2⟩:=ck.smp hck;have:=e2 x hn;omega
   |true=>obtain ⟨_,_,_,_,e2⟩:=ck.cal hck;have:=e2 x hn;omega
  |true=>
   obtain ⟨_,_,_,e1,_⟩:=ci.cal hci;have h1:=e1 x hx;cases hck:(S k).rc.call with
   |false=>obtain ⟨_,_,_,_,_,e2⟩:=ck.smp hck;have:=e2 x hn;omega
   |true=>
    obtain ⟨_,_,_,_,e2⟩:=ck.cal hck;have h2:=e2 x hn;rcases Nat.lt_or_gt_of_ne hne with hlt|hgt
    ·rcases adr i k hlt hk with h|⟨_,hI,_⟩
     ·exact h
     ·have:=(hI.c1 hci).1;rw[hck] at this;simp at this
    ·have:=BF (k+1) i (by omega) (by omega)
     omega
 ·intro i hi x hx;by_cases hil:l0.length<=i
  ·have hx:(S i).frp x:=hx;rw[ZQ i hil] at hx;exact hx.elim
  have hi:i<l0.length:=by omega
  have ci:=hS i hi;have hbi:=ci.base;cases hci:(S i).rc.call with
  |false=>obtain ⟨_,_,_,_,e1,_⟩:=ci.smp hci;exact eX x (by have:=e1 x hx;omega)
  |true=>obtain ⟨_,_,_,e1,_⟩:=ci.cal hci;exact eX x (by have:=e1 x hx;omega)
 ·intro i hi hSi;rcases sL with he|⟨he,_,h2,h3⟩
  ·have hSi:l0.length<=i:=hSi;omega
  ·have hSi:l0.length<=i:=hSi;have e:i=l0.length:=by omega
   subst e;refine ⟨he,h2,fun g1 a1 w1 K q1 q2 q3 q4 q5 q6=> ?_⟩
   have Lf:(⟨T',F'⟩:DS)=stP (fun x=>(S x).u) (List.range' 0 l0.length) (fun _=>true) ⟨T,F⟩:=fin
   rw[<-Lf] at q2 q3 q4;exact h3 g1 a1 w1 K q1 q2 q3 q4 q5 (fun x hx=>hno g1 x (.inl hx) q6) (fun x hx=>by rw[hno g1 x (.inr hx) q6];exact eX x (by omega))
 ·intro hns g' a' w' h1 h2 h3 h4 h5;have he:l0.length=ops.size:=by
   rcases sL with he|⟨he,_⟩
   ·exact he
   ·exact absurd (Nat.le_refl _) (hns l0.length (by omega))
  have Lf:(⟨T',F'⟩:DS)=stP (fun x=>(S x).u) (List.range' 0 ops.size) (fun _=>true) ⟨T,F⟩:=by rw[<-he];exact fin
  rw[<-Lf] at h1 h2 h3;have h5':∀y,g'.ρ y≠g.ρ y->∃k,k<l0.length/\(S k).newp y:=by
   intro y hy;apply Classical.byContradiction;intro hc;exact hy (h5 y (fun i hi hn=>hc ⟨i,by omega,hn⟩))
  exact hq he g' a' w' h1 h2 h3 h4 (fun x hx=>hno g' x (.inl hx) h5') (fun x hx=>by rw[hno g' x (.inr hx) h5'];exact eX x (by omega))
end
section
variable {E:Env} {g:Gh} {f:Hf} {w:World} {T:Tf}
def lA (f:Hf) (new:Nat) (us:List Up):Prop:=∀u∈us,u.1=new\/f u.1≠none
theorem keys_nil {new:Nat}:lA f new []:=fun u hu=>by simp at hu
theorem jl {new:Nat} {o:Option SO}:lA f new [(new,o)]:=fun u hu=>by simp at hu;subst hu;exact .inl rfl
theorem qE {new id:Nat} {o:Option SO} (h:f id≠none):lA f new [(id,o)]:=fun u hu=>by simp at hu;subst hu;exact .inr h
theorem Nn {new:Nat} {t:TypeId} {v a:SV} {us:List Up} (h:iW E f t v a=some us):lA f new us:=by
 obtain ⟨q,h1,h⟩:=ae h;obtain ⟨i,xs,p,_,_,hp,h⟩:=pH h;obtain ⟨_,h⟩:=ar h;cases h;exact qE (by rw[kb hp];simp)
theorem EV {new:Nat} {t:TypeId} {x k v:SV} {us:List Up} (h:lV E f t x k v=some us):lA f new us:=by
 obtain ⟨id,_,h⟩:=ae h;obtain ⟨i,_,h⟩:=ae h;obtain ⟨q,_,h⟩:=ae h;obtain ⟨ik,p,_,hp,h⟩:=av h;obtain ⟨_,h⟩:=ar h;obtain ⟨r,_,h⟩:=ae h;cases h;exact qE (by rw[oo hp];simp)
theorem L3 {new:Nat} {t:TypeId} {s x v:SV} {us:List Up} (h:fK E f new t s x=some (v,us)):lA f new us:=by
 obtain ⟨i,_,h⟩:=ae h;obtain ⟨e,_,h⟩:=ae h;obtain ⟨ie,_,h⟩:=ae (show ai (E.ty.get e) _=some (v,us) from h);obtain ⟨_,h⟩:=ar h;obtain ⟨q,_,h⟩:=ae h;obtain ⟨_,h⟩:=ar h;rw[aA] at h;split at h
 ·obtain ⟨_,h⟩:=ar h;cases h;exact keys_nil
 ·cases s with
  |aT=>cases (show some (SV.sl new 0 q.1 (.u e),[(new,some (SO.cells e q.2))])=some (v,us) from h);exact jl
  |sl id off n cap=>
   obtain ⟨_,h⟩:=ar (show sel (Nat.ble n 1000000) (sel (Gu n q.1 cap) (ai (eT f id off (Nat.mul n ie.size)) fun old=>mI new e (Nat.add n q.1) (old++q.2) []) (aC (j4 (f id)) (eT f id off (Nat.mul n ie.size)) fun p old=>xS new e ie.size id off n cap q.1 q.2 p old)) none=some (v,us) from h)
   rw[aA] at h;split at h
   ·obtain ⟨old,_,h⟩:=ae h;cases h;exact jl
   ·obtain ⟨p,old,hp,_,h⟩:=av h;have hf:f id≠none:=by rw[kb hp];simp
    cases cap with
    |k c=>
     have h:sel (Nat.ble (Nat.add n q.1) c) (sel (Nat.ble (Nat.add off (Nat.mul (Nat.add n q.1) ie.size)) p.2.length) (some (SV.sl id off (Nat.add n q.1) (.k c),[(id,some (SO.cells p.1 (bH p.2 (Nat.add off (Nat.mul n ie.size)) q.2)))])) none)
      (mI new e (Nat.add n q.1) (old++q.2) [])=some (v,us):=h
     rw[aA] at h;split at h
     ·obtain ⟨_,h⟩:=ar h;cases h;exact qE hf
     ·cases h;exact jl
    |u e0=>
     obtain ⟨_,h⟩:=ar (show sel (Nat.ble (Nat.add off (Nat.mul n ie.size)) p.2.length&&Nat.beq e p.1) (mI new e (Nat.add n q.1) (old++q.2) [(id,none)]) none=some (v,us) from h);cases h;intro u hu;simp at hu;rcases hu with rfl|rfl
     ·exact .inr hf
     ·exact .inl rfl
  |_=>cases h
theorem RV {new:Nat} {t:TypeId} {d s v:SV} {us:List Up} (h:ku E f t d s=some (v,us)):lA f new us:=by
 obtain ⟨i,_,h⟩:=ae h;obtain ⟨e,_,h⟩:=ae h;obtain ⟨ie,_,h⟩:=ae (show ai (E.ty.get e) _=some (v,us) from h);obtain ⟨_,h⟩:=ar h;obtain ⟨nd,q,_,_,h⟩:=av h;cases d with
 |sl id off n cap=>
  obtain ⟨p,hp,h⟩:=ae (show ai (j4 (f id)) (fun p=>sel (Nat.ble (Nat.add off (Nat.mul (sel (Nat.ble q.1 nd) q.1 nd) ie.size)) p.2.length) (some (SV.int .i64 (.lit (.ofNat (sel (Nat.ble q.1 nd) q.1 nd))),[(id,some (SO.cells p.1 (bH p.2 off (q.2.take (Nat.mul (sel (Nat.ble q.1 nd) q.1 nd) ie.size)))))])) none)=some (v,us) from h)
  obtain ⟨_,h⟩:=ar h;cases h;exact qE (by rw[kb hp];simp)
 |aT=>cases (show some (SV.int .i64 (.lit (.ofNat (sel (Nat.ble q.1 nd) q.1 nd))),([]:List Up))=some (v,us) from h);exact keys_nil
 |sle=>cases (show some (SV.int .i64 (.lit (.ofNat (sel (Nat.ble q.1 nd) q.1 nd))),([]:List Up))=some (v,us) from h);exact keys_nil
 |_=>cases h
theorem dU {new:Nat} {r:Option SV} {v:SV} {us:List Up} (h:same r=some (v,us)):lA f new us:=by
 obtain ⟨z,_,h⟩:=ae h;cases h;exact keys_nil
theorem Ki {op:Op} {new:Nat} {v:SV} {us:List Up} (ho:opA E op T f new=some (v,us)):lA f new us:=by
 cases op with
 |move x=>
  obtain ⟨y,hy,ho⟩:=ae (show ai (aI T x) (fun v=>some (v,([]:List Up)))=some (v,us) from ho)
  cases ho;exact keys_nil
 |assign x=>
  obtain ⟨y,hy,ho⟩:=ae (show ai (aI T x) (fun v=>some (v,([]:List Up)))=some (v,us) from ho)
  cases ho;exact keys_nil
 |pick c x y=>
  obtain ⟨cv,hc,ho⟩:=ae (show ai (aI T c) (fun v=>ai (iC v) fun b=>one T (sel b x y) fun v=>some (v,([]:List Up)))=some (v,us) from ho)
  obtain ⟨b,hb,ho⟩:=ae ho;obtain ⟨z,hz,ho⟩:=ae ho;cases ho;exact keys_nil
 |alloc e=>
  obtain ⟨i,hi,ho⟩:=ae (show ai (E.ty.get e) (fun i=>some (SV.ptr new 0,[(new,some (SO.cells e i.zero))]))=some (v,us) from ho)
  cases ho;exact jl
 |box e x=>
  obtain ⟨y,hy,ho⟩:=ae (show ai (aI T x) (xw new e)=some (v,us) from ho);obtain ⟨cs,hc,ho⟩:=ae ho;cases ho;exact jl
 |build t parts=>
  obtain ⟨pcs,hpc,ho⟩:=ae (show ai (eE T parts.toList) (fun pcs=>same (oG E t pcs))=some (v,us) from ho)
  exact dU ho
 |buildSlice t len parts=>
  obtain ⟨pcs,hpc,ho⟩:=ae (show ai (eE T parts.toList) (fun pcs=>iq E new t len pcs)=some (v,us) from ho)
  obtain ⟨i,hi,ho⟩:=ae ho;obtain ⟨e,he,ho⟩:=ae ho;obtain ⟨ie,hie,ho⟩:=ae ho;obtain ⟨hc,ho⟩:=ar ho;obtain ⟨cs,hf,ho⟩:=ae ho;cases ho;exact jl
 |insert t m k x=>
  obtain ⟨y1,y2,h1,h2,ho⟩:=av (show aC (aI T m) (aI T k) (fun a b=>one T x fun c=>unit (lV E f t a b c))=some (v,us) from ho)
  obtain ⟨y3,h3,ho⟩:=ae ho;obtain ⟨us',hu,ho⟩:=ae ho;cases ho;exact EV hu
 |mapUpdate t m k x=>
  obtain ⟨y1,y2,h1,h2,ho⟩:=av (show aC (aI T m) (aI T k) (fun a b=>one T x fun c=>unit (lV E f t a b c))=some (v,us) from ho)
  obtain ⟨y3,h3,ho⟩:=ae ho;obtain ⟨us',hu,ho⟩:=ae ho;cases ho;exact EV hu
 |load t x=>
  obtain ⟨y,hy,ho⟩:=ae (show ai (aI T x) (fun v=>same (iE E f t v))=some (v,us) from ho)
  exact dU ho
 |store t x y=>
  obtain ⟨y1,y2,h1,h2,ho⟩:=av (show aC (aI T x) (aI T y) (fun a v=>unit (iW E f t v a))=some (v,us) from ho)
  obtain ⟨us',hu,ho⟩:=ae ho;cases ho;exact Nn hu
 |nilCheck x=>
  obtain ⟨y,hy,ho⟩:=ae (show ai (aI T x) (fun v=>same (Bb v))=some (v,us) from ho)
  exact dU ho
 |binOp op t x y yt=>
  obtain ⟨y1,y2,h1,h2,ho⟩:=av (show aC (aI T x) (aI T y) (fun v u=>same (sS E op t x y v u))=some (v,us) from ho)
  exact dU ho
 |unOp op t x=>
  obtain ⟨y,hy,ho⟩:=ae (show ai (aI T x) (fun v=>same (unA op v))=some (v,us) from ho)
  exact dU ho
 |convert s d x=>
  obtain ⟨y,hy,ho⟩:=ae (show ai (aI T x) (fun v=>same (BW E s d v))=some (v,us) from ho)
  exact dU ho
 |makeInterface t x=>
  obtain ⟨y,hy,ho⟩:=ae (show ai (aI T x) (A5 E t)=some (v,us) from ho);obtain ⟨i,hi,ho⟩:=ae ho;rw[aA] at ho;split at ho
  ·cases ho
  ·cases ho;exact keys_nil
 |makeFunc fn first dr=>
  obtain ⟨hok,ho⟩:=ar (show sel (DQ fn) (aC (bE T first.toList) (bE T dr.toList) fun l m=>some (SV.fn fn l m,([]:List Up))) none=some (v,us) from ho)
  obtain ⟨l,m,h1,h2,ho⟩:=av ho;cases ho;exact keys_nil
 |makeMap t r=>
  cases r with
  |none=>cases (show some (SV.mp new,[(new,some (SO.map [] 0))])=some (v,us) from ho);exact jl
  |some x=>
   obtain ⟨i,y,hi,hy,ho⟩:=av (show aC (E.ty.get t) (aI T x) (fun i v=>aC (qB i.desc) (fu v) fun _ _=>Be new)=some (v,us) from ho)
   obtain ⟨q,n,hq,wh,ho⟩:=av ho;cases ho;exact jl
 |makeSlice t l c=>
  obtain ⟨y1,y2,h1,h2,ho⟩:=av (show aC (aI T l) (aI T c) (fun u v=>aC (fu u) (fu v) (qu E new t))=some (v,us) from ho)
  obtain ⟨n1,n2,k1,k2,ho⟩:=av ho;obtain ⟨i,hi,ho⟩:=ae ho;obtain ⟨e,he,ho⟩:=ae ho;obtain ⟨ie,hie,ho⟩:=ae ho;obtain ⟨hc,ho⟩:=ar ho;cases ho;exact jl
 |slice t x lo hi mx=>
  obtain ⟨y,hy,ho⟩:=ae (show ai (aI T x) (fun v=>pI (dE T lo) (dE T hi) (dE T mx) fun l u m=>same (qn E t v l u m))=some (v,us) from ho)
  obtain ⟨l,u,m,h1,h2,h3,ho⟩:=pH ho;exact dU ho
 |fieldAddr s x k=>
  obtain ⟨y,hy,ho⟩:=ae (show ai (aI T x) (jk E s k)=some (v,us) from ho);obtain ⟨i,p,hi,hp,ho⟩:=av ho;obtain ⟨fs,hfs,ho⟩:=ae ho;obtain ⟨fl,hfl,ho⟩:=ae ho;obtain ⟨fi,hfi,ho⟩:=ae ho;obtain ⟨hc,ho⟩:=ar ho;cases ho;exact keys_nil
 |field t x k=>
  obtain ⟨y,hy,ho⟩:=ae (show ai (aI T x) (nk E t k)=some (v,us) from ho);obtain ⟨i,cs,hi,hp,ho⟩:=av ho;obtain ⟨fs,hfs,ho⟩:=ae ho;obtain ⟨fl,hfl,ho⟩:=ae ho;obtain ⟨fi,hfi,ho⟩:=ae ho;exact dU ho
 |indexAddr t x ix=>
  obtain ⟨y1,y2,h1,h2,ho⟩:=av (show aC (aI T x) (aI T ix) (fun v u=>ai (fu u) fun k=>same (g8 E t v k))=some (v,us) from ho)
  obtain ⟨n,wh,ho⟩:=ae ho;exact dU ho
 |index t x ix=>
  obtain ⟨y1,y2,h1,h2,ho⟩:=av (show aC (aI T x) (aI T ix) (fun v u=>ai (fu u) fun k=>j9 E t k v)=some (v,us) from ho)
  obtain ⟨n,wh,ho⟩:=ae ho;obtain ⟨i,hi,ho⟩:=ae ho;generalize i.desc=D at ho;cases D with
  |string=>
   obtain ⟨s,hs,ho⟩:=ae (show ai (strOf y1) (fun s=>ai (s.data.toList[n]?) fun b=>some (SV.int .u8 (.lit (.ofNat b.toNat)),([]:List Up)))=some (v,us) from ho)
   obtain ⟨b,hb,ho⟩:=ae ho;cases ho;exact keys_nil
  |array m e=>
   obtain ⟨cs,ie,hcs,hie,ho⟩:=av (show aC (uY y1) (E.ty.get e) (fun cs ie=>sel (Nat.ble (Nat.succ n) m) (same (cP ie cs (Nat.mul n ie.size))) none)=some (v,us) from ho)
   obtain ⟨hc,ho⟩:=ar ho;exact dU ho
  |_=>cases ho
 |lookup t x k ok=>
  obtain ⟨y1,y2,h1,h2,ho⟩:=av (show aC (aI T x) (aI T k) (fun a b=>same (ka E f t a b ok))=some (v,us) from ho)
  exact dU ho
 |range t x=>
  obtain ⟨y,hy,ho⟩:=ae (show ai (aI T x) (mq E f new t)=some (v,us) from ho);obtain ⟨i,hi,ho⟩:=ae ho;obtain ⟨q,hq,ho⟩:=ae ho;cases ho;exact jl
 |next it isS=>
  obtain ⟨y,hy,ho⟩:=ae (show ai (aI T it) (mF f isS)=some (v,us) from ho);obtain ⟨hs,ho⟩:=ar ho;obtain ⟨id,hid,ho⟩:=ae ho;obtain ⟨p,hp,ho⟩:=ae ho;have ho:some (iP id p)=some (v,us):=ho;unfold iP at ho;rw[aA] at ho;split at ho
  ·cases ho;exact qE (by rw[Br hp];simp)
  ·cases ho;exact keys_nil
 |typeAssert x xt t ok=>
  obtain ⟨y,hy,ho⟩:=ae (show ai (aI T x) (qv E t ok)=some (v,us) from ho);obtain ⟨i,hi,ho⟩:=ae ho;rw[aA] at ho;split at ho
  ·cases ho
  ·exact dU ho
 |extract x i=>
  obtain ⟨y,hy,ho⟩:=ae (show ai (aI T x) (fun v=>ai (Av v) fun vs=>same (vs[i]?))=some (v,us) from ho)
  obtain ⟨vs,hvs,ho⟩:=ae ho;exact dU ho
 |call c=>
  have ho:fc E T f new c=some (v,us):=ho;unfold fc at ho;split at ho
  ·rename_i b hb;obtain ⟨aa,has,ho⟩:=ae ho;cases b with
   |len=>
    obtain ⟨x,t,h1,h2,ho⟩:=av (show aC aa.head? c.argTypes.toList.head? (fun x t=>sel (Nat.beq aa.length 1) (ai (E.ty.get t) fun i=>same (nq i.desc x f)) none)=some (v,us) from ho)
    obtain ⟨hl,ho⟩:=ar ho;obtain ⟨i,hi,ho⟩:=ae ho;exact dU ho
   |append=>
    obtain ⟨p,q,h1,h2,ho⟩:=av (show aC (jC aa) (jC c.argTypes.toList) (fun p q=>ai (E.ty.get q.2) fun i=>sel (kf i.desc) (fK E f new q.1 p.1 p.2) none)=some (v,us) from ho)
    obtain ⟨i,hi,ho⟩:=ae ho;obtain ⟨hr,ho⟩:=ar ho;exact L3 ho
   |copy=>
    obtain ⟨p,t,h1,h2,ho⟩:=av (show aC (jC aa) c.argTypes.toList.head? (fun p t=>ku E f t p.1 p.2)=some (v,us) from ho)
    exact RV ho
   |min=>
    obtain ⟨p,h1,ho⟩:=ae (show ai (jC aa) (fun p=>same (zK E false p.1 p.2))=some (v,us) from ho)
    exact dU ho
   |max=>
    obtain ⟨p,h1,ho⟩:=ae (show ai (jC aa) (fun p=>same (zK E true p.1 p.2))=some (v,us) from ho)
    exact dU ho
   |_=>cases ho
  ·cases ho
 |_=>cases ho
end
section
variable {E:Env} {g:Gh} {f:Hf} {w:World}
def Bh (F:Fence) (n:Nat) (P:Program) (c:Code) (Q:Exit->Act->World->Prop) (a:Act) (w:World):Prop:=
 ∀(b:Frame) (k:List Item) (cs:List Frame),b.roundOf=F.round->F.fn b.fn->F.room (cs.length+1+n)->
  ∃e a' w',Q e a' w'/\ArrivesIn (Machine.fenced P F) P (lone (b.atR a (.code c:: .inLoop c::k)) cs w) b k cs e a' w'
def wpX (F:Fence) (n:Nat) (P:Program) (c:Code) (Q:Exit->Act->World->Prop) (a:Act) (w:World):Prop:=
 match c with
 | .loop b=>Bh F n P b Q a w
 |c=>c.wpIn F n P Q a w
inductive ExR (g:Gh):Ex->Exit->Prop
 |normal:ExR g .normal .normal
 |exit (id):ExR g (.exit id) (.exit id)
 |ret:ExR g .ret .ret
 |pan {v u} (h:VR g u v):ExR g (.pan v) (.panic [{v:=u,recovered:=false}])
inductive Marks (g:Gh):List Dm->List Deferred->Prop
 |nil:Marks g [] []
 |mark {d mk r o ds} (h:g.ρ d=some (r,o)) (ht:Marks g mk ds):Marks g (.mark d::mk) ({target:=.collected r,args:= #[]}::ds)
 |fn {k aa ca mk ds} {us cs:Array Value} (h1:VRs g us.toList aa) (h2:VRs g cs.toList ca) (ht:Marks g mk ds):Marks g (.fn k aa ca::mk) ({target:=.fn (.func k) cs,args:=us}::ds)
theorem Marks.mono {g g':Gh} (hle:g.le g'):∀{mk:List Dm} {ds:List Deferred},Marks g mk ds->Marks g' mk ds
 |_,_,.nil=>.nil
 |_,_,.mark h ht=>.mark (hle.ρ _ _ h) (ht.mono hle)
 |_,_,.fn h1 h2 ht=>.fn (h1.mono hle) (h2.mono hle) (ht.mono hle)
def Bd (h:Hs):Prop:=∀x,h.nx<=x->h.hp.get x=none
structure Fac (h h':Hs):Prop where
 nx:h.nx<=h'.nx
 bd:Bd h'
 lg:∀x,x<h.nx->x∉h'.lg->h'.hp.get x=h.hp.get x
 sub:∀x∈h.lg,x∈h'.lg
 dead:∀x,x<h.nx->h.hp.get x=none->h'.hp.get x=none
theorem Fac.refl {h:Hs} (hb:Bd h):Fac h h:=⟨Nat.le_refl _,hb,fun _ _ _=>rfl,fun _ h=>h,fun _ _ h=>h⟩
theorem Fac.trans {a b c:Hs} (h:Fac a b) (k:Fac b c):Fac a c:=
 ⟨Nat.le_trans h.nx k.nx,k.bd,fun x hx hn=>(k.lg x (Nat.lt_of_lt_of_le hx h.nx) hn).trans (h.lg x hx (fun hc=>hn (k.sub x hc))),fun x hx=>k.sub x (h.sub x hx),fun x hx hn=>k.dead x (Nat.lt_of_lt_of_le hx h.nx) (h.dead x hx hn)⟩
def gU (h:Hs) (mk mk':List Dm):Prop:=mk.length<=mk'.length/\∀x,Dm.mark x∈mk'->Dm.mark x∈mk\/h.nx<=x
theorem gU.refl (h:Hs) (mk:List Dm):gU h mk mk:=⟨Nat.le_refl _,fun _ hx=>.inl hx⟩
theorem gU.trans {h h1:Hs} {mk mk1 mk2:List Dm} (f1:h.nx<=h1.nx) (l1:gU h mk mk1) (l2:gU h1 mk1 mk2):gU h mk mk2:=
 ⟨Nat.le_trans l1.1 l2.1,fun x hx=>(l2.2 x hx).elim (l1.2 x) fun hx=>.inr (Nat.le_trans f1 hx)⟩
def Sn (nt:Nat) (g:Gh) (h:Hs) (w:World) (Q:Exit->Act->World->Prop) (o:Oc):Prop:=
 ∀g' a' w' x,ExR g' o.e x->FR g' nt o.tm.get a'.tmps->HR g' o.h.hp.get w'->Fr g h.hp.get w g' o.h.hp.get w'->Marks g' o.dm a'.defers->(∀x,o.h.nx<=x->g'.ρ x=none)->(∀x,x<h.nx->g'.ρ x=g.ρ x)->Q x a' w'
def dk (E:Env) (nt:Nat) (c:Code) (tm:Tr SV) (mk:List Dm) (h:Hs) (l:List Oc):Prop:=
 l≠ []/\(∀o∈l,Fac h o.h/\gU h mk o.dm)/\
 ∀(ro:Option Nat) (m:Nat) (g:Gh) (a:Act) (w:World) (Q:Exit->Act->World->Prop),codeOk c=true->(ro=none\/∀o∈l,o.dm.length=mk.length)->bC E g->FR g nt tm.get a.tmps->HR g h.hp.get w->Marks g mk a.defers->(∀x,h.nx<=x->g.ρ x=none)->
  (∀o∈l,Sn nt g h w Q o)->wpX (fro ro) m E.P c Q a w
def OpsS (E:Env) (nt:Nat) (ops:Array Oper) (l:List Oper) (tm:Tr SV) (mk:List Dm) (h:Hs) (r:List Oc):Prop:=
 r≠ []/\(∀o∈r,Fac h o.h/\gU h mk o.dm)/\
 ∀(ro:Option Nat) (m:Nat) (g:Gh) (a:Act) (w:World) (Q:Exit->Act->World->Prop),(ro=none\/∀o∈r,o.dm.length=mk.length)->bC E g->FR g nt tm.get a.tmps->HR g h.hp.get w->Marks g mk a.defers->(∀x,h.nx<=x->g.ρ x=none)->
  (∀o∈r,Sn nt g h w Q o)->wpOpsIn (fro ro) m E.P ops Q (List.range' (ops.size-l.length) l.length) a w
structure Sp (base i W:Nat) (h h':Hs):Prop where
 nx:h.nx<=h'.nx
 bd:Bd h'
 lg:∀x,x<h.nx->¬(base+i<=x/\x<base+W)->x∉h'.lg->h'.hp.get x=h.hp.get x
 sub:∀x∈h.lg,x∈h'.lg
 dead:∀x,x<h.nx->¬(base+i<=x/\x<base+W)->h.hp.get x=none->h'.hp.get x=none
structure CndP (E:Env) (nt:Nat) (ops:Array Oper) (i:Nat) (o:Oper) (T:Tf) (F:Hf) (nx:Nat) (v:SV) (H':Hf) (nx':Nat):Prop where
 last:i+1=ops.size
 op:ops[i]? =some o
 lt:∀d∈dB o,d<i
 anc:∀j,j<i->j∈anc ops ops.size i
 oO:nx<=nx'
 sem:∀(ro:Option Nat) (m:Nat) (g:Gh) (a:Act) (w:World) (Q:Exit->Act->World->Prop) (K:Act->World->Prop),bC E g->FR g nt T a.tmps->HR g F w->(∀x,nx<=x->g.ρ x=none)->
  (∀u w' g',VR g' u v->HR g' H' w'->Fr g F w g' H' w'->(∀x,x<nx->g'.ρ x=g.ρ x)->(∀x,nx'<=x->g'.ρ x=none)->Q (.panic [{v:=u,recovered:=false}]) a w')->wpOpIn (fro ro) m E.P ops Q i K a w
def Sound (E:Env):Job->Out->Prop
 | .code nt c tm mk h,.aS l=>Bd h->dk E nt c tm mk h l
 | .ops nt all l tm mk h,.aS r=>∀ops:Array Oper,ops.toList=all->ops.toList.drop (ops.size-l.length)=l->Bd h->OpsS E nt ops l tm mk h r
 | .draw nt W all base i M prev l tm h,.st tm' h'=>∀ops:Array Oper,ops.toList=all->W=ops.size->ops.toList.drop i=l->base+W<=h.nx->Bd h->(∀x,h.hp.get x≠none->¬(base+i<=x/\x<base+W))->sW ops W M i->(∀p∈prev,p.call=false->p.hi=p.lo+1/\p.lo<base+W)->
   ∀ps:List St,ps.map (·.rc)=prev->Sp base i W h h'/\∃out,DT E nt W ops base i ps l tm.get h.hp.get h.nx tm'.get h'.hp.get h'.nx out
 | .draw nt W all base i M prev l tm h,.aS r=>∀ops:Array Oper,ops.toList=all->W=ops.size->ops.toList.drop i=l->base+W<=h.nx->Bd h->(∀x,h.hp.get x≠none->¬(base+i<=x/\x<base+W))->sW ops W M i->(∀p∈prev,p.call=false->p.hi=p.lo+1/\p.lo<base+W)->
   ∀ps:List St,ps.map (·.rc)=prev->∃v tm' dm h',r= [⟨.pan v,tm',dm,h'⟩]/\Sp base i W h h'/\∃l0 o out F1 nx1,l=l0++ [o]/\DT E nt W ops base i ps l0 tm.get h.hp.get h.nx tm'.get F1 nx1 out/\CndP E nt ops (i+l0.length) o tm'.get F1 nx1 v h'.hp.get h'.nx
 | .call fv aa h,.bX l=>Bd h->l≠ []/\(∀r∈l,Fac h r.h)/\kK E fv aa h.hp.get h.nx l
 |_,_=>True
structure L9 (w w':World):Prop where
 os:w'.os=w.os
 tape:w'.tape=w.tape
 output:w'.output=w.output
 size:w.heap.size<=w'.heap.size
 heap:∀b,b<w.heap.size->w'.heap[b]? =w.heap[b]?
def GoFn (P:Program) (k:FuncId):Prop:=∃fn,P.funcs[k]? =some fn/\fn.body.isSome=true/\fn.name≠ "runtime.NumGoroutine"
def Cl (P:Program) (k:FuncId) (v:SV):Prop:=
 GoFn P k/\∀m w,CallsIn Fence.wide m P k #[] w fun e w'=>∃r,e= .returned r/\(∀g,VR g r v)/\L9 w w'
structure kM (E:Env):Prop where
 fn:∀k fn,E.fn.get k=some fn->E.P.funcs[k]? =some fn/\Ro fn=true
 ext:∀k fn,E.fn.get k=some fn->fn.body=none->(fn.name== "internal/bytealg.abigen_runtime_cmpstring")=true->Extern.findNext fn=none/\Extern.find fn=some Extern.BytealgCompare.compare
 mix:E.P.follows .mixedOrders=true
 done:∀k v,jn E k []=some v->Cl E.P k v
theorem Sl {a b:Out} {r:List Oc} (h:L4 a b= .aS r):∃x y,a= .aS x/\b= .aS y/\r=x++y:=by
 cases a<;>cases b<;>first|(cases h;done)|(cases h;exact ⟨_,_,rfl,rfl,rfl⟩)
theorem X1 {a b:Out} {r:List Rs} (h:L4 a b= .bX r):∃x y,a= .bX x/\b= .bX y/\r=x++y:=by
 cases a<;>cases b<;>first|(cases h;done)|(cases h;exact ⟨_,_,rfl,rfl,rfl⟩)
theorem kW {α:Type} {k:α->Out}:∀{l:List α} {r:List Oc},me k l= .aS r->l≠ []/\(∀o∈l,∃r',k o= .aS r'/\∀x∈r',x∈r)/\∀x∈r,∃o∈l,∃r',k o= .aS r'/\x∈r'
 | [],r,h=>by cases h
 | [o],r,h=>by
  have h:k o= .aS r:=h;refine ⟨by simp,fun o' ho=> ?_,fun x hx=>⟨o,by simp,r,h,hx⟩⟩
  obtain rfl:=List.mem_singleton.1 ho;exact ⟨r,h,fun _ hx=>hx⟩
 |o::o'::l,r,h=>by
  obtain ⟨x,y,h1,h2,rfl⟩:=Sl (show L4 (k o) (me k (o'::l))= .aS r from h);obtain ⟨_,q1,q2⟩:=kW h2;refine ⟨by simp,fun z hz=> ?_,fun z hz=> ?_⟩
  ·rcases List.mem_cons.1 hz with rfl|hz
   ·exact ⟨x,h1,fun a ha=>by simp[ha]⟩
   ·obtain ⟨r',e1,e2⟩:=q1 z hz;exact ⟨r',e1,fun a ha=>by simp[e2 a ha]⟩
  ·rcases List.mem_append.1 hz with hz|hz
   ·exact ⟨o,by simp,x,h1,hz⟩
   ·obtain ⟨a,ha,r',e1,e2⟩:=q2 z hz;exact ⟨a,List.mem_cons_of_mem _ ha,r',e1,e2⟩
theorem mw {α:Type} {k:α->Out}:∀{l:List α} {r:List Rs},me k l= .bX r->l≠ []/\(∀o∈l,∃r',k o= .bX r'/\∀x∈r',x∈r)/\∀x∈r,∃o∈l,∃r',k o= .bX r'/\x∈r'
 | [],r,h=>by cases h
 | [o],r,h=>by
  have h:k o= .bX r:=h;refine ⟨by simp,fun o' ho=> ?_,fun x hx=>⟨o,by simp,r,h,hx⟩⟩
  obtain rfl:=List.mem_singleton.1 ho;exact ⟨r,h,fun _ hx=>hx⟩
 |o::o'::l,r,h=>by
  obtain ⟨x,y,h1,h2,rfl⟩:=X1 (show L4 (k o) (me k (o'::l))= .bX r from h);obtain ⟨_,q1,q2⟩:=mw h2;refine ⟨by simp,fun z hz=> ?_,fun z hz=> ?_⟩
  ·rcases List.mem_cons.1 hz with rfl|hz
   ·exact ⟨x,h1,fun a ha=>by simp[ha]⟩
   ·obtain ⟨r',e1,e2⟩:=q1 z hz;exact ⟨r',e1,fun a ha=>by simp[e2 a ha]⟩
  ·rcases List.mem_append.1 hz with hz|hz
   ·exact ⟨o,by simp,x,h1,hz⟩
   ·obtain ⟨a,ha,r',e1,e2⟩:=q2 z hz;exact ⟨a,List.mem_cons_of_mem _ ha,r',e1,e2⟩
theorem qx {r:Out} {k:Ex->Tr SV->List Dm->Hs->Out} {x:List Oc} (h:qy r k= .aS x):∃l,r= .aS l/\me (fun o:Oc=>k o.e o.tm o.dm o.h) l= .aS x:=by
 cases r<;>first|(cases h;done)|exact ⟨_,rfl,h⟩
theorem nV {r:Out} {k:Ex->Tr SV->List Dm->Hs->Out} {x:List Rs} (h:qy r k= .bX x):∃l,r= .aS l/\me (fun o:Oc=>k o.e o.tm o.dm o.h) l= .bX x:=by
 cases r<;>first|(cases h;done)|exact ⟨_,rfl,h⟩
theorem Qe {r:Out} {k kp:SV->Hs->Out} {x:List Oc} (h:DF r k kp= .aS x):∃l,r= .bX l/\me (fun r:Rs=>sel r.pan (kp r.v r.h) (k r.v r.h)) l= .aS x:=by
 cases r<;>first|(cases h;done)|exact ⟨_,rfl,h⟩
theorem Va {r:Out} {k kp:SV->Hs->Out} {x:List Rs} (h:DF r k kp= .bX x):∃l,r= .bX l/\me (fun r:Rs=>sel r.pan (kp r.v r.h) (k r.v r.h)) l= .bX x:=by
 cases r<;>first|(cases h;done)|exact ⟨_,rfl,h⟩
theorem Ib:∀(us:List Up) (h:Hs),(∀x∈h.lg,x∈(h.ups us).lg)/\∀u∈us,u.1∈(h.ups us).lg
 | [],h=>⟨fun _ hx=>hx,fun u hu=>by simp at hu⟩
 |u::us,h=>by
  obtain ⟨h1,h2⟩:=Ib us (h.up u);refine ⟨fun x hx=>h1 x (List.mem_cons_of_mem _ hx),fun v hv=> ?_⟩
  rcases List.mem_cons.1 hv with rfl|hv
  ·exact h1 v.1 (by simp[Hs.up])
  ·exact h2 v hv
theorem afb (h:Hs) (us:List Up):(h.fin us).hp.get=g4 h.hp.get us:=by
 cases us with
 |nil=>rfl
 |cons u us=>exact xm (u::us) h
theorem iT {us:List Up} {x:Nat} (h:x∉us.map (·.1)) (F:Hf):g4 F us x=F x:=by rw[qi us F F x,if_neg h]
theorem afc {h:Hs} {us:List Up} (hb:Bd h) (hk:lA h.hp.get h.nx us):Fac h (h.fin us):=by
 cases us with
 |nil=>exact Fac.refl hb
 |cons u us=>
  have e:h.fin (u::us)=(h.ups (u::us)).bump:=rfl;have hn:(h.ups (u::us)).nx=h.nx:=qh _ _;have hg:(h.ups (u::us)).hp.get=g4 h.hp.get (u::us):=xm _ _;have hlt:∀v∈u::us,v.1<=h.nx:=fun v hv=>by
   rcases hk v hv with h1|h1
   ·omega
   ·by_cases hl:h.nx<=v.1
    ·exact absurd (hb _ hl) h1
    ·omega
  obtain ⟨l1,l2⟩:=Ib (u::us) h;refine ⟨?_,fun x hx=> ?_,fun x hx hl=> ?_,fun x hx=>l1 x hx,fun x hx hl=> ?_⟩
  ·rw[e];show h.nx<=(h.ups (u::us)).nx+1;omega
  ·rw[e] at hx ⊢;have hx:(h.ups (u::us)).nx+1<=x:=hx;show (h.ups (u::us)).hp.get x=none;rw[hg,iT (fun hc=>by obtain ⟨v,hv,rfl⟩:=List.mem_map.1 hc;have:=hlt v hv;omega)]
   exact hb x (by omega)
  ·rw[e] at hl ⊢;show (h.ups (u::us)).hp.get x=_;rw[hg,iT (fun hc=>by obtain ⟨v,hv,rfl⟩:=List.mem_map.1 hc;exact hl (l2 v hv))]
  ·rw[e];show (h.ups (u::us)).hp.get x=_;rw[hg,iT (fun hc=>by
    obtain ⟨v,hv,rfl⟩:=List.mem_map.1 hc;rcases hk v hv with h1|h1
    ·omega
    ·exact h1 hl)]
   exact hl
theorem Kc {ops:Array Oper} {o:Oper} {l:List Oper} (h:ops.toList.drop (ops.size-(o::l).length)=o::l):ops[ops.size-(o::l).length]? =some o/\ops.toList.drop (ops.size-l.length)=l/\ops.size-l.length=ops.size-(o::l).length+1:=by
 have hi:ops.size-(o::l).length<ops.toList.length:=by
  by_cases hl:ops.size-(o::l).length<ops.toList.length
  ·exact hl
  ·rw[List.drop_of_length_le (by omega)] at h;simp at h
 have hlen:(o::l).length<=ops.size:=by
  have:=congrArg List.length h;simp at this ⊢;omega
 rw[List.drop_eq_getElem_cons hi] at h;obtain ⟨h1,h2⟩:=List.cons.inj h;have e:ops.size-l.length=ops.size-(o::l).length+1:=by simp at hlen ⊢;omega
 refine ⟨?_,by rw[e];exact h2,e⟩
 have:ops.toList[ops.size-(o::l).length]? =some o:=by rw[List.getElem?_eq_getElem hi,h1]
 simpa using this
theorem qt {nt:Nat} {all:List Oper} {o:Oper} {l:List Oper} {tm:Tr SV} {mk:List Dm} {h:Hs} {r:List Oc} (W:List (Tr SV×List Dm×Hs)) (P:List Oc)
  (uz:∀(ops:Array Oper) (i:Nat),ops.toList=all->ops[i]? =some o->Bd h->∀(ro:Option Nat) (m:Nat) (g:Gh) (a:Act) (w:World) (K:Act->World->Prop) (Q:Exit->Act->World->Prop),(ro=none\/∀y∈W,y.2.1.length=mk.length)->bC E g->FR g nt tm.get a.tmps->HR g h.hp.get w->Marks g mk a.defers->(∀x,h.nx<=x->g.ρ x=none)->
   (∀y∈W,∀g' a' w',FR g' nt y.1.get a'.tmps->HR g' y.2.2.hp.get w'->Fr g h.hp.get w g' y.2.2.hp.get w'->Marks g' y.2.1 a'.defers->(∀x,y.2.2.nx<=x->g'.ρ x=none)->(∀x,x<h.nx->g'.ρ x=g.ρ x)->K a' w')->(∀o∈P,Sn nt g h w Q o)->wpOpIn (fro ro) m E.P ops Q i K a w)
  (Lg:Bd h->(∀y∈W,Fac h y.2.2/\gU h mk y.2.1)/\∀o∈P,Fac h o.h/\gU h mk o.dm) (hP:∀o∈P,o∈r) (hne:∀ops:Array Oper,ops.toList=all->ops.toList.drop (ops.size-l.length)=l->Bd h->r≠ [])
  (hin:∀o∈r,o∈P\/∃y∈W,∃r',Sound E (.ops nt all l y.1 y.2.1 y.2.2) (.aS r')/\o∈r') (ih:∀y∈W,∃r',Sound E (.ops nt all l y.1 y.2.1 y.2.2) (.aS r')/\∀o∈r',o∈r):Sound E (.ops nt all (o::l) tm mk h) (.aS r):=by
 intro ops he hd hbd;obtain ⟨hi,hd',hidx⟩:=Kc hd;obtain ⟨fW,fP⟩:=Lg hbd;refine ⟨hne ops he hd' hbd,fun o ho=> ?_,fun ro m g a w Q hro hE hfr hr hmk hnx hk=> ?_⟩
 ·rcases hin o ho with hp|⟨y,hy,r',hs,hor⟩
  ·exact fP o hp
  ·obtain ⟨_,f1,_⟩:=hs ops he hd' (fW y hy).1.bd;exact ⟨(fW y hy).1.trans (f1 o hor).1,gU.trans (fW y hy).1.nx (fW y hy).2 (f1 o hor).2⟩
 ·rw[List.length_cons,List.range'_succ,wpOpsIn_cons];refine uz ops _ he hi hbd ro m g a w _ Q (hro.imp_right fun hro y hy=> ?_) hE hfr hr hmk hnx (fun y hy g' a' w' q1 q2 q3 q4 q5 q6=> ?_) (fun o ho=>hk o (hP o ho))
  ·obtain ⟨r',hs,hor⟩:=ih y hy;obtain ⟨qM,f1,_⟩:=hs ops he hd' (fW y hy).1.bd;obtain ⟨o',ho'⟩:=List.exists_mem_of_ne_nil _ qM;have h1:=(fW y hy).2.1;have h2:=(f1 o' ho').2.1;have h3:=hro o' (hor o' ho');omega
  ·obtain ⟨r',hs,hor⟩:=ih y hy;obtain ⟨qM,f1,k1⟩:=hs ops he hd' (fW y hy).1.bd;have:=k1 ro m g' a' w' Q (hro.imp_right fun hro o' ho'=>by
    obtain ⟨o2,ho2⟩:=List.exists_mem_of_ne_nil _ qM;have h1:=(fW y hy).2.1;have h2:=(f1 o' ho').2.1;have h3:=hro o' (hor o' ho');omega) (hE.mono q3.le) q1 q2 q4 q5 (fun o' ho' g2 a2 w2 x s0 s1 s2 s3 s4 s5 s6=>hk o' (hor o' ho') g2 a2 w2 x s0 s1 s2 (q3.trans s3) s4 s5 (fun x hx=>by
     rw[s6 x (Nat.lt_of_lt_of_le hx (fW y hy).1.nx),q6 x hx]))
   rw[hidx] at this;exact this
theorem Kb {nt:Nat} {all:List Oper} {o:Oper} {l:List Oper} {tm tm1:Tr SV} {mk:List Dm} {h h1:Hs} {out:Out} {need frp newp:Nat->Prop} {v:SV} {D:Nat->Bool} {H':Hf}
  (hst:∀(ops:Array Oper) (i:Nat),ops.toList=all->ops[i]? =some o->Bd h->∀ro,n6 E ro nt ops i o tm.get need h.hp.get frp newp v D H') (htm:tm1.get=fO tm.get o.dst v) (hh:Bd h->h1.hp.get=ir D H' h.hp.get) (hfrp:∀x,frp x->h.nx<=x)
  (eX:∀x,newp x->h.nx<=x/\x<h1.nx) (Lg:Bd h->Fac h h1) (ih:Sound E (.ops nt all l tm1 mk h1) out):Sound E (.ops nt all (o::l) tm mk h) out:=by
 cases out with
 |aS r=>
  by_cases hne:r= []
  ·intro ops he hd hbd;obtain ⟨_,hd',_⟩:=Kc hd;exact absurd hne (ih ops he hd' (Lg hbd).bd).1
  refine qt [(tm1,mk,h1)] [] (fun ops i he hi hbd ro m g a w K Q hro hE hfr hr hmk hnx hk _=> ?_) (fun hbd=>⟨fun y hy=> ?_,fun o ho=>by simp at ho⟩) (fun o ho=>by simp at ho) (fun _ _ _ _=>hne) (fun o ho=>.inr ⟨(tm1,mk,h1),by simp,r,ih,ho⟩) (fun y hy=> ?_)
  ·refine hst ops i he hi hbd ro m g h.hp.get tm.get a w K Q hE hfr hr (fun _ _=>rfl) (fun _ _=>rfl) (fun x hx=>hnx x (hfrp x hx)) (fun r w' g' q1 q2 q3 q4=> ?_)
   rw[<-htm] at q1;rw[<-hh hbd] at q2 q3;have hf1:=(Lg hbd).nx;exact hk (tm1,mk,h1) (by simp) g' (a.put o.dst r) w' q1 q2 q3 (by rw[put_defers];exact hmk.mono q3.le) (fun x hx=>by
    have hx:h1.nx<=x:=hx;rw[q4 x (fun hn=>by have:=eX x hn;omega)]
    exact hnx x (by omega)) (fun x hx=>q4 x (fun hn=>by have:=eX x hn;omega))
  ·obtain rfl:=List.mem_singleton.1 hy;exact ⟨Lg hbd,gU.refl _ _⟩
  ·obtain rfl:=List.mem_singleton.1 hy;exact ⟨r,ih,fun _ h=>h⟩
 |_=>trivial
def pn (us:List Up) (new:Nat):Nat->Bool:=fun x=>decide (x∈us.map (·.1)\/x=new)
theorem aeD {nt:Nat} {all:List Oper} {o:Oper} {l:List Oper} {tm:Tr SV} {mk:List Dm} {h:Hs} {out:Out} {v:SV} {us:List Up} (hw:bJ all o tm.get=some true) (hd:cm nt o.dst=true) (ho:opA E o.op tm.get h.hp.get h.nx=some (v,us))
  (hnd:∀c,o.op≠ .defer c) (ih:Sound E (.ops nt all l (bc tm o.dst v) mk (h.fin us)) out):Sound E (.ops nt all (o::l) tm mk h) out:=by
 refine Kb (need:=fun x=>x∈eP o.op tm.get) (frp:=fun x=>x=h.nx) (newp:=fun x=>x=h.nx/\us≠ []) (v:=v) (D:=pn us h.nx) (H':=g4 h.hp.get us) (fun ops i he hi hbd ro=> ?_) (jM _ _ _) (fun hbd=> ?_) (fun x hx=>by omega) (fun x hx=> ?_) (fun hbd=>afc hbd (Ki ho)) ih
 ·subst he;exact yT hi hw hd ho (hbd _ (Nat.le_refl _)) (fun x=>by simp[pn]) hnd
 ·rw[afb];funext x;unfold ir pn;by_cases h1:x∈us.map (·.1)
  ·rw[if_pos (by simp only[decide_eq_true_eq];exact .inl h1)]
  ·rw[iT h1];split<;>rfl
 ·obtain ⟨rfl,hne⟩:=hx;refine ⟨Nat.le_refl _,?_⟩;cases us with
  |nil=>exact absurd rfl hne
  |cons u us=>
   show h.nx<(h.ups (u::us)).nx+1;rw[qh];omega
theorem YU {nt:Nat} {all:List Oper} {o:Oper} {l:List Oper} {tm:Tr SV} {mk:List Dm} {h:Hs} {out:Out} (hw:bJ all o tm.get=some false) (hd:cm nt o.dst=true) (ih:Sound E (.ops nt all l (bc tm o.dst (.tup [])) mk h) out):Sound E (.ops nt all (o::l) tm mk h) out:=by
 refine Kb (need:=fun _=>False) (frp:=fun x=>x=h.nx) (newp:=fun _=>False) (v:=.tup []) (D:=fun x=>decide (x=h.nx)) (H':=h.hp.get) (fun ops i he hi hbd ro=> ?_) (jM _ _ _) (fun hbd=> ?_) (fun x hx=>by omega) (fun x hx=>hx.elim) (fun hbd=>Fac.refl hbd) ih
 ·subst he;exact step_skip hi hw hd (hbd _ (Nat.le_refl _)) (fun x=>by simp)
 ·funext x;unfold ir;split<;>rfl
theorem zh {op:Op} {c:Call} (h:dG op=some c):op= .call c/\isValue c.callee=true:=by
 cases op<;>first|(cases h;done)|skip
 rename_i c';have h:sel (isValue c'.callee) (some c') none=some c:=h;obtain ⟨h1,h2⟩:=ar h;cases h2;exact ⟨rfl,h1⟩
theorem BT {op:Op} {T:Tf} {new:Nat} {r:SV×List Up} (h:opA E op T f new=some r):∀c,op≠ .defer c:=by
 intro c e;subst e;cases h
end
section
variable {E:Env} {g:Gh} {f:Hf} {w:World}
theorem JX {h:Hs} {l:Nat} {o o':SO} (hb:Bd h) (hl:h.hp.get l=some o):Fac h (h.put l o'):=by
 have hlt:l<h.nx:=by
  by_cases hc:h.nx<=l
  ·rw[hb l hc] at hl;simp at hl
  ·omega
 have hg:∀x,(h.put l o').hp.get x=if x=l then some o' else h.hp.get x:=fun x=>Tr.da _ _ _ _
 refine ⟨Nat.le_refl _,fun x hx=> ?_,fun x hx hn=> ?_,fun x hx=>List.mem_cons_of_mem _ hx,fun x hx hn=> ?_⟩
 ·have hx:h.nx<=x:=hx;rw[hg,if_neg (by omega)];exact hb x hx
 ·have hn:x∉l::h.lg:=hn;rw[hg,if_neg (fun e=>hn (by simp[e]))]
 ·rw[hg,if_neg (fun e=>by subst e;rw[hl] at hn;simp at hn)];exact hn
theorem YP (h:Hs) (l:Nat) (o:SO):(h.put l o).hp.get=upF h.hp.get (l,some o):=funext fun x=>Tr.da _ _ _ _
theorem zE {nt:Nat} {all:List Oper} {o:Oper} {l:List Oper} {tm:Tr SV} {mk mk1:List Dm} {h:Hs} {r:List Oc} {v:SV} (hd:cm nt o.dst=true) (hmk:gU h mk mk1)
  (uz:∀(ops:Array Oper) (i:Nat),ops.toList=all->ops[i]? =some o->∀(ro:Option Nat) (m:Nat) (g:Gh) (a:Act) (w:World) (K:Act->World->Prop) (Q:Exit->Act->World->Prop),(ro=none\/mk1.length=mk.length)->bC E g->FR g nt tm.get a.tmps->HR g h.hp.get w->Marks g mk a.defers->
   (∀a' u,VR g u v->a'.tmps=(a.put o.dst u).tmps->Marks g mk1 a'.defers->K a' w)->wpOpIn (fro ro) m E.P ops Q i K a w)
  (ih:Sound E (.ops nt all l (bc tm o.dst v) mk1 h) (.aS r)):Sound E (.ops nt all (o::l) tm mk h) (.aS r):=by
 by_cases hne:r= []
 ·intro ops he hd hbd;obtain ⟨_,hd',_⟩:=Kc hd;exact absurd hne (ih ops he hd' hbd).1
 refine qt [(bc tm o.dst v,mk1,h)] [] (fun ops i he hi hbd ro m g a w K Q hro hE hfr hr hmk' hnx hk _=> ?_) (fun hbd=>⟨fun y hy=> ?_,fun o ho=>by simp at ho⟩) (fun o ho=>by simp at ho) (fun _ _ _ _=>hne) (fun o' ho=>.inr ⟨(bc tm o.dst v,mk1,h),by simp,r,ih,ho⟩) (fun y hy=> ?_)
 ·refine uz ops i he hi ro m g a w K Q (hro.imp_right fun hh=>hh (bc tm o.dst v,mk1,h) (by simp)) hE hfr hr hmk' (fun a' u hu ha hm=> ?_)
  refine hk (bc tm o.dst v,mk1,h) (by simp) g a' w ?_ hr (Fr.refl _ _ _) hm hnx (fun _ _=>rfl)
  rw[jM,ha];exact hfr.put hd hu
 ·obtain rfl:=List.mem_singleton.1 hy;exact ⟨Fac.refl hbd,hmk⟩
 ·obtain rfl:=List.mem_singleton.1 hy;exact ⟨r,ih,fun _ h=>h⟩
theorem VH {x v:SV} (h:DJ x=some v):∃t y,x= .ifc t y/\v= .ifc t y:=by
 cases x with
 |ifc t y=>cases h;exact ⟨t,y,rfl,rfl⟩
 |_=>cases h
theorem Nt {x:SV} {aa:List SV} {d:Dm} (h:vO x aa=some d):∃k fi ca,x= .fn (.func k) fi ca/\d= .fn k (fi++aa) ca:=by
 cases x with
 |fn f fi ca=>
  cases f with
  |func k=>cases h;exact ⟨k,fi,ca,rfl,rfl⟩
  |_=>cases h
 |_=>cases h
theorem LH {op:Op} {c:Call} (h:mv op=some c):op= .defer c/\isValue c.callee=true:=by
 cases op<;>first|(cases h;done)|skip
 rename_i c';have h:sel (isValue c'.callee) (some c') none=some c:=h;obtain ⟨h1,h2⟩:=ar h;cases h2;exact ⟨rfl,h1⟩
theorem J5 {op:Op} {x:Operand} (h:kR op=some x):op= .panic x:=by
 cases op<;>first|(cases h;done)|(cases h;rfl)
theorem NI {op:Op} {x:Operand×Bool} (h:mG op=some x):(op= .next x.1 false/\x.2=false)\/(op= .entry x.1/\x.2=true):=by
 cases op<;>first|(cases h;done)|skip
 ·rename_i it isS;have h:sel isS none (some (it,false))=some x:=h;cases isS with
  |true=>cases h
  |false=>cases h;exact .inl ⟨rfl,rfl⟩
 ·cases h;exact .inr ⟨rfl,rfl⟩
theorem lu {nt:Nat} {tm:Tf} {a:Act} {ops:Array Oper} {o:Oper} (hfr:FR g nt tm a.tmps) (hw:bJ ops.toList o tm=some true):Region.wanted o (yielded ops a.tmps)=true:=nO hfr hw
theorem A4 {ro:Option Nat} {ops:Array Oper} {i m:Nat} {o:Oper} {a:Act} {K:Act->World->Prop} {Q:Exit->Act->World->Prop} (hi:ops[i]? =some o) (hw:Region.wanted o (yielded ops a.tmps)=true) (h:o.uponIn (fro ro) m E.P a K Q ((o.semAt (fro ro).round a.eval).run E.P w)):wpOpIn (fro ro) m E.P ops Q i K a w:=by
 unfold wpOpIn;rw[hi];simp only;rw[if_pos hw];exact ⟨pM E.P w,h⟩
theorem WQ {nt:Nat} {all:List Oper} {o:Oper} {l:List Oper} {tm:Tr SV} {mk:List Dm} {h:Hs} {x:Operand} {y v:SV} (hw:bJ all o tm.get=some true) (hop:o.op= .panic x) (hx:aI tm.get x=some y) (hy:DJ y=some v):
  Sound E (.ops nt all (o::l) tm mk h) (.aS [⟨.pan v,tm,mk,h⟩]):=by
 refine qt [] [⟨.pan v,tm,mk,h⟩] (fun ops i he hi hbd ro m g a w K Q hro hE hfr hr hmk hnx _ hk=> ?_) (fun hbd=>⟨fun y hy=>by simp at hy,fun o ho=> ?_⟩) (fun o ho=>ho) (fun _ _ _ _=>by simp) (fun o ho=>.inl ho) (fun y hy=>by simp at hy)
 ·subst he;obtain ⟨t,z,rfl,rfl⟩:=VH hy;have hv:=fL hfr hx;generalize hu:a.eval x=u at hv;cases hv with
  | @ifc _ u' _ hu'=>
  refine A4 hi (lu hfr hw) ?_;rw[Oper.semAt_eq _ _ _ (fun c' h=>by rw[hop] at h;cases h)]
  have hex:(execOp a.eval o).run E.P w= .halt (.panic (.iface t u')) w:=by
   simp only[execOp,hop,hu,Instr.panic,goPanic,Sem.run_bind];rfl
  rw[hex];exact hk ⟨.pan (.ifc t z),tm,mk,h⟩ (by simp) g a w _ (.pan (.ifc hu')) hfr hr (Fr.refl _ _ _) hmk hnx (fun _ _=>rfl)
 ·obtain rfl:=List.mem_singleton.1 ho;exact ⟨Fac.refl hbd,gU.refl _ _⟩
theorem WS {nt:Nat} {all:List Oper} {o:Oper} {c:Call} {l:List Oper} {tm:Tr SV} {mk:List Dm} {h:Hs} {r:List Oc} {fv:SV} {aa:List SV} {d:Dm} (hw:bJ all o tm.get=some true) (hd:cm nt o.dst=true) (hop:o.op= .defer c) (hc:fq tm.get c.callee=some fv) (has:bE tm.get c.args.toList=some aa) (hdm:vO fv aa=some d)
  (ih:Sound E (.ops nt all l (bc tm o.dst .undef) (d::mk) h) (.aS r)):Sound E (.ops nt all (o::l) tm mk h) (.aS r):=by
 obtain ⟨k,fi,ca,rfl,rfl⟩:=Nt hdm;refine zE hd ⟨by simp,fun x hx=>.inl (by simpa using hx)⟩ (fun ops i he hi ro m g a w K Q hro hE hfr hr hmk hk=> ?_) ih
 subst he;have hro:ro=none:=by
  rcases hro with h|h
  ·exact h
  ·simp at h
 subst hro;obtain ⟨x,hx⟩:∃x,c.callee= .value x:=by
  cases hcc:c.callee with
  |value x=>exact ⟨x,rfl⟩
  |_=>rw[hcc] at hc;cases hc
 rw[hx] at hc;have hu:=fL hfr (show aI tm.get x=some (.fn (.func k) fi ca) from hc);have hus:=ml hfr has;generalize hue:a.eval x=u at hu;cases hu with
 | @fn _ first dr _ _ h1 h2=>
 refine A4 hi (lu hfr hw) ?_;have bf:(resolve a.eval c o.type).run E.P w= .ok {target:=.fn (.func k) dr,args:=first++(c.args.toList.map a.eval).toArray} w:=by
  simp only[resolve,hx,hue];have:c.args.map a.eval=(c.args.toList.map a.eval).toArray:=ri (by simp)
  rw[this];rfl
 have hex:(o.semAt (fro none).round a.eval).run E.P w= .ok (.defer {target:=.fn (.func k) dr,args:=first++(c.args.toList.map a.eval).toArray}) w:=by
  show (o.semAt none a.eval).run E.P w=_;rw[Oper.semAt_none];simp only[execOp,hop,Sem.run_bind,bf,Result.andThen_ok,Sem.run_pure]
 rw[hex];refine hk _ undef (.undef _) ?_ ?_
 ·cases o.dst<;>rfl
 ·rw[put_defers];exact .fn (by simpa using h1.append hus) h2 hmk
theorem Fg (x:Nat):∀(l:List Nat),uj x l=true↔x∈l
 | []=>by simp[uj]
 |y::l=>by
  unfold uj;rw[aA,beq_eq];by_cases h:x=y
  ·simp[h]
  ·simp only[h,decide_false,Bool.false_eq_true,if_false,List.mem_cons,false_or];exact Fg x l
theorem Bj {seen:List Nat} {sa:Array Nat} (hs:sa.toList=seen):∀{ms:List MapEntry} {es:List (SV×SV×Nat)},di g ms es->di g (ms.filter fun e=> !sa.contains e.born) (uo seen es)
 |_,_,.nil=>.nil
 |_,_,.cons (m:=m) (x:=x) (ms:=ms) (xs:=xs) hd ht=>by
  have ih:=Bj hs ht;have hc:sa.contains m.born=uj x.2.2 seen:=by
   rw[Bool.eq_iff_iff,Fg,Array.contains_iff_mem,<-Array.mem_toList_iff,hs,hd.2.2]
  unfold uo at ih ⊢;rw[List.filter_cons,List.filter_cons,hc];cases uj x.2.2 seen with
  |true=>exact ih
  |false=>exact .cons hd ih
theorem di.aeN {ms:List MapEntry} {es:List (SV×SV×Nat)} (h:di g ms es):ms= []↔es= []:=by cases h<;>simp
theorem di.mem {ms:List MapEntry} {es:List (SV×SV×Nat)} (h:di g ms es):∀m∈ms,∃x∈es,SD g m x:=by
 intro m hm;induction h with
 |nil=>simp at hm
 |cons hd ht ih=>
  rcases List.mem_cons.1 hm with rfl|hm
  ·exact ⟨_,by simp,hd⟩
  ·obtain ⟨x,hx,h⟩:=ih hm;exact ⟨x,List.mem_cons_of_mem _ hx,h⟩
theorem y7 {seen:List Nat} {sa:Array Nat} (hs:sa.toList=seen) {ms:Array MapEntry} {es:List (SV×SV×Nat)} (h:di g ms.toList es):di g (leftOf ms sa).toList (uo seen es):=by
 have:=Bj hs h;unfold leftOf;rw[Array.toList_filter];exact this
theorem vr {y:SV} {id:Nat} (h:mi y=some id):y= .ptr id 0:=by
 obtain ⟨q,h1,h2⟩:=ae h;obtain ⟨h3,h4⟩:=ar h2;cases h4;have:=(beq_iff _ _).1 h3;obtain rfl:=g5 h1;rw[this]
theorem QK {since last c:Nat} {seen:List Nat} {es:List (SV×SV×Nat)} (h:iterM since seen last c es=true):(∀e∈es,e.2.2<since)/\since<=last:=by
 unfold iterM at h;rw[Bool.and_eq_true] at h;refine ⟨fun e he=> ?_,(bj _ _).1 h.2⟩
 exact (bj _ _).1 (List.all_eq_true.1 h.1 e he)
theorem YV {rec:Job->Out} (cu:∀j,Sound E j (rec j)) {nt:Nat} {all:List Oper} {o:Oper} {l:List Oper} {tm:Tr SV} {mk:List Dm} {h:Hs} {r:List Oc} {x:Operand} {y:SV} {id:Nat} (hw:bJ all o tm.get=some true) (hd:cm nt o.dst=true) (hop:o.op= .next x false) (hx:aI tm.get x=some y) (hy:mi y=some id)
  (bf:m9 rec nt all l tm mk h o.dst id= .aS r):Sound E (.ops nt all (o::l) tm mk h) (.aS r):=by
 obtain rfl:=vr hy;have over:(∀(g:Gh) (w:World),HR g h.hp.get w->∀b c,g.ρ id=some (b,c)->c=0/\(Instr.next (.pointer (some ⟨b,0,none⟩)) false o.type).run E.P w= .ok (.tuple #[.bool false]) w)->
   Sound E (.ops nt all l (bc tm o.dst (.tup [.bool false])) mk h) (.aS r)->Sound E (.ops nt all (o::l) tm mk h) (.aS r):=by
  intro eJ ih;refine zE hd (gU.refl _ _) (fun ops i he hi ro m g a w K Q hro hE hfr hr hmk hk=> ?_) ih
  subst he;have hu:=fL hfr hx;generalize hue:a.eval x=u at hu;cases hu with
  | @ptr _ _ b c hρ=>
  obtain ⟨rfl,hn⟩:=eJ g w hr b c hρ;refine A4 hi (lu hfr hw) ?_;rw[Oper.semAt_eq _ _ _ (fun c' h=>by rw[hop] at h;cases h)]
  have hex:(execOp a.eval o).run E.P w= .ok (.value (.tuple #[.bool false])) w:=by
   simp only[execOp,hop,hue,Nat.add_zero,Sem.run_bind,hn,Result.andThen_ok,Sem.run_pure]
  rw[hex];exact hk _ _ (.tup (.cons (.bool false) .nil)) rfl (by rw[put_defers];exact hmk)
 unfold m9 at bf;split at bf
 ·rename_i s q t hid;have ih:=cu (.ops nt all l (bc tm o.dst (.tup [.bool false])) mk h);rw[show rec (.ops nt all l (bc tm o.dst (.tup [.bool false])) mk h)= .aS r from bf] at ih;refine over (fun g w hr b c hρ=> ?_) ih
  obtain ⟨_,rfl,bm,sa,h1,h2,h3⟩:=hr.at hid hρ;have h3:bm=none:=h3;subst h3;refine ⟨rfl,?_⟩;simp[Instr.next,getObj,Sem.run,h1]
 ·rename_i m0 since seen last hid;split at bf;rotate_left
  ·cases bf
  rename_i es c0 Lc;rw[aA] at bf;split at bf;rotate_left
  ·cases bf
  rename_i hit;obtain ⟨hold,hsl⟩:=QK hit;unfold N4 at bf;have model:∀(g:Gh) (w:World),HR g h.hp.get w->∀b c,g.ρ id=some (b,c)->c=0/\∃(bm y:Nat) (sa:Array Nat) (ms:Array MapEntry),g.ρ m0=some (bm,y)/\sa.toList=seen/\w.heap[b]? =some (.mapIter (some bm) since sa last)/\w.heap[bm]? =some (.map ms c0)/\di g ms.toList es/\∀z∈ms.toList,z.born<since:=by
   intro g w hr b c hρ;obtain ⟨_,rfl,bm,sa,h1,h2,h3⟩:=hr.at hid hρ;obtain ⟨bm',y,rfl,h4⟩:=h3;obtain ⟨_,ms,m1,m2⟩:=hr.at Lc h4;refine ⟨rfl,bm',y,sa,ms,h4,h2,h1,m1,m2,fun z hz=> ?_⟩
   obtain ⟨e,he,h5⟩:=m2.mem z hz;rw[h5.2.2];exact hold e he
  cases hle:uo seen es with
  |nil=>
   rw[hle] at bf;have ih:=cu (.ops nt all l (bc tm o.dst (.tup [.bool false])) mk h);rw[show rec (.ops nt all l (bc tm o.dst (.tup [.bool false])) mk h)= .aS r from bf] at ih;refine over (fun g w hr b c hρ=> ?_) ih
   obtain ⟨rfl,bm,y,sa,ms,q1,q2,q3,q4,q5,q6⟩:=model g w hr b c hρ;refine ⟨rfl,?_⟩;have hl0:=y7 q2 q5;rw[hle] at hl0;rcases run_next_at (P:=E.P) w o.type b bm since last sa ms c0 q3 q4 q6 hsl with ⟨_,hn⟩|⟨e,he,_⟩
   ·exact hn
   ·have:(leftOf ms sa).toList= []:=hl0.aeN.2 rfl;rw[this] at he;simp at he
  |cons e0 l0=>
   rw[hle] at bf;have bf:me (fun e=>jP rec nt all l tm mk o.dst (.tup [.bool true,e.1,e.2.1]) (h.put id (.mapIter (some m0) since (seen++ [e.2.2]) c0))) (e0::l0)= .aS r:=bf
   rw[<-hle] at bf;obtain ⟨hne,q1,q2⟩:=kW bf;have uA:∀ops:Array Oper,ops.toList=all->ops.toList.drop (ops.size-l.length)=l->Bd h->r≠ []:=by
    intro ops sK Rk hbd hr0;subst hr0;obtain ⟨r',h1,h2⟩:=q1 e0 (by rw[hle];simp)
    have hs:=cu (.ops nt all l (bc tm o.dst (.tup [.bool true,e0.1,e0.2.1])) mk (h.put id (.mapIter (some m0) since (seen++ [e0.2.2]) c0)));rw[show rec (.ops nt all l (bc tm o.dst (.tup [.bool true,e0.1,e0.2.1])) mk (h.put id (.mapIter (some m0) since (seen++ [e0.2.2]) c0)))= .aS r' from h1] at hs;obtain ⟨qM,_⟩:=hs ops sK Rk (JX hbd hid).bd;obtain ⟨z,hz⟩:=List.exists_mem_of_ne_nil _ qM;have:=h2 z hz;simp at this
   refine qt ((uo seen es).map fun e=>(bc tm o.dst (.tup [.bool true,e.1,e.2.1]),mk,h.put id (.mapIter (some m0) since (seen++ [e.2.2]) c0))) [] (fun ops i he hi hbd ro m g a w K Q hro hE hfr hr hmk hnx hk _=> ?_) (fun hbd=>⟨fun y hy=> ?_,fun o ho=>by simp at ho⟩) (fun o ho=>by simp at ho) uA (fun oc ho=> ?_) (fun y hy=> ?_)
   ·subst he;have hu:=fL hfr hx;generalize hue:a.eval x=u at hu;cases hu with
    | @ptr _ _ b c hρ=>
    obtain ⟨rfl,bm,y,sa,ms,p1,p2,p3,p4,p5,p6⟩:=model g w hr b c hρ;have hl0:=y7 p2 p5;rcases run_next_at (P:=E.P) w o.type b bm since last sa ms c0 p3 p4 p6 hsl with ⟨h0,_⟩|⟨e,he,w1,hw1,hn⟩
    ·have:(leftOf ms sa).toList= []:=List.eq_nil_of_length_eq_zero (by simpa using h0)
     rw[this,hle] at hl0;cases hl0
    obtain ⟨x0,hx0,ZO⟩:=hl0.mem e he;refine A4 hi (lu hfr hw) ?_;rw[Oper.semAt_eq _ _ _ (fun c' h=>by rw[hop] at h;cases h)]
    have hex:(execOp a.eval o).run E.P w= .ok (.value (.tuple #[.bool true,e.key,e.val])) (ChangeMaps.setBlock w1 b (.mapIter (some bm) since (sa.push e.born) c0)):=by
     simp only[execOp,hop,hue,Nat.add_zero,Sem.run_bind,hn,Result.andThen_ok,Sem.run_pure]
    rw[hex];have xE:w1.heap=w.heap/\w1.os=w.os/\w1.tape=w.tape/\w1.output=w.output:=by
     rcases hw1 with rfl|rfl
     ·exact ⟨rfl,rfl,rfl,rfl⟩
     ·exact ⟨rfl,rfl,rfl,rfl⟩
    have hb:b<w.heap.size:=(hr.at hid hρ).1;obtain ⟨t1,t2⟩:=HR.write hr (o':=.mapIter (some m0) since (seen++ [x0.2.2]) c0) (w':=ChangeMaps.setBlock w1 b (.mapIter (some bm) since (sa.push e.born) c0)) hid hρ (by simp[ChangeMaps.setBlock,xE.1]) (fun k hk=>by simp[ChangeMaps.setBlock,xE.1,Array.getElem?_setIfInBounds_ne (Ne.symm hk)])
     ⟨rfl,some bm,sa.push e.born,by simp[ChangeMaps.setBlock,xE.1,hb],by rw[Array.toList_push,p2,ZO.2.2],bm,y,rfl,p1⟩ xE.2.1 xE.2.2.1 xE.2.2.2
    rw[<-YP] at t1 t2;refine hk (bc tm o.dst (.tup [.bool true,x0.1,x0.2.1]),mk,h.put id (.mapIter (some m0) since (seen++ [x0.2.2]) c0)) (List.mem_map.2 ⟨x0,hx0,rfl⟩) g (a.put o.dst (.tuple #[.bool true,e.key,e.val])) _ ?_ t1 t2 (by rw[put_defers];exact hmk) hnx (fun _ _=>rfl)
    rw[jM];exact hfr.put hd (.tup (.cons (.bool true) (.cons ZO.1 (.cons ZO.2.1 .nil))))
   ·obtain ⟨e,he,rfl⟩:=List.mem_map.1 hy;exact ⟨JX hbd hid,gU.refl _ _⟩
   ·obtain ⟨e,he,r',h1,h2⟩:=q2 oc ho;refine .inr ⟨(bc tm o.dst (.tup [.bool true,e.1,e.2.1]),mk,h.put id (.mapIter (some m0) since (seen++ [e.2.2]) c0)),List.mem_map.2 ⟨e,he,rfl⟩,r',?_,h2⟩;have ih:=cu (.ops nt all l (bc tm o.dst (.tup [.bool true,e.1,e.2.1])) mk (h.put id (.mapIter (some m0) since (seen++ [e.2.2]) c0)));rw[show rec (.ops nt all l (bc tm o.dst (.tup [.bool true,e.1,e.2.1])) mk (h.put id (.mapIter (some m0) since (seen++ [e.2.2]) c0)))= .aS r' from h1] at ih;exact ih
   ·obtain ⟨e,he,rfl⟩:=List.mem_map.1 hy;obtain ⟨r',h1,h2⟩:=q1 e he;refine ⟨r',?_,h2⟩;have ih:=cu (.ops nt all l (bc tm o.dst (.tup [.bool true,e.1,e.2.1])) mk (h.put id (.mapIter (some m0) since (seen++ [e.2.2]) c0)));rw[show rec (.ops nt all l (bc tm o.dst (.tup [.bool true,e.1,e.2.1])) mk (h.put id (.mapIter (some m0) since (seen++ [e.2.2]) c0)))= .aS r' from h1] at ih;exact ih
 ·cases bf
theorem BK {b:Nat}:∀{ms:List MapEntry} {es:List (SV×SV×Nat)},di g ms es->∀{v:SV},Gw b es=some v->∃e,ms.find? (·.born==b)=some e/\VR g (.tuple #[e.key,e.val]) v
 |_,_,.nil,v,h=>by cases h
 |_,_,.cons (m:=m) (x:=x) (ms:=ms) (xs:=es) hd ht,v,h=>by
  unfold Gw at h;rw[aA] at h;split at h
  ·rename_i hb;have hb:=(beq_iff _ _).1 hb;cases h;refine ⟨m,by simp[hd.2.2,hb],.tup (.cons hd.1 (.cons hd.2.1 .nil))⟩
  ·rename_i hb;have hb:¬x.2.2=b:=fun e=>hb ((beq_iff _ _).2 e)
   obtain ⟨e,h1,h2⟩:=BK ht h;refine ⟨e,?_,h2⟩;rw[List.find?_cons];have:(m.born==b)=false:=by rw[hd.2.2];simpa using hb
   rw[this];exact h1
theorem Bl:∀{l:List Nat} {b:Nat},QG l=some b->l.getLast? =some b
 | [],b,h=>by cases h
 | [a],b,h=>by cases h;rfl
 |a::c::l,b,h=>by
  have:=Bl (l:=c::l) h;rw[List.getLast?_cons_cons];exact this
theorem WR {nt:Nat} {all:List Oper} {o:Oper} {l:List Oper} {tm:Tr SV} {mk:List Dm} {h:Hs} {r:List Oc} {x:Operand} {y v:SV} {id:Nat} (hw:bJ all o tm.get=some true) (hd:cm nt o.dst=true) (hop:o.op= .entry x) (hx:aI tm.get x=some y) (hy:mi y=some id)
  (hv:tD h.hp.get id=some v) (ih:Sound E (.ops nt all l (bc tm o.dst v) mk h) (.aS r)):Sound E (.ops nt all (o::l) tm mk h) (.aS r):=by
 obtain rfl:=vr hy;refine zE hd (gU.refl _ _) (fun ops i he hi ro m g a w K Q hro hE hfr hr hmk hk=> ?_) ih
 subst he;have hu:=fL hfr hx;generalize hue:a.eval x=u at hu;cases hu with
 | @ptr _ _ b c hρ=>
 unfold tD at hv;split at hv;rotate_left
 ·cases hv
 rename_i m0 since seen last hid;split at hv;rotate_left
 ·cases hv
 rename_i es c0 Lc;obtain ⟨hc,hv2⟩:=ar hv;have hc:=(beq_iff _ _).1 hc;subst hc;obtain ⟨bo,h1,h2⟩:=ae hv2;obtain ⟨_,rfl,bm,sa,q1,q2,q3⟩:=hr.at hid hρ;obtain ⟨bm',y',rfl,q4⟩:=q3;obtain ⟨_,ms,m1,m2⟩:=hr.at Lc q4;obtain ⟨e,e1,e2⟩:=BK m2 h2;have aD:sa.back? =some bo:=by rw[<-Array.getLast?_toList,q2];exact Bl h1
 refine A4 hi (lu hfr hw) ?_;rw[Oper.semAt_eq _ _ _ (fun c' h=>by rw[hop] at h;cases h)]
 have hf:ms.find? (·.born==bo)=some e:=by rw[<-Array.find?_toList];exact e1
 have hn:(Instr.entry (.pointer (some ⟨b,0,none⟩))).run E.P w= .ok (.tuple #[e.key,e.val]) w:=by
  simp only[Instr.entry,getObj,Sem.run_bind,Sem.run,q1,m1,Result.andThen,aD,bne_self_eq_false,Bool.false_eq_true,if_false,hf];rfl
 have hex:(execOp a.eval o).run E.P w= .ok (.value (.tuple #[e.key,e.val])) w:=by
  simp only[execOp,hop,hue,Nat.add_zero,Sem.run_bind,hn,Result.andThen_ok,Sem.run_pure]
 rw[hex];exact hk _ _ e2 rfl (by rw[put_defers];exact hmk)
theorem YW {rec:Job->Out} (cu:∀j,Sound E j (rec j)) {nt:Nat} {all:List Oper} {o:Oper} {c:Call} {l:List Oper} {tm:Tr SV} {mk:List Dm} {h:Hs} {r:List Oc} {fv:SV} {aa:List SV} {rs:List Rs} (hw:bJ all o tm.get=some true) (hd:cm nt o.dst=true) (hop:o.op= .call c) (hc:fq tm.get c.callee=some fv)
  (has:bE tm.get c.args.toList=some aa) (hs:Sound E (.call fv aa h) (.bX rs)) (bf:me (fun x:Rs=>sel x.pan (.aS [⟨.pan x.v,tm,mk,x.h⟩]) (jP rec nt all l tm mk o.dst x.v x.h)) rs= .aS r):Sound E (.ops nt all (o::l) tm mk h) (.aS r):=by
 have hs:Bd h->rs≠ []/\(∀r∈rs,Fac h r.h)/\kK E fv aa h.hp.get h.nx rs:=hs;obtain ⟨hne,q1,q2⟩:=kW bf;have way:∀x∈rs,(x.pan=true/\(⟨.pan x.v,tm,mk,x.h⟩:Oc)∈r)\/(x.pan=false/\∃r',Sound E (.ops nt all l (bc tm o.dst x.v) mk x.h) (.aS r')/\∀z∈r',z∈r):=by
  intro x hx;obtain ⟨r',h1,h2⟩:=q1 x hx;cases hp:x.pan with
  |true=>
   rw[hp] at h1;cases (show Out.aS [⟨.pan x.v,tm,mk,x.h⟩]= .aS r' from h1);exact .inl ⟨rfl,h2 _ (by simp)⟩
  |false=>
   rw[hp] at h1;have ih:=cu (.ops nt all l (bc tm o.dst x.v) mk x.h);rw[show rec (.ops nt all l (bc tm o.dst x.v) mk x.h)= .aS r' from h1] at ih;exact .inr ⟨rfl,r',ih,h2⟩
 refine qt ((rs.filter fun x=> !x.pan).map fun x=>(bc tm o.dst x.v,mk,x.h)) ((rs.filter fun x=>x.pan).map fun x=>⟨.pan x.v,tm,mk,x.h⟩) (fun ops i he hi hbd ro m g a w K Q hro hE hfr hr hmk hnx hk hP=> ?_) (fun hbd=>⟨fun y hy=> ?_,fun o ho=> ?_⟩) (fun o ho=> ?_) (fun ops sK Rk hbd hr0=> ?_) (fun oc ho=> ?_) (fun y hy=> ?_)
 ·subst he;refine DK (g:=g) (H:=h.hp.get) (nx:=h.nx) hi hw hop hc has hfr (fun _ _=>rfl) (fun u us hu hus=>(hs hbd).2.2 (m-1) g w u us hE hr hnx hu hus) ?_
  rintro e w' ⟨x,hx,u,g',rfl,h1,h2,h3,h4,h5⟩;refine ⟨x.pan,u,rfl,fun hp=> ?_,fun hp=> ?_⟩
  ·refine hk (bc tm o.dst x.v,mk,x.h) (List.mem_map.2 ⟨x,List.mem_filter.2 ⟨hx,by simp[hp]⟩,rfl⟩) g' _ w' ?_ h2 h3 (by rw[put_defers];exact hmk.mono h3.le) h5 h4
   rw[jM];exact (hfr.mono h3.le).put hd h1
  ·exact hP ⟨.pan x.v,tm,mk,x.h⟩ (List.mem_map.2 ⟨x,List.mem_filter.2 ⟨hx,hp⟩,rfl⟩) g' a w' _ (.pan h1) (hfr.mono h3.le) h2 h3 (hmk.mono h3.le) h5 h4
 ·obtain ⟨x,hx,rfl⟩:=List.mem_map.1 hy;exact ⟨(hs hbd).2.1 x (List.mem_filter.1 hx).1,gU.refl _ _⟩
 ·obtain ⟨x,hx,rfl⟩:=List.mem_map.1 ho;exact ⟨(hs hbd).2.1 x (List.mem_filter.1 hx).1,gU.refl _ _⟩
 ·obtain ⟨x,hx,rfl⟩:=List.mem_map.1 ho;obtain ⟨hx1,hx2⟩:=List.mem_filter.1 hx;rcases way x hx1 with ⟨_,h1⟩|⟨h1,_⟩
  ·exact h1
  ·rw[h1] at hx2;simp at hx2
 ·subst hr0;obtain ⟨x,hx⟩:=List.exists_mem_of_ne_nil _ hne;rcases way x hx with ⟨_,h1⟩|⟨_,r',h1,h2⟩
  ·simp at h1
  ·obtain ⟨qM,_⟩:=h1 ops sK Rk ((hs hbd).2.1 x hx).bd;obtain ⟨z,hz⟩:=List.exists_mem_of_ne_nil _ qM;have:=h2 z hz;simp at this
 ·obtain ⟨x,hx,r',h1,h2⟩:=q2 oc ho;cases hp:x.pan with
  |true=>
   rw[hp] at h1;cases (show Out.aS [⟨.pan x.v,tm,mk,x.h⟩]= .aS r' from h1);obtain rfl:=List.mem_singleton.1 h2;exact .inl (List.mem_map.2 ⟨x,List.mem_filter.2 ⟨hx,hp⟩,rfl⟩)
  |false=>
   rw[hp] at h1;have ih:=cu (.ops nt all l (bc tm o.dst x.v) mk x.h);rw[show rec (.ops nt all l (bc tm o.dst x.v) mk x.h)= .aS r' from h1] at ih;exact .inr ⟨(bc tm o.dst x.v,mk,x.h),List.mem_map.2 ⟨x,List.mem_filter.2 ⟨hx,by simp[hp]⟩,rfl⟩,r',ih,h2⟩
 ·obtain ⟨x,hx,rfl⟩:=List.mem_map.1 hy;obtain ⟨hx1,hx2⟩:=List.mem_filter.1 hx;rcases way x hx1 with ⟨h1,_⟩|⟨_,h1⟩
  ·rw[h1] at hx2;simp at hx2
  ·exact h1
theorem XC {rec:Job->Out} {h:Hs} {fo:Option SV} {ao:Option (List SV)} {k kp:SV->Hs->Out} {r:List Oc} (hg:goK rec h fo ao k kp= .aS r):∃fv aa rs,fo=some fv/\ao=some aa/\rec (.call fv aa h)= .bX rs/\me (fun x:Rs=>sel x.pan (kp x.v x.h) (k x.v x.h)) rs= .aS r:=by
 cases fo with
 |none=>cases hg
 |some fv=>
  cases ao with
  |none=>cases hg
  |some aa=>
   obtain ⟨rs,h1,h2⟩:=Qe (show DF (rec (.call fv aa h)) k kp= .aS r from hg);exact ⟨fv,aa,rs,rfl,rfl,h1,h2⟩
theorem C4 {rec:Job->Out} (cu:∀j,Sound E j (rec j)) (nt:Nat) (all l:List Oper) (tm:Tr SV) (mk:List Dm) (h:Hs):Sound E (.ops nt all l tm mk h) (N3 E rec nt all l tm mk h):=by
 cases l with
 |nil=>
  intro ops he hd hbd;refine ⟨by simp,fun o ho=> ?_,fun ro m g a w Q hro hE hfr hr hmk hnx hk=> ?_⟩
  ·obtain rfl:=List.mem_singleton.1 ho;exact ⟨Fac.refl hbd,gU.refl _ _⟩
  ·simp only[List.length_nil,List.range'_zero];exact hk ⟨.normal,tm,mk,h⟩ (by simp) g a w _ .normal hfr hr (Fr.refl _ _ _) hmk hnx (fun _ _=>rfl)
 |cons o l=>
  show Sound E _ (sel (cm nt o.dst) (xk E rec nt all l tm mk h o (bJ all o tm.get)) (.fail "slot"));rw[aA];split;rotate_left
  ·trivial
  rename_i hd;unfold xk;cases hw:bJ all o tm.get with
  |none=>trivial
  |some wb=>
   show Sound E _ (sel wb (doK E rec nt all l tm mk h o (dG o.op)) (jP rec nt all l tm mk o.dst (.tup []) h));cases wb with
   |false=>exact YU hw hd (cu _)
   |true=>
    show Sound E _ (doK E rec nt all l tm mk h o (dG o.op));unfold doK;cases hc:dG o.op with
    |some c=>
     obtain ⟨hop,_⟩:=zh hc;show Sound E _ (goK rec h (fq tm.get c.callee) (bE tm.get c.args.toList) (jP rec nt all l tm mk o.dst) fun v h=>.code (.pan v) tm mk h)
     cases hg:goK rec h (fq tm.get c.callee) (bE tm.get c.args.toList) (jP rec nt all l tm mk o.dst) fun v h=>.code (.pan v) tm mk h with
     |aS r=>
      obtain ⟨fv,aa,rs,h1,h2,h3,h4⟩:=XC hg;have hs:=cu (.call fv aa h);rw[h3] at hs;exact YW cu hw hd hop h1 h2 hs h4
     |_=>trivial
    |none=>
     show Sound E _ (Ge E rec nt all l tm mk h o (mv o.op) (kR o.op));unfold Ge;cases hdf:mv o.op with
     |some c=>
      obtain ⟨hop,_⟩:=LH hdf;show Sound E _ (LI rec nt all l tm mk h o (aC (fq tm.get c.callee) (bE tm.get c.args.toList) vO));unfold LI;cases hb:aC (fq tm.get c.callee) (bE tm.get c.args.toList) vO with
      |none=>trivial
      |some d=>
       obtain ⟨fv,aa,h1,h2,h3⟩:=av hb;show Sound E _ (rec (.ops nt all l (bc tm o.dst .undef) (d::mk) h));have ih:=cu (.ops nt all l (bc tm o.dst .undef) (d::mk) h);cases hr:rec (.ops nt all l (bc tm o.dst .undef) (d::mk) h) with
       |aS r=>rw[hr] at ih;exact WS hw hd hop h1 h2 h3 ih
       |_=>trivial
     |none=>
      show Sound E _ (@Option.rec Operand (fun _=>Out) (AQ E rec nt all l tm mk h o (mG o.op)) (fun x=>A3 tm mk h (ai (aI tm.get x) DJ)) (kR o.op))
      cases hpn:kR o.op with
      |some x=>
       have hop:=J5 hpn;show Sound E _ (A3 tm mk h (ai (aI tm.get x) DJ));unfold A3;cases hb:ai (aI tm.get x) DJ with
       |none=>trivial
       |some v=>
        obtain ⟨y,h1,h2⟩:=ae hb;exact WQ hw hop h1 h2
      |none=>
       show Sound E _ (AQ E rec nt all l tm mk h o (mG o.op));unfold AQ;cases hnx:mG o.op with
       |some x=>
        show Sound E _ (QL rec nt all l tm mk h o.dst x.2 (aI tm.get x.1));unfold QL;cases hb:ai (aI tm.get x.1) mi with
        |none=>trivial
        |some id=>
         obtain ⟨y,h1,h2⟩:=ae hb;show Sound E _ (sel x.2 (BN rec nt all l tm mk h o.dst (tD h.hp.get id)) (m9 rec nt all l tm mk h o.dst id));rcases NI hnx with ⟨hop,hx2⟩|⟨hop,hx2⟩
         ·rw[hx2];show Sound E _ (m9 rec nt all l tm mk h o.dst id);cases hr:m9 rec nt all l tm mk h o.dst id with
          |aS r=>exact YV cu hw hd hop h1 h2 hr
          |_=>trivial
         ·rw[hx2];show Sound E _ (BN rec nt all l tm mk h o.dst (tD h.hp.get id));unfold BN;cases hv:tD h.hp.get id with
          |none=>trivial
          |some v=>
           show Sound E _ (rec (.ops nt all l (bc tm o.dst v) mk h));have ih:=cu (.ops nt all l (bc tm o.dst v) mk h);cases hr:rec (.ops nt all l (bc tm o.dst v) mk h) with
           |aS r=>rw[hr] at ih;exact WR hw hd hop h1 h2 hv ih
           |_=>trivial
       |none=>
        show Sound E _ (PE rec nt all l tm mk h o (opA E o.op tm.get h.hp.get h.nx));unfold PE;cases ho:opA E o.op tm.get h.hp.get h.nx with
        |none=>trivial
        |some r=>exact aeD hw hd ho (BT ho) (cu _)
end
section
variable {E:Env} {g:Gh} {f:Hf} {w:World}
theorem n6.agJ {ro:Option Nat} {nt:Nat} {all:Array Oper} {i:Nat} {o:Oper} {T:Tf} {need frp newp:Nat->Prop} {H H2 H':Hf} {v:SV} {D:Nat->Bool} (h:n6 E ro nt all i o T need H frp newp v D H') (he:∀x,need x->H x=H2 x):
  n6 E ro nt all i o T need H2 frp newp v D H':=
 fun m g f T1 a w K Q hE hfr hr hT hn hf hk=>h m g f T1 a w K Q hE hfr hr hT (fun x hx=>(hn x hx).trans (he x hx).symm) hf hk
theorem drop_cons {ops:Array Oper} {i:Nat} {o:Oper} {l:List Oper} (h:ops.toList.drop i=o::l):ops[i]? =some o/\ops.toList.drop (i+1)=l/\i<ops.size:=by
 have hi:i<ops.toList.length:=by
  by_cases hl:i<ops.toList.length
  ·exact hl
  ·rw[List.drop_of_length_le (by omega)] at h;simp at h
 rw[List.drop_eq_getElem_cons hi] at h;obtain ⟨h1,h2⟩:=List.cons.inj h;have:ops.toList[i]? =some o:=by rw[List.getElem?_eq_getElem hi,h1]
 exact ⟨by simpa using this,h2,by simpa using hi⟩
theorem zL {new x:Nat}:∀{us:List Up},x∈gZ new us↔(x∈us.map (·.1)/\x≠new)
 | []=>by simp[gZ]
 |u::us=>by
  unfold gZ;rw[aA,beq_eq];by_cases h:u.1=new
  ·simp only[h,decide_true,if_true,List.map_cons,List.mem_cons];rw[zL (us:=us)];constructor
   ·rintro ⟨h1,h2⟩;exact ⟨.inr h1,h2⟩
   ·rintro ⟨h1|h1,h2⟩
    ·exact absurd h1 h2
    ·exact ⟨h1,h2⟩
  ·simp only[h,decide_false,Bool.false_eq_true,if_false,List.map_cons,List.mem_cons];rw[zL (us:=us)];constructor
   ·rintro (h1|⟨h1,h2⟩)
    ·subst h1;exact ⟨.inl rfl,h⟩
    ·exact ⟨.inr h1,h2⟩
   ·rintro ⟨h1|h1,h2⟩
    ·exact .inl h1
    ·exact .inr ⟨h1,h2⟩
theorem ia {n x:Nat}:∀{l acc:List Nat},x∈below n l acc↔(x∈l/\x<n)\/x∈acc
 | [],acc=>by simp[below]
 |y::l,acc=>by
  unfold below;rw[aA,ble_eq];by_cases h:y+1<=n
  ·simp only[h,decide_true,if_true];rw[ia (l:=l)];simp only[List.mem_cons];constructor
   ·rintro (⟨h1,h2⟩|h1|h1)
    ·exact .inl ⟨.inr h1,h2⟩
    ·subst h1;exact .inl ⟨.inl rfl,h⟩
    ·exact .inr h1
   ·rintro (⟨h1|h1,h2⟩|h1)
    ·exact .inr (.inl h1)
    ·exact .inl ⟨h1,h2⟩
    ·exact .inr (.inr h1)
  ·simp only[show Nat.succ y<=n↔y+1<=n from Iff.rfl,h,decide_false,Bool.false_eq_true,if_false];rw[ia (l:=l)];simp only[List.mem_cons];constructor
   ·rintro (⟨h1,h2⟩|h1)
    ·exact .inl ⟨.inr h1,h2⟩
    ·exact .inr h1
   ·rintro (⟨h1|h1,h2⟩|h1)
    ·subst h1;omega
    ·exact .inl ⟨h1,h2⟩
    ·exact .inr h1
def Hid (m:Nat) (prev:List Rc) (x:Nat):Prop:=∃p∈prev,dM m p.i=false/\p.lo=x
theorem eK {m:Nat}:∀(prev:List Rc) (hp:Hp) (x:Nat),(Hid m prev x->(fR m prev hp).get x=none)/\(¬Hid m prev x->(fR m prev hp).get x=hp.get x)
 | [],hp,x=>⟨fun ⟨p,hp,_⟩=>by simp at hp,fun _=>rfl⟩
 |q::ps,hp,x=>by
  unfold fR;rw[aA];cases hb:dM m q.i with
  |true=>
   rw[if_pos rfl];obtain ⟨h1,h2⟩:=eK ps hp x;have:Hid m (q::ps) x↔Hid m ps x:=by
    constructor
    ·rintro ⟨p,h,h3,h4⟩;rcases List.mem_cons.1 h with rfl|h
     ·rw[hb] at h3;simp at h3
     ·exact ⟨p,h,h3,h4⟩
    ·rintro ⟨p,h,h3,h4⟩;exact ⟨p,by simp[h],h3,h4⟩
   exact ⟨fun h=>h1 (this.1 h),fun h=>h2 (fun h'=>h (this.2 h'))⟩
  |false=>
   rw[if_neg (by simp)]
   obtain ⟨h1,h2⟩:=eK ps (hp.set q.lo none) x;refine ⟨fun ⟨p,h,h3,h4⟩=> ?_,fun h=> ?_⟩
   ·by_cases hh:Hid m ps x
    ·exact h1 hh
    ·rw[h2 hh,Tr.da];rcases List.mem_cons.1 h with rfl|h
     ·rw[if_pos h4.symm]
     ·exact absurd ⟨p,h,h3,h4⟩ hh
   ·rw[h2 (fun ⟨p,h',h3,h4⟩=>h ⟨p,by simp[h'],h3,h4⟩),Tr.da,if_neg (fun e=>h ⟨q,by simp,hb,e.symm⟩)]
theorem iU {m:Nat} {old:Hp}:∀(prev:List Rc) (hp:Hp) (x:Nat),(Hid m prev x->(eD m old prev hp).get x=old.get x)/\(¬Hid m prev x->(eD m old prev hp).get x=hp.get x)
 | [],hp,x=>⟨fun ⟨p,hp,_⟩=>by simp at hp,fun _=>rfl⟩
 |q::ps,hp,x=>by
  unfold eD;rw[aA];cases hb:dM m q.i with
  |true=>
   rw[if_pos rfl];obtain ⟨h1,h2⟩:=iU (old:=old) ps hp x;have:Hid m (q::ps) x↔Hid m ps x:=by
    constructor
    ·rintro ⟨p,h,h3,h4⟩;rcases List.mem_cons.1 h with rfl|h
     ·rw[hb] at h3;simp at h3
     ·exact ⟨p,h,h3,h4⟩
    ·rintro ⟨p,h,h3,h4⟩;exact ⟨p,by simp[h],h3,h4⟩
   exact ⟨fun h=>h1 (this.1 h),fun h=>h2 (fun h'=>h (this.2 h'))⟩
  |false=>
   rw[if_neg (by simp)]
   obtain ⟨h1,h2⟩:=iU (old:=old) ps (hp.set q.lo (old.get q.lo)) x;refine ⟨fun ⟨p,h,h3,h4⟩=> ?_,fun h=> ?_⟩
   ·by_cases hh:Hid m ps x
    ·exact h1 hh
    ·rw[h2 hh,Tr.da];rcases List.mem_cons.1 h with rfl|h
     ·rw[if_pos h4.symm,h4]
     ·exact absurd ⟨p,h,h3,h4⟩ hh
   ·rw[h2 (fun ⟨p,h',h3,h4⟩=>h ⟨p,by simp[h'],h3,h4⟩),Tr.da,if_neg (fun e=>h ⟨q,by simp,hb,e.symm⟩)]
theorem wM {nt W:Nat} {all:List Oper} {base i M:Nat} {prev:List Rc} {o:Oper} {l:List Oper} {tm tm1:Tr SV} {h h1:Hs} {r:Rc} {out:Out} (m:Nat)
  (hc:∀(ops:Array Oper),ops.toList=all->W=ops.size->ops[i]? =some o->i<W->base+W<=h.nx->Bd h->(∀x,h.hp.get x≠none->¬(base+i<=x/\x<base+W))->(∀x,dM m x=true->x∈anc ops (i+1) i)->(∀p∈prev,p.call=false->p.hi=p.lo+1/\p.lo<base+W)->
   ∀ps:List St,ps.map (·.rc)=prev->∃s:St,s.rc=r/\Cnd E nt W ops base i ps o tm.get h.hp.get h.nx s h1.nx/\tm1.get=fO tm.get s.u.dst s.u.v/\h1.hp.get=ir s.u.D s.u.H h.hp.get/\
    (∀x∈h.lg,x∈h1.lg)/\(∀x,x<h.nx->¬(base+i<=x/\x<base+W)->x∉h1.lg->h1.hp.get x=h.hp.get x)/\(∀x,x<h.nx->¬(base+i<=x/\x<base+W)->h.hp.get x=none->h1.hp.get x=none)/\Bd h1/\
    (∀x,h1.hp.get x≠none->¬(base+(i+1)<=x/\x<base+W))/\(r.call=false->r.hi=r.lo+1/\r.lo<base+W))
  (hm:m=Nat.mod (fD W M (dB o)) (Nat.pow 2 W))
  (ih:Sound E (.draw nt W all base (i+1) (Nat.lor M (Nat.shiftLeft m (Nat.mul i W))) (r::prev) l tm1 h1) out):Sound E (.draw nt W all base i M prev (o::l) tm h) out:=by
 cases out with
 |st tm' h'=>
  intro ops he hW hd hb hbd bf hinv hpr ps hps;obtain ⟨hi,hd',hlt⟩:=drop_cons hd;obtain ⟨m1,m2⟩:=rQ hi hinv;obtain ⟨s,hr,jW,htm,hh,f1,f2,f3,f4,f5,f6⟩:=hc ops he hW hi (by omega) hb hbd bf (fun x hx=>(m1 x (by rw[<-hm];exact (uV _ _).1 hx)).2) hpr ps hps
  obtain ⟨k1,out,k2⟩:=ih ops he hW hd' (Nat.le_trans hb jW.oO) f4 f5 (by rw[hm];exact m2) (fun p hp=>by
   rcases List.mem_cons.1 hp with rfl|hp
   ·exact f6
   ·exact hpr p hp) (s::ps) (by simp[hr,hps])
  refine ⟨⟨Nat.le_trans jW.oO k1.nx,k1.bd,fun x hx hn hl=> ?_,fun x hx=>k1.sub x (f1 x hx),fun x hx hn hl=> ?_⟩,out,?_⟩
  ·have hx1:x<h1.nx:=Nat.lt_of_lt_of_le hx jW.oO;rw[k1.lg x hx1 (fun hc=>hn ⟨by omega,hc.2⟩) hl]
   exact f2 x hx hn (fun hc=>hl (k1.sub x hc))
  ·have hx1:x<h1.nx:=Nat.lt_of_lt_of_le hx jW.oO;exact k1.dead x hx1 (fun hc=>hn ⟨by omega,hc.2⟩) (f3 x hx hn hl)
  ·rw[htm,hh] at k2;exact .cons jW k2
 |aS r=>
  intro ops he hW hd hb hbd bf hinv hpr ps hps;obtain ⟨hi,hd',hlt⟩:=drop_cons hd;obtain ⟨m1,m2⟩:=rQ hi hinv;obtain ⟨s,hr,jW,htm,hh,f1,f2,f3,f4,f5,f6⟩:=hc ops he hW hi (by omega) hb hbd bf (fun x hx=>(m1 x (by rw[<-hm];exact (uV _ _).1 hx)).2) hpr ps hps
  obtain ⟨v,tm',dm,h',hr',k1,l0,o',out,F1,nx1,e1,k2,k3⟩:=ih ops he hW hd' (Nat.le_trans hb jW.oO) f4 f5 (by rw[hm];exact m2) (fun p hp=>by
   rcases List.mem_cons.1 hp with rfl|hp
   ·exact f6
   ·exact hpr p hp) (s::ps) (by simp[hr,hps])
  refine ⟨v,tm',dm,h',hr',⟨Nat.le_trans jW.oO k1.nx,k1.bd,fun x hx hn hl=> ?_,fun x hx=>k1.sub x (f1 x hx),fun x hx hn hl=> ?_⟩,o::l0,o',out,F1,nx1,by rw[e1];rfl,?_,?_⟩
  ·have hx1:x<h1.nx:=Nat.lt_of_lt_of_le hx jW.oO;rw[k1.lg x hx1 (fun hc=>hn ⟨by omega,hc.2⟩) hl]
   exact f2 x hx hn (fun hc=>hl (k1.sub x hc))
  ·have hx1:x<h1.nx:=Nat.lt_of_lt_of_le hx jW.oO;exact k1.dead x hx1 (fun hc=>hn ⟨by omega,hc.2⟩) (f3 x hx hn hl)
  ·rw[htm,hh] at k2;exact .cons jW k2
  ·have e:i+(o::l0).length=i+1+l0.length:=by simp;omega
   rw[e];exact k3
 |_=>trivial
theorem KR {m:Nat} {r:Rc} {prev:List Rc} (h:cZ m r prev=true) {ps:List St} (hps:ps.map (·.rc)=prev):∀p∈ps,dM m p.rc.i=true\/Cf p.rc r:=by
 intro p hp;have jV:p.rc∈prev:=by rw[<-hps];exact List.mem_map.2 ⟨p,hp,rfl⟩
 rcases lL h p.rc jV with h1|h1
 ·exact .inl h1
 ·exact .inr (zb h1)
theorem aai {nt W:Nat} {all:List Oper} {base i M:Nat} {prev:List Rc} {o:Oper} {l:List Oper} {tm:Tr SV} {h:Hs} {out:Out} {v:SV} {us:List Up} (m:Nat) (hm:m=Nat.mod (fD W M (dB o)) (Nat.pow 2 W)) (hlt:gp i (dB o)=true)
  (hw:bJ all o tm.get=some true) (hd:cm nt o.dst=true) (ho:opA E o.op tm.get h.hp.get (base+i)=some (v,us)) (hnd:∀c,o.op≠ .defer c) (Ee:cZ m ⟨i,false,eP o.op tm.get,gZ (base+i) us,base+i,base+i+1⟩ prev=true)
  (ih:Sound E (.draw nt W all base (i+1) (Nat.lor M (Nat.shiftLeft m (Nat.mul i W))) (⟨i,false,eP o.op tm.get,gZ (base+i) us,base+i,base+i+1⟩::prev) l (bc tm o.dst v) (h.ups us)) out):
  Sound E (.draw nt W all base i M prev (o::l) tm h) out:=by
 refine wM m (fun ops he hW hi hiW hb hbd bf Lj hpr ps hps=> ?_) hm ih
 have hnx:(h.ups us).nx=h.nx:=qh _ _;have hg:(h.ups us).hp.get=g4 h.hp.get us:=xm _ _;obtain ⟨l1,l2⟩:=Ib us h;have hk:=Ki ho;have kq:h.hp.get (base+i)=none:=by
  cases hx:h.hp.get (base+i) with
  |none=>rfl
  |some o'=>exact absurd ⟨Nat.le_refl _,by omega⟩ (bf (base+i) (by rw[hx];simp))
 have v8:∀x,x∈us.map (·.1)->x=base+i\/(h.hp.get x≠none/\x<h.nx):=by
  intro x hx;obtain ⟨u,hu,rfl⟩:=List.mem_map.1 hx;rcases hk u hu with h1|h1
  ·exact .inl h1
  ·refine .inr ⟨h1,?_⟩;by_cases hl:h.nx<=u.1
   ·exact absurd (hbd _ hl) h1
   ·omega
 have Ed:base+i<h.nx:=by omega
 refine ⟨⟨⟨o.dst,v,pn us (base+i),g4 h.hp.get us⟩,⟨i,false,eP o.op tm.get,gZ (base+i) us,base+i,base+i+1⟩,m,fun x=>x∈eP o.op tm.get,fun x=>x=base+i,fun x=>x=base+i/\us≠ []⟩,rfl,?_,jM _ _ _,?_,l1,fun x hx hn hl=> ?_,fun x hx hn hl=> ?_,fun x hx=> ?_,fun x hx=> ?_,fun _=>⟨rfl,by show base+i<base+W;omega⟩⟩
 ·refine ⟨rfl,fun ro=> ?_,oH hlt,Lj,rfl,KR Ee hps,fun x=> ?_,fun _=>⟨rfl,rfl,by rw[hnx],fun x hx=>hx,fun x hx=>hx,fun x hx=>hx.1⟩,(fun hc=>by cases hc),by rw[hnx];exact Nat.le_refl _,bf,hb⟩
  ·subst he;exact yT hi hw hd ho kq (fun x=>by simp[pn]) hnd
  ·show pn us (base+i) x=true↔(x∈gZ (base+i) us\/(base+i<=x/\x<base+i+1));rw[zL];simp only[pn,decide_eq_true_eq];constructor
   ·rintro (h1|h1)
    ·by_cases e:x=base+i
     ·exact .inr ⟨by omega,by omega⟩
     ·exact .inl ⟨h1,e⟩
    ·exact .inr ⟨by omega,by omega⟩
   ·rintro (⟨h1,_⟩|⟨h1,h2⟩)
    ·exact .inl h1
    ·exact .inr (by omega)
 ·rw[hg];funext x;show g4 h.hp.get us x=ir (pn us (base+i)) (g4 h.hp.get us) h.hp.get x;unfold ir pn;by_cases h1:x∈us.map (·.1)
  ·rw[if_pos (by simp only[decide_eq_true_eq];exact .inl h1)]
  ·rw[iT h1];split<;>rfl
 ·rw[hg,iT (fun hc=>by obtain ⟨u,hu,rfl⟩:=List.mem_map.1 hc;exact hl (l2 u hu))]
 ·rw[hg,iT (fun hc=>by
   rcases v8 x hc with h1|h1
   ·exact hn ⟨by omega,by omega⟩
   ·exact h1.1 hl)]
  exact hl
 ·rw[hnx] at hx;rw[hg,iT (fun hc=>by rcases v8 x hc with h1|h1<;>omega)]
  exact hbd x hx
 ·intro hcc;by_cases hc:x∈us.map (·.1)
  ·rcases v8 x hc with h1|h1
   ·omega
   ·exact bf x h1.1 ⟨by omega,hcc.2⟩
  ·rw[hg,iT hc] at hx;exact bf x hx ⟨by omega,hcc.2⟩
theorem XN {nt W:Nat} {all:List Oper} {base i M:Nat} {prev:List Rc} {o:Oper} {l:List Oper} {tm:Tr SV} {h:Hs} {out:Out} (m:Nat) (hm:m=Nat.mod (fD W M (dB o)) (Nat.pow 2 W)) (hlt:gp i (dB o)=true)
  (hw:bJ all o tm.get=some false) (hd:cm nt o.dst=true) (Ee:cZ m ⟨i,false,[],[],base+i,base+i+1⟩ prev=true)
  (ih:Sound E (.draw nt W all base (i+1) (Nat.lor M (Nat.shiftLeft m (Nat.mul i W))) (⟨i,false,[],[],base+i,base+i+1⟩::prev) l (bc tm o.dst (.tup [])) h) out):
  Sound E (.draw nt W all base i M prev (o::l) tm h) out:=by
 refine wM m (fun ops he hW hi hiW hb hbd bf Lj hpr ps hps=> ?_) hm ih
 have kq:h.hp.get (base+i)=none:=by
  cases hx:h.hp.get (base+i) with
  |none=>rfl
  |some o'=>exact absurd ⟨Nat.le_refl _,by omega⟩ (bf (base+i) (by rw[hx];simp))
 refine ⟨⟨⟨o.dst,.tup [],fun x=>decide (x=base+i),h.hp.get⟩,⟨i,false,[],[],base+i,base+i+1⟩,m,fun _=>False,fun x=>x=base+i,fun _=>False⟩,rfl,?_,jM _ _ _,?_,fun x hx=>hx,fun x _ _ _=>rfl,fun x _ _ hl=>hl,hbd,fun x hx hcc=>bf x hx ⟨by omega,hcc.2⟩,fun _=>⟨rfl,by show base+i<base+W;omega⟩⟩
 ·refine ⟨rfl,fun ro=> ?_,oH hlt,Lj,rfl,KR Ee hps,fun x=> ?_,fun _=>⟨rfl,rfl,rfl,fun x hx=>hx.elim,fun x hx=>hx,fun x hx=>hx.elim⟩,(fun hc=>by cases hc),Nat.le_refl _,bf,hb⟩
  ·subst he;exact step_skip hi hw hd kq (fun x=>by simp)
  ·show decide (x=base+i)=true↔(x∈([]:List Nat)\/(base+i<=x/\x<base+i+1));simp;omega
 ·funext x;unfold ir;split<;>rfl
theorem XO {nt W:Nat} {all:List Oper} {base i M:Nat} {prev:List Rc} {o:Oper} {c:Call} {l:List Oper} {tm:Tr SV} {h h2:Hs} {out:Out} {fv v:SV} {aa:List SV} (m:Nat) (hm:m=Nat.mod (fD W M (dB o)) (Nat.pow 2 W)) (hlt:gp i (dB o)=true)
  (hw:bJ all o tm.get=some true) (hd:cm nt o.dst=true) (hop:o.op= .call c) (hc:fq tm.get c.callee=some fv) (has:bE tm.get c.args.toList=some aa) (hs:Sound E (.call fv aa ⟨fR m prev h.hp,h.nx,[]⟩) (.res v h2))
  (Ee:cZ m ⟨i,true,[],below h.nx h2.lg [],h.nx,h2.nx⟩ prev=true)
  (ih:Sound E (.draw nt W all base (i+1) (Nat.lor M (Nat.shiftLeft m (Nat.mul i W))) (⟨i,true,[],below h.nx h2.lg [],h.nx,h2.nx⟩::prev) l (bc tm o.dst v) ⟨eD m h.hp prev h2.hp,h2.nx,below h.nx h2.lg h.lg⟩) out):
  Sound E (.draw nt W all base i M prev (o::l) tm h) out:=by
 refine wM m (fun ops he hW hi hiW hb hbd bf Lj hpr ps hps=> ?_) hm ih
 have hbm:Bd ⟨fR m prev h.hp,h.nx,[]⟩:=by
  intro x hx;show (fR m prev h.hp).get x=none;by_cases hh:Hid m prev x
  ·exact (eK prev h.hp x).1 hh
  ·rw[(eK prev h.hp x).2 hh];exact hbd x hx
 obtain ⟨_,fac,sem⟩:=(show Bd ⟨fR m prev h.hp,h.nx,[]⟩->_ from hs) hbm;have fac:Fac ⟨fR m prev h.hp,h.nx,[]⟩ h2:=fac ⟨false,v,h2⟩ (by simp)
 have sem:=kK.one sem;have fnx:h.nx<=h2.nx:=fac.nx;have Rm:∀x,Hid m prev x->x<base+W/\x∉h2.lg:=by
  rintro x ⟨p,hp,hb1,rfl⟩;rcases lL Ee p hp with h1|h1
  ·rw[hb1] at h1;simp at h1
  ·have hI:=zb h1;obtain ⟨c1,c2⟩:=hI.c2 rfl;obtain ⟨e1,e2⟩:=hpr p hp c1;refine ⟨e2,fun hl=> ?_⟩
   have:=hI.a2 p.lo (ia.2 (.inl ⟨hl,by omega⟩))
   omega
 have BG:∀x,(eD m h.hp prev h2.hp).get x=if x∈h2.lg/\x<h.nx\/h.nx<=x/\x<h2.nx then h2.hp.get x else h.hp.get x:=by
  intro x;by_cases hh:Hid m prev x
  ·obtain ⟨q1,q2⟩:=Rm x hh;rw[(iU prev h2.hp x).1 hh,if_neg (by rintro (⟨h1,_⟩|⟨h1,_⟩);exact q2 h1;omega)]
  ·rw[(iU prev h2.hp x).2 hh];split
   ·rfl
   ·rename_i hn;by_cases hx:x<h.nx
    ·have:=fac.lg x hx (fun hl=>hn (.inl ⟨hl,hx⟩))
     rw[this];exact (eK prev h.hp x).2 hh
    ·rw[fac.bd x (by
      by_cases hx2:x<h2.nx
      ·exact absurd (.inr ⟨by omega,hx2⟩) hn
      ·show h2.nx<=x;omega),hbd x (by omega)]
 have adw:∀x,x<h.nx->h.hp.get x=none->h2.hp.get x=none:=by
  intro x hx hn;refine fac.dead x hx ?_;show (fR m prev h.hp).get x=none;by_cases hh:Hid m prev x
  ·exact (eK prev h.hp x).1 hh
  ·rw[(eK prev h.hp x).2 hh];exact hn
 refine ⟨⟨⟨o.dst,v,fun x=>decide (x∈h2.lg/\x<h.nx\/h.nx<=x/\x<h2.nx),h2.hp.get⟩,⟨i,true,[],below h.nx h2.lg [],h.nx,h2.nx⟩,m,fun x=>(fR m prev h.hp).get x≠none,fun x=>h.nx<=x,fun x=>h.nx<=x/\x<h2.nx⟩,rfl,?_,jM _ _ _,?_,fun x hx=>ia.2 (.inr hx),fun x hx hn hl=> ?_,fun x hx hn hl=> ?_,fun x hx=> ?_,fun x hx=> ?_,fun hc=>by cases hc⟩
 ·refine ⟨rfl,fun ro=> ?_,oH hlt,Lj,rfl,KR Ee hps,fun x=> ?_,(fun hc=>by cases hc),fun _=>⟨rfl,rfl,fun x hx=>⟨?_,fun p hp hbp hxe=> ?_⟩,fun x hx=>hx,fun x hx=>hx⟩,fnx,bf,hb⟩
  ·subst he;refine n6.agJ (TF (D:=fun x=>decide (x∈h2.lg/\x<h.nx\/h.nx<=x/\x<h2.nx)) hi hw hd hop hc has sem (fun x hx hl=> ?_) (fun x hx hl=> ?_)) (fun x hx=> ?_)
   ·have hn:¬(x∈h2.lg/\x<h.nx\/h.nx<=x/\x<h2.nx):=by simpa using hx
    exact fac.lg x hl (fun hc=>hn (.inl ⟨hc,hl⟩))
   ·have hn:¬(x∈h2.lg/\x<h.nx\/h.nx<=x/\x<h2.nx):=by simpa using hx
    refine fac.bd x ?_;by_cases hx2:x<h2.nx
    ·exact absurd (.inr ⟨hl,hx2⟩) hn
    ·omega
   ·by_cases hh:Hid m prev x
    ·exact absurd ((eK prev h.hp x).1 hh) hx
    ·exact (eK prev h.hp x).2 hh
  ·show decide (x∈h2.lg/\x<h.nx\/h.nx<=x/\x<h2.nx)=true↔(x∈below h.nx h2.lg []\/(h.nx<=x/\x<h2.nx));rw[ia];simp
  ·by_cases hh:Hid m prev x
   ·exact absurd ((eK prev h.hp x).1 hh) hx
   ·rw[<-(eK prev h.hp x).2 hh];exact hx
  ·have hh:Hid m prev x:=⟨p.rc,by rw[<-hps];exact List.mem_map.2 ⟨p,hp,rfl⟩,hbp,hxe.symm⟩
   exact hx ((eK prev h.hp x).1 hh)
 ·funext x;show (eD m h.hp prev h2.hp).get x=ir _ h2.hp.get h.hp.get x;rw[BG];unfold ir;simp only[decide_eq_true_eq]
 ·show (eD m h.hp prev h2.hp).get x=_;rw[BG,if_neg (by
   rintro (⟨h1,h3⟩|⟨h1,_⟩)
   ·exact hl (ia.2 (.inl ⟨h1,h3⟩))
   ·omega)]
 ·show (eD m h.hp prev h2.hp).get x=_;rw[BG];split
  ·exact adw x hx hl
  ·exact hl
 ·have hx:h2.nx<=x:=hx;show (eD m h.hp prev h2.hp).get x=_;rw[BG,if_neg (by omega)]
  exact hbd x (by omega)
 ·intro hcc;have hx:(eD m h.hp prev h2.hp).get x≠none:=hx;rw[BG] at hx;have Rh:x<h.nx:=by omega
  have hn0:h.hp.get x=none:=by
   cases hq:h.hp.get x with
   |none=>rfl
   |some o'=>exact absurd ⟨by omega,hcc.2⟩ (bf x (by rw[hq];simp))
  split at hx
  ·exact hx (adw x Rh hn0)
  ·exact hx hn0
theorem vV {m:Nat}:∀{i:Nat},nn m i=true->∀j,j<i->dM m j=true
 |0,_,j,hj=>by omega
 |i+1,h,j,hj=>by
  have h:(dM m i&&nn m i)=true:=h;rw[Bool.and_eq_true] at h;by_cases e:j=i
  ·rw[e];exact h.1
  ·exact vV h.2 j (by omega)
theorem aaj {nt W:Nat} {all:List Oper} {base i M:Nat} {prev:List Rc} {o:Oper} {c:Call} {l:List Oper} {tm:Tr SV} {h h2:Hs} {fv v:SV} {aa:List SV} (m:Nat) (hm:m=Nat.mod (fD W M (dB o)) (Nat.pow 2 W)) (hlt:gp i (dB o)=true)
  (hw:bJ all o tm.get=some true) (hop:o.op= .call c) (hc:fq tm.get c.callee=some fv) (has:bE tm.get c.args.toList=some aa) (hs:Sound E (.call fv aa ⟨fR m prev h.hp,h.nx,[]⟩) (.pan v h2)) (hl:Gi l=true) (hma:nn m i=true) (hab:nJ m prev=true):
  Sound E (.draw nt W all base i M prev (o::l) tm h) (.aS [⟨.pan v,tm,[],⟨h2.hp,h2.nx,below h.nx h2.lg h.lg⟩⟩]):=by
 intro ops he hW hd hb hbd bf hinv hpr ps hps;obtain ⟨hi,hd',Rh⟩:=drop_cons hd;obtain ⟨m1,m2⟩:=rQ hi hinv;have nC:l= []:=by cases l with
  |nil=>rfl
  |cons _ _=>cases hl
 subst nC;have Gs:i+1=ops.size:=by
  have:=congrArg List.length hd;simp at this;omega
 have hH:(fR m prev h.hp).get=h.hp.get:=by
  funext x;refine (eK prev h.hp x).2 (fun ⟨p,hp,hp2,_⟩=> ?_)
  have:∀(l:List Rc),nJ m l=true->∀p∈l,dM m p.i=true:=by
   intro l;induction l with
   |nil=>intro _ p hp;simp at hp
   |cons q l ih=>
    intro hq p hp;have hq:(dM m q.i&&nJ m l)=true:=hq;rw[Bool.and_eq_true] at hq;rcases List.mem_cons.1 hp with rfl|hp
    ·exact hq.1
    ·exact ih hq.2 p hp
  rw[this prev hab p hp] at hp2;cases hp2
 have hbm:Bd ⟨fR m prev h.hp,h.nx,[]⟩:=fun x hx=>by
  show (fR m prev h.hp).get x=none;rw[hH];exact hbd x hx
 obtain ⟨_,fac,sem⟩:=(show Bd ⟨fR m prev h.hp,h.nx,[]⟩->_ from hs) hbm;have fac:Fac ⟨fR m prev h.hp,h.nx,[]⟩ h2:=fac ⟨true,v,h2⟩ (by simp)
 have sem:=kK.one sem;have sem:ke E true fv aa (fR m prev h.hp).get h.nx v h2.hp.get h2.nx:=sem;rw[hH] at sem;have glg:∀x,x<h.nx->x∉h2.lg->h2.hp.get x=h.hp.get x:=fun x hx hn=>by rw[<-hH];exact fac.lg x hx hn
 have aiS:∀x,x<h.nx->h.hp.get x=none->h2.hp.get x=none:=fun x hx hn=>fac.dead x hx (by show (fR m prev h.hp).get x=none;rw[hH];exact hn)
 refine ⟨v,tm,[],⟨h2.hp,h2.nx,below h.nx h2.lg h.lg⟩,rfl,⟨fac.nx,fac.bd,fun x hx hn hl=>glg x hx (fun hc=>hl (ia.2 (.inl ⟨hc,hx⟩))),fun x hx=>ia.2 (.inr hx),fun x hx _ hn=>aiS x hx hn⟩,[],o,ps,h.hp.get,h.nx,rfl,.nil,?_⟩
 refine ⟨Gs,hi,oH hlt,fun j hj=>rm _ _ _ (by omega) j (m1 j (by rw[<-hm];exact (uV _ _).1 (vV hma j hj))).2,fac.nx,fun ro mm g a w Q K hE hfr hr hnx hk=> ?_⟩
 subst he;refine DK (g:=g) (H:=h.hp.get) (nx:=h.nx) hi hw hop hc has hfr (fun _ _=>rfl) (fun u us hu hus=>sem (mm-1) g w u us hE hr hnx hu hus) ?_
 rintro e w' ⟨r,rfl,g',h1,h3,h4,h5,h6⟩;exact ⟨true,r,rfl,(fun hc=>by cases hc),fun _=>hk r w' g' h1 h3 h4 h5 h6⟩
theorem ZV {rec:Job->Out} {h:Hs} {fo:Option SV} {ao:Option (List SV)} {k kp:SV->Hs->Out} {Q:Out->Prop} (hf:∀s,Q (.fail s)) (ht:∀a b c,Q (.qj a b c))
  (hr:∀fv aa v h2,fo=some fv->ao=some aa->rec (.call fv aa h)= .res v h2->Q (k v h2)) (hp:∀fv aa v h2,fo=some fv->ao=some aa->rec (.call fv aa h)= .pan v h2->Q (kp v h2)):Q (Rn rec h fo ao k kp):=by
 unfold Rn;cases fo with
 |none=>exact hf _
 |some fv=>
  cases ao with
  |none=>exact hf _
  |some aa=>
   show Q (DO (rec (.call fv aa h)) k kp);cases hrc:rec (.call fv aa h) with
   |bX l=>
    cases l with
    |nil=>exact hf _
    |cons r l=>
     cases l with
     |nil=>
      obtain ⟨pan,v,h2⟩:=r;cases pan with
      |false=>exact hr fv aa v h2 rfl rfl hrc
      |true=>exact hp fv aa v h2 rfl rfl hrc
     |cons _ _=>exact hf _
   |fail s=>exact hf _
   |qj a b c=>exact ht _ _ _
   |_=>exact hf _
theorem Ay {rec:Job->Out} (cu:∀j,Sound E j (rec j)) (nt W:Nat) (all:List Oper) (base i M:Nat) (prev:List Rc) (l:List Oper) (tm:Tr SV) (h:Hs):
  Sound E (.draw nt W all base i M prev l tm h) (Ip E rec nt W all base i M prev l tm h):=by
 cases l with
 |nil=>
  intro ops he hW hd hb hbd bf hinv hpr ps hps;exact ⟨⟨Nat.le_refl _,hbd,fun _ _ _ _=>rfl,fun _ h=>h,fun _ _ _ h=>h⟩,ps,.nil⟩
 |cons o l=>
  show Sound E _ (sel (cm nt o.dst && gp i (dB o)) (force (Nat.mod (fD W M (dB o)) (Nat.pow 2 W)) fun m=>F6 E rec nt W all base i M m prev l tm h o (bJ all o tm.get)) (.fail "slot"))
  rw[aA];split;rotate_left
  ·trivial
  rename_i hd;rw[Bool.and_eq_true] at hd;obtain ⟨hd,hlt⟩:=hd;rw[force_eq];generalize hm:Nat.mod (fD W M (dB o)) (Nat.pow 2 W)=m;unfold F6;have next:∀(r:Rc) (v:SV) (h1:Hs) (out:Out),jQ rec nt W all base i M m prev l tm o.dst r v h1=out->(∃s,out= .fail s)\/(cZ m r prev=true/\out=rec (.draw nt W all base (i+1) (Nat.lor M (Nat.shiftLeft m (Nat.mul i W))) (r::prev) l (bc tm o.dst v) h1)):=by
   intro r v h1 out ho;unfold jQ at ho;rw[aA,force_eq] at ho;split at ho
   ·rename_i hi;exact .inr ⟨hi,ho.symm⟩
   ·exact .inl ⟨_,ho.symm⟩
  cases hw:bJ all o tm.get with
  |none=>trivial
  |some wb=>
   show Sound E _ (sel wb (doD E rec nt W all base i M m prev l tm h o (dG o.op)) (jQ rec nt W all base i M m prev l tm o.dst ⟨i,false,[],[],Nat.add base i,Nat.add (Nat.add base i) 1⟩ (.tup []) h));cases wb with
   |false=>
    show Sound E _ (jQ rec nt W all base i M m prev l tm o.dst ⟨i,false,[],[],Nat.add base i,Nat.add (Nat.add base i) 1⟩ (.tup []) h);rcases next ⟨i,false,[],[],Nat.add base i,Nat.add (Nat.add base i) 1⟩ (.tup []) h _ rfl with ⟨s,hs⟩|⟨hi,hs⟩
    ·rw[hs];trivial
    ·rw[hs];exact XN m hm.symm hlt hw hd hi (cu _)
   |true=>
    show Sound E _ (doD E rec nt W all base i M m prev l tm h o (dG o.op));unfold doD;cases hc:dG o.op with
    |none=>
     show Sound E _ (PF rec nt W all base i M m prev l tm h o (opA E o.op tm.get h.hp.get (Nat.add base i)));unfold PF;cases ho:opA E o.op tm.get h.hp.get (Nat.add base i) with
     |none=>trivial
     |some r=>
      show Sound E _ (jQ rec nt W all base i M m prev l tm o.dst ⟨i,false,eP o.op tm.get,gZ (Nat.add base i) r.2,Nat.add base i,Nat.add (Nat.add base i) 1⟩ r.1 (h.ups r.2));rcases next ⟨i,false,eP o.op tm.get,gZ (Nat.add base i) r.2,Nat.add base i,Nat.add (Nat.add base i) 1⟩ r.1 (h.ups r.2) _ rfl with ⟨s,hs⟩|⟨hi,hs⟩
      ·rw[hs];trivial
      ·rw[hs];exact aai m hm.symm hlt hw hd ho (BT ho) hi (cu _)
    |some c=>
     obtain ⟨hop,_⟩:=zh hc;refine ZV (Q:=Sound E _) (fun _=>trivial) (fun _ _ _=>trivial) (fun fv aa v h2 h1 h3 h4=> ?_) (fun fv aa v h2 h1 h3 h4=> ?_)
     ·have hs:=cu (.call fv aa ⟨fR m prev h.hp,h.nx,[]⟩);rw[h4] at hs;rcases next ⟨i,true,[],below h.nx h2.lg [],h.nx,h2.nx⟩ v ⟨eD m h.hp prev h2.hp,h2.nx,below h.nx h2.lg h.lg⟩ _ rfl with ⟨s,he⟩|⟨hi,he⟩
      ·rw[he];trivial
      ·rw[he];exact XO m hm.symm hlt hw hd hop h1 h3 hs hi (cu _)
     ·have hs:=cu (.call fv aa ⟨fR m prev h.hp,h.nx,[]⟩);rw[h4] at hs;show Sound E _ (sel (Gi l && (nn m i && nJ m prev)) (.code (.pan v) tm [] ⟨h2.hp,h2.nx,below h.nx h2.lg h.lg⟩) (.fail "panic in a drawn region"));rw[aA];split;rotate_left
      ·trivial
      rename_i jW;rw[Bool.and_eq_true,Bool.and_eq_true] at jW;exact aaj m hm.symm hlt hw hop h1 h3 hs jW.1 jW.2.1 jW.2.2
end
end Go.Sim
end
