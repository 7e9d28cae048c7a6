/- Texts that belong together. The first: A region that draws its order. -/
import Derived.Test.YtmealahmjddpcaaGreatDoorP2
import Derived.Lib.Bytealg
import Derived.Laws.Externs
import Derived.Maps.RangeRun
import Derived.RangeFuncRecord
import Derived.RangeFuncLeaves
set_option linter.all false
noncomputable section
namespace Go.Sim
open Go.RowKit
section
variable {E:Env} {g:Gh} {f:Hf} {w:World}
structure DS where
 T:Tf
 F:Hf
structure Stp where
 dst:Option Nat
 v:SV
 D:Nat->Bool
 H:Hf
def DS.app (s:DS) (u:Stp):DS:=⟨fA s.T u.dst u.v,gR u.D u.H s.F⟩
def stP (us:Nat->Stp) (l:List Nat) (p:Nat->Bool) (s:DS):DS:=(l.filter p).foldl (fun s j=>s.app (us j)) s
theorem FX (us:Nat->Stp) (t:Nat) (p q:Nat->Bool):∀(l:List Nat) (s s2:DS),s.T t=s2.T t->(∀j∈l,(us j).dst=some t->p j=q j)->(stP us l p s).T t=(stP us l q s2).T t
 | [],s,s2,h,_=>h
 |j::l,s,s2,h,hpq=>by
  have jv:=fun s s2 hs=>FX us t p q l s s2 hs (fun i hi=>hpq i (List.mem_cons_of_mem _ hi))
  have sg:∀s:DS,(s.app (us j)).T t=if (us j).dst=some t then some (us j).v else s.T t:=fun s=>rfl
  unfold stP at jv ⊢;by_cases hl:(us j).dst=some t
  ·have:=hpq j (by simp) hl
   cases hp:p j
   ·rw[hp] at this;simp only[List.filter_cons,hp,<-this];exact jv s s2 h
   ·rw[hp] at this;simp only[List.filter_cons,hp,<-this,if_true,List.foldl_cons];exact jv _ _ (by rw[sg,sg,if_pos hl,if_pos hl])
  ·have key:∀s:DS,(s.app (us j)).T t=s.T t:=fun s=>by rw[sg,if_neg hl]
   cases hp:p j<;>cases hq:q j<;>simp only[List.filter_cons,hp,hq,if_true,List.foldl_cons,Bool.false_eq_true,if_false]
   ·exact jv _ _ h
   ·exact jv _ _ (by rw[key];exact h)
   ·exact jv _ _ (by rw[key];exact h)
   ·exact jv _ _ (by rw[key,key];exact h)
theorem FY (us:Nat->Stp) (x:Nat) (p q:Nat->Bool):∀(l:List Nat) (s s2:DS),s.F x=s2.F x->(∀j∈l,(us j).D x=true->p j=q j)->(stP us l p s).F x=(stP us l q s2).F x
 | [],s,s2,h,_=>h
 |j::l,s,s2,h,hpq=>by
  have jv:=fun s s2 hs=>FY us x p q l s s2 hs (fun i hi=>hpq i (List.mem_cons_of_mem _ hi))
  have sg:∀s:DS,(s.app (us j)).F x=if (us j).D x=true then (us j).H x else s.F x:=fun s=>rfl
  unfold stP at jv ⊢;by_cases hl:(us j).D x=true
  ·have:=hpq j (by simp) hl
   cases hp:p j
   ·rw[hp] at this;simp only[List.filter_cons,hp,<-this];exact jv s s2 h
   ·rw[hp] at this;simp only[List.filter_cons,hp,<-this,if_true,List.foldl_cons];exact jv _ _ (by rw[sg,sg,if_pos hl,if_pos hl])
  ·have key:∀s:DS,(s.app (us j)).F x=s.F x:=fun s=>by rw[sg,if_neg hl]
   cases hp:p j<;>cases hq:q j<;>simp only[List.filter_cons,hp,hq,if_true,List.foldl_cons,Bool.false_eq_true,if_false]
   ·exact jv _ _ h
   ·exact jv _ _ (by rw[key];exact h)
   ·exact jv _ _ (by rw[key];exact h)
   ·exact jv _ _ (by rw[key,key];exact h)
theorem DS.ext' {s t:DS} (h1:∀u,s.T u=t.T u) (h2:∀k,s.F k=t.F k):s=t:=by
 cases s;cases t;simp only[DS.mk.injEq];exact ⟨funext h1,funext h2⟩
theorem qV (i n:Nat) (h:i<=n):(List.range' 0 n).filter (fun j=>decide (j<i))=List.range' 0 i:=by
 obtain ⟨m,rfl⟩:=Nat.exists_eq_add_of_le h;rw[<-List.range'_append_1,List.filter_append];have h1:(List.range' 0 i).filter (fun j=>decide (j<i))=List.range' 0 i:=List.filter_eq_self.2 fun x hx=>by simp[List.mem_range'_1] at hx;simpa using hx
 have h2:(List.range' (0+i) m).filter (fun j=>decide (j<i))= []:=List.filter_eq_nil_iff.2 fun x hx=>by simp[List.mem_range'_1] at hx;simp;omega
 rw[h1,h2];simp
theorem Iy (us:Nat->Stp) (p:Nat->Bool) (i n:Nat) (h:i<n) (hp:p i=true) (s:DS):stP us (List.range' 0 n) (fun j=>p j&&decide (j<=i)) s=(stP us (List.range' 0 i) p s).app (us i):=by
 obtain ⟨m,rfl⟩:=Nat.exists_eq_add_of_lt h;have e:List.range' 0 (i+m+1)=List.range' 0 i++(i::List.range' (i+1) m):=by
  rw[show i+m+1=i+(m+1) from by omega,<-List.range'_append_1]
  simp[List.range'_succ]
 unfold stP;rw[e,List.filter_append,List.filter_cons];have h1:(List.range' 0 i).filter (fun j=>p j&&decide (j<=i))=(List.range' 0 i).filter p:=List.filter_congr fun x hx=>by simp[List.mem_range'_1] at hx;simp;omega
 have h2:(List.range' (i+1) m).filter (fun j=>p j&&decide (j<=i))= []:=List.filter_eq_nil_iff.2 fun x hx=>by simp[List.mem_range'_1] at hx;simp;omega
 rw[h1,h2];simp[hp]
theorem ZB (l:Array Bool) (i j:Nat) (h:i<l.size) (d:Bool):(l.setIfInBounds i true).getD j d=if j=i then true else l.getD j d:=by
 simp only[Array.getD_eq_getD_getElem?,Array.getElem?_setIfInBounds];by_cases hj:j=i
 ·subst hj;simp[h]
 ·simp[hj,Ne.symm hj]
def direct (ops:Array Oper) (j:Nat):List Nat:=((ops[j]?).map dN).getD []
def anc (ops:Array Oper):Nat->Nat->List Nat
 |0,_=> []
 |n+1,j=>direct ops j++(direct ops j).flatMap (anc ops n)
theorem pj {ops:Array Oper} {S:Nat->Prop} (hS:∀j,S j->∀i∈direct ops j,S i):∀(n j:Nat),S j->∀i∈anc ops n j,S i
 |0,_,_,i,hi=>by simp[anc] at hi
 |n+1,j,hj,i,hi=>by
  simp only[anc,List.mem_append,List.mem_flatMap] at hi;rcases hi with hi|⟨k,hk,hi⟩
  ·exact hS j hj i hi
  ·exact pj hS n k (hS j hj k hk) i hi
theorem B9 {ops:Array Oper} {S:Nat->Prop} (hS:∀j,S j->∀i∈direct ops j,S i):∀(n j:Nat),(∀i∈direct ops j,S i)->∀i∈anc ops n j,S i
 |0,_,_,i,hi=>by simp[anc] at hi
 |n+1,j,hj,i,hi=>by
  simp only[anc,List.mem_append,List.mem_flatMap] at hi;rcases hi with hi|⟨k,hk,hi⟩
  ·exact hj i hi
  ·exact pj hS n k (hj k hk) i hi
theorem tT {ops:Array Oper} {listed:Array Bool} {i:Nat}:i∈Region.ready .any ops listed↔i<ops.size/\listed.getD i true=false/\∀j∈direct ops i,listed.getD j false=true:=by
 unfold Region.ready;simp only[List.mem_filter,List.mem_range,Bool.and_eq_true,Bool.not_eq_true'];constructor
 ·rintro ⟨h1,h2,h3⟩;refine ⟨h1,h2,fun j hj=> ?_⟩
  unfold direct at hj;rw[Array.getElem?_eq_getElem h1] at hj h3;simp only[Option.map_some,Option.getD_some,dN,List.mem_map,List.mem_filter] at hj h3;obtain ⟨e,⟨he1,he2⟩,rfl⟩:=hj;rw[Array.all_eq_true'] at h3;have:=h3 e (by simpa using he1)
  simpa[he2] using this
 ·rintro ⟨h1,h2,h3⟩;refine ⟨h1,h2,?_⟩;rw[Array.getElem?_eq_getElem h1];simp only[Option.map_some,Option.getD_some];rw[Array.all_eq_true'];intro e he;by_cases hb:Region.binds .any e=true
  ·have:=h3 e.on (by
    unfold direct;rw[Array.getElem?_eq_getElem h1];simp only[Option.map_some,Option.getD_some,dN,List.mem_map,List.mem_filter];exact ⟨e,⟨by simpa using he,hb⟩,rfl⟩)
   simp[this]
  ·simp[hb]
theorem HR.D9 {w':World} (h:HR g f w) (he:w'.heap=w.heap):HR g f w':=
 ⟨fun id o ho=>by
  obtain ⟨b,c,q1,q2,q3⟩:=h.ob id o ho;exact ⟨b,c,q1,by rw[he];exact q2,q3.mono (.refl _) q1 (by rw[he])⟩,h.inj⟩
theorem Fr.D9 {w':World} (he:w'.heap=w.heap) (h1:w'.os=w.os) (h2:w'.tape=w.tape) (h3:w'.output=w.output):Fr g f w g f w':=
 ⟨h1,h2,h3,by rw[he];exact Nat.le_refl _,.refl _,fun b _ _=>by rw[he],fun _ _ h=>h⟩
structure Ind (ops:Array Oper) (us:Nat->Stp) (need:Nat->Nat->Prop) (i j:Nat):Prop where
 s1:∀t,(us i).dst=some t->∀o,ops[j]? =some o->t∉o.looksAt ops
 s2:∀t,(us j).dst=some t->∀o,ops[i]? =some o->t∉o.looksAt ops
 s3:∀t,(us i).dst=some t->(us j).dst≠some t
 d:∀x,(us i).D x=true->(us j).D x=false
 n1:∀x,need j x->(us i).D x=false
 n2:∀x,need i x->(us j).D x=false
theorem R1 {S:Nat->Prop} {ro:Option Nat} {nt:Nat} {ops:Array Oper} {U:Nat->Stp} {need frp newp:Nat->Nat->Prop} {s0:DS} (uj:E.P.follows .mixedOrders=true)
  (Rw:∀i (hi:i<ops.size),¬S i->(U i).dst=ops[i].dst/\nG E ro nt ops i ops[i] (stP U (List.range' 0 i) (fun _=>true) s0).T (need i) (stP U (List.range' 0 i) (fun _=>true) s0).F (frp i) (newp i) (U i).v (U i).D (U i).H)
  (hd:∀j,j<ops.size->(∀i∈direct ops j,i<j)/\∀i,i<j->i∈anc ops ops.size j\/Ind ops U need i j)
  (hfp:∀i k,i<ops.size->k<ops.size->i≠k->∀x,frp i x->newp k x->i∈anc ops ops.size k)
  {a:Act} {id m:Nat} {Q:Exit->Act->World->Prop} (hE:bC E g) (hfr:FR g nt s0.T a.tmps) (hr:HR g s0.F w) (eM:∀i,i<ops.size->∀x,frp i x->g.ρ x=none)
  (aiw:∀i,i<ops.size->S i->i+1=ops.size/\(∀j,j<i->j∈anc ops ops.size i)/\∀(g1:Gh) (a1:Act) (w1:World) (K:Act->World->Prop),bC E g1->FR g1 nt (stP U (List.range' 0 i) (fun _=>true) s0).T a1.tmps->HR g1 (stP U (List.range' 0 i) (fun _=>true) s0).F w1->
   Fr g s0.F w g1 (stP U (List.range' 0 i) (fun _=>true) s0).F w1->a1.defers=a.defers->(∀x,g1.ρ x≠g.ρ x->∃k,k<i/\newp k x)->wpOpIn (fro ro) m E.P ops Q i K a1 w1)
  (hq:(∀i,i<ops.size->¬S i)->∀g' a' w',FR g' nt (stP U (List.range' 0 ops.size) (fun _=>true) s0).T a'.tmps->HR g' (stP U (List.range' 0 ops.size) (fun _=>true) s0).F w'->Fr g s0.F w g' (stP U (List.range' 0 ops.size) (fun _=>true) s0).F w'->a'.defers=a.defers->
   (∀x,(∀i,i<ops.size->¬newp i x)->g'.ρ x=g.ρ x)->Q .normal a' w'):(Code.region id ops true).wpIn (fro ro) m E.P Q a w:=by
 let n:=ops.size;have key:∀(fuel:Nat) (listed:Array Bool) (a1:Act) (w1:World) (g1:Gh),listed.size=n->(∀j,listed.getD j false=true->∀i∈direct ops j,listed.getD i false=true)->
   ((List.range' 0 n).filter (fun j=> !listed.getD j false)).length=fuel->bC E g1->FR g1 nt (stP U (List.range' 0 n) (fun j=>listed.getD j false) s0).T a1.tmps->HR g1 (stP U (List.range' 0 n) (fun j=>listed.getD j false) s0).F w1->
   Fr g s0.F w g1 (stP U (List.range' 0 n) (fun j=>listed.getD j false) s0).F w1->a1.defers=a.defers->(∀x,g1.ρ x≠g.ρ x->∃k,k<n/\listed.getD k false=true/\newp k x)->(∀j,listed.getD j false=true->¬S j)->wpAnyIn (fro ro) m E.P .any ops Q fuel listed a1 w1:=by
  intro fuel;induction fuel with
  |zero=>
   intro listed a1 w1 g1 hsz hcl Lr hE1 D8 hr1 hf1 hdf Lm hns;have sh:∀j,j<n->listed.getD j false=true:=by
    intro j hj;have:=List.filter_eq_nil_iff.1 (List.eq_nil_of_length_eq_zero Lr) j (by simp[List.mem_range'_1];exact hj)
    simpa using this
   have hst:stP U (List.range' 0 n) (fun j=>listed.getD j false) s0=stP U (List.range' 0 n) (fun _=>true) s0:=by
    unfold stP;congr 1;exact List.filter_congr fun x hx=>by simp[List.mem_range'_1] at hx;simpa using sh x hx
   rw[hst] at D8 hr1 hf1;refine ⟨?_,hq (fun i hi=>hns i (sh i hi)) g1 a1 w1 D8 hr1 hf1 hdf (fun x hx=> ?_)⟩
   ·rw[List.eq_nil_iff_forall_not_mem];intro i hi;obtain ⟨h1,h2,_⟩:=tT.1 hi;have:=sh i h1;simp only[Array.getD_eq_getD_getElem?] at this h2;rw[Array.getElem?_eq_getElem (by rw[hsz];exact h1)] at this h2
    simp at this h2;rw[this] at h2;simp at h2
   ·by_cases he:g1.ρ x=g.ρ x
    ·exact he
    ·obtain ⟨k,k1,_,k3⟩:=Lm x he;exact absurd k3 (hx k k1)
  |succ fuel ih=>
   intro listed a1 w1 g1 hsz hcl Lr hE1 D8 hr1 hf1 hdf Lm hns;have hun:∀j,j<n->listed.getD j true=listed.getD j false:=by
    intro j hj;simp only[Array.getD_eq_getD_getElem?];rw[Array.getElem?_eq_getElem (by rw[hsz];exact hj)];rfl
   refine ⟨fun hr=> ?_,fun i hi=> ?_⟩
   ·exfalso;have hne:(List.range' 0 n).filter (fun j=> !listed.getD j false)≠ []:=by intro he;rw[he] at Lr;simp at Lr
    obtain ⟨i0,hi0⟩:=List.exists_mem_of_ne_nil _ hne;have hex:∃i,i<n/\listed.getD i false=false:=⟨i0,by simp[List.mem_range'_1] at hi0;exact hi0.1,by simp at hi0;simpa using hi0.2⟩
    have:∀m,(∃i,i<=m/\i<n/\listed.getD i false=false)->∃i,i<n/\listed.getD i false=false/\∀j,j<i->listed.getD j false=true:=by
     intro m;induction m with
     |zero=>rintro ⟨i,h1,h2,h3⟩;exact ⟨i,h2,h3,fun j hj=>by omega⟩
     |succ m ihm=>
      rintro ⟨i,h1,h2,h3⟩;by_cases hj:∃j,j<i/\listed.getD j false=false
      ·obtain ⟨j,hj1,hj2⟩:=hj;exact ihm ⟨j,by omega,by omega,hj2⟩
      ·exact ⟨i,h2,h3,fun j hj'=>by
        cases hq:listed.getD j false with
        |true=>rfl
        |false=>exact absurd ⟨j,hj',hq⟩ hj⟩
    obtain ⟨i,hi1,hi2⟩:=hex;obtain ⟨k,k1,k2,k3⟩:=this i ⟨i,Nat.le_refl _,hi1,hi2⟩;have:k∈Region.ready .any ops listed:=tT.2 ⟨k1,by rw[hun k k1];exact k2,fun j hj=>k3 j ((hd k k1).1 j hj)⟩
    rw[hr] at this;simp at this
   ·obtain ⟨hi1,hi2,hi3⟩:=tT.1 hi;rw[hun i hi1] at hi2;by_cases hSi:S i
    ·obtain ⟨adp,sh,hgo⟩:=aiw i hi1 hSi;have hli:∀j,j<i->listed.getD j false=true:=fun j hj=>B9 (S:=fun j=>listed.getD j false=true) hcl n i hi3 j (sh j hj)
     have hst:stP U (List.range' 0 n) (fun j=>listed.getD j false) s0=stP U (List.range' 0 i) (fun _=>true) s0:=by
      unfold stP;have:(List.range' 0 n).filter (fun j=>listed.getD j false)=(List.range' 0 i).filter (fun _=>true):=by
       rw[List.filter_eq_self.2 (fun _ _=>rfl),<-qV i n (Nat.le_of_lt hi1)]
       refine List.filter_congr fun x hx=> ?_
       have hxn:x<n:=by simp[List.mem_range'_1] at hx;exact hx
       by_cases hxi:x<i
       ·simp only[hli x hxi,hxi,decide_true]
       ·have:x=i:=by omega
        subst this;simp only[hi2,Nat.lt_irrefl,decide_false]
      rw[this]
     rw[hst] at D8 hr1 hf1;refine hgo g1 a1 w1 _ hE1 D8 hr1 hf1 hdf (fun x hx=> ?_)
     obtain ⟨k,k1,k2,k3⟩:=Lm x hx;refine ⟨k,?_,k3⟩;by_cases hk:k=i
     ·subst hk;rw[hi2] at k2;simp at k2
     ·omega
    obtain ⟨hdst,hs⟩:=Rw i hi1 hSi;have hoi:ops[i]? =some ops[i]:=Array.getElem?_eq_getElem hi1;have W8:∀j,j<i->listed.getD j false=false->Ind ops U need j i:=by
     intro j hj hl;rcases (hd i hi1).2 j hj with hc|hc
     ·have:=B9 (S:=fun j=>listed.getD j false=true) hcl n i hi3 j hc
      rw[hl] at this;simp at this
     ·exact hc
    have Gf:∀j,i<j->j<n->listed.getD j false=true->Ind ops U need i j:=by
     intro j hj hjn hl;rcases (hd j hjn).2 i hj with hc|hc
     ·have:=pj (S:=fun j=>listed.getD j false=true) hcl n j hl i hc
      rw[hi2] at this;simp at this
     ·exact hc
    have hst0:stP U (List.range' 0 i) (fun _=>true) s0=stP U (List.range' 0 n) (fun j=>decide (j<i)) s0:=by
     unfold stP;rw[qV i n (Nat.le_of_lt hi1)];congr 1;exact List.filter_eq_self.2 (fun _ _=>rfl)
    have hT:∀t∈(ops[i]).looksAt ops,(stP U (List.range' 0 n) (fun j=>listed.getD j false) s0).T t=(stP U (List.range' 0 i) (fun _=>true) s0).T t:=by
     intro t htr;rw[hst0];refine FX U t _ _ _ _ _ rfl (fun j hj na=> ?_)
     have hjn:j<n:=by simp[List.mem_range'_1] at hj;exact hj
     rcases Nat.lt_trichotomy j i with hlt|heq|hgt
     ·cases hl:listed.getD j false with
      |true=>simp[hlt]
      |false=>exact absurd htr ((W8 j hlt hl).s1 t na _ hoi)
     ·subst heq;simp[hi2]
     ·cases hl:listed.getD j false with
      |false=>simp;omega
      |true=>exact absurd htr ((Gf j hgt hjn hl).s2 t na _ hoi)
    have hB:∀x,need i x->(stP U (List.range' 0 n) (fun j=>listed.getD j false) s0).F x=(stP U (List.range' 0 i) (fun _=>true) s0).F x:=by
     intro x hx;rw[hst0];refine FY U x _ _ _ _ _ rfl (fun j hj na=> ?_)
     have hjn:j<n:=by simp[List.mem_range'_1] at hj;exact hj
     rcases Nat.lt_trichotomy j i with hlt|heq|hgt
     ·cases hl:listed.getD j false with
      |true=>simp[hlt]
      |false=>
       have:=(W8 j hlt hl).n1 x hx;rw[na] at this;simp at this
     ·subst heq;simp[hi2]
     ·cases hl:listed.getD j false with
      |false=>simp;omega
      |true=>
       have:=(Gf j hgt hjn hl).n2 x hx;rw[na] at this;simp at this
    have kN:∀j,(listed.setIfInBounds i true).getD j false=if j=i then true else listed.getD j false:=fun j=>ZB listed i j (by rw[hsz];exact hi1) false
    have hpi:(listed.setIfInBounds i true).getD i false=true:=by rw[kN];simp
    have adn:(stP U (List.range' 0 n) (fun j=>listed.getD j false) s0).app (U i)=stP U (List.range' 0 n) (fun j=>(listed.setIfInBounds i true).getD j false) s0:=by
     refine DS.ext' (fun t=> ?_) (fun x=> ?_)
     ·show (if (U i).dst=some t then some (U i).v else _)=_
      by_cases hl:(U i).dst=some t
      ·have e:=FX U t (fun j=>(listed.setIfInBounds i true).getD j false) (fun j=>(listed.setIfInBounds i true).getD j false&&decide (j<=i)) (List.range' 0 n) s0 s0 rfl (fun j hj na=>by
        have hjn:j<n:=by simp[List.mem_range'_1] at hj;exact hj
        by_cases hle:j<=i
        ·simp[hle]
        ·cases hlj:(listed.setIfInBounds i true).getD j false with
         |false=>simp
         |true=>
          rw[kN,if_neg (by omega)] at hlj
          exact absurd na ((Gf j (by omega) hjn hlj).s3 t hl))
       rw[e,Iy U _ i n hi1 hpi,if_pos hl];show _=if (U i).dst=some t then some (U i).v else _
       rw[if_pos hl]
      ·rw[if_neg hl];refine FX U t _ _ _ _ _ rfl (fun j hj na=> ?_)
       rw[kN];split
       ·rename_i he;subst he;exact absurd na hl
       ·rfl
     ·show (if (U i).D x=true then (U i).H x else _)=_
      by_cases hl:(U i).D x=true
      ·have e:=FY U x (fun j=>(listed.setIfInBounds i true).getD j false) (fun j=>(listed.setIfInBounds i true).getD j false&&decide (j<=i)) (List.range' 0 n) s0 s0 rfl (fun j hj na=>by
        have hjn:j<n:=by simp[List.mem_range'_1] at hj;exact hj
        by_cases hle:j<=i
        ·simp[hle]
        ·cases hlj:(listed.setIfInBounds i true).getD j false with
         |false=>simp
         |true=>
          rw[kN,if_neg (by omega)] at hlj
          have:=(Gf j (by omega) hjn hlj).d x hl
          rw[na] at this;simp at this)
       rw[e,Iy U _ i n hi1 hpi,if_pos hl];show _=if (U i).D x=true then (U i).H x else _
       rw[if_pos hl]
      ·rw[if_neg hl];refine FY U x _ _ _ _ _ rfl (fun j hj na=> ?_)
       rw[kN];split
       ·rename_i he;subst he;exact absurd na hl
       ·rfl
    have hcl':∀j,(listed.setIfInBounds i true).getD j false=true->∀k∈direct ops j,(listed.setIfInBounds i true).getD k false=true:=by
     intro j hj k hk;rw[kN] at hj ⊢;split
     ·rfl
     ·split at hj
      ·rename_i he;subst he;exact hi3 k hk
      ·exact hcl j hj k hk
    have aiE:((List.range' 0 n).filter (fun j=> !(listed.setIfInBounds i true).getD j false)).length=fuel:=by
     have h1:(List.range' 0 n).filter (fun j=> !(listed.setIfInBounds i true).getD j false)=((List.range' 0 n).filter (fun j=> !listed.getD j false)).erase i:=by
      have hnd:((List.range' 0 n).filter (fun j=> !listed.getD j false)).Nodup:=List.Pairwise.filter _ List.nodup_range'
      rw[hnd.erase_eq_filter,List.filter_filter];refine List.filter_congr fun x hx=> ?_
      rw[kN];by_cases hxi:x=i<;>simp[hxi]
     rw[h1,List.length_erase_of_mem (List.mem_filter.2 ⟨by simp[List.mem_range'_1];exact hi1,by rw[hi2];rfl⟩),Lr]
     rfl
    have Lo:∀x,frp i x->g1.ρ x=none:=by
     intro x hx;by_cases he:g1.ρ x=g.ρ x
     ·rw[he];exact eM i hi1 x hx
     ·obtain ⟨k,k1,k2,k3⟩:=Lm x he;have hne:i≠k:=fun e=>by subst e;rw[hi2] at k2;simp at k2
      have:=pj (S:=fun j=>listed.getD j false=true) hcl n k k2 i (hfp i k hi1 k1 hne x hx k3)
      rw[hi2] at this;simp at this
    refine hs m g1 _ _ a1 w1 (wpAnyIn (fro ro) m E.P .any ops Q fuel (listed.setIfInBounds i true)) Q hE1 D8 hr1 hT hB Lo (fun r w' g' q1 q2 q3 q4=> ?_)
    rw[<-hdst] at q1 ⊢;have e1:fA (stP U (List.range' 0 n) (fun j=>listed.getD j false) s0).T (U i).dst (U i).v=(stP U (List.range' 0 n) (fun j=>(listed.setIfInBounds i true).getD j false) s0).T:=by rw[<-adn];rfl
    have e2:gR (U i).D (U i).H (stP U (List.range' 0 n) (fun j=>listed.getD j false) s0).F=(stP U (List.range' 0 n) (fun j=>(listed.setIfInBounds i true).getD j false) s0).F:=by rw[<-adn];rfl
    rw[e1] at q1;rw[e2] at q2 q3;refine ih (listed.setIfInBounds i true) _ w' g' (by simpa using hsz) hcl' aiE (hE1.mono q3.le) q1 q2 (hf1.trans q3) (by rw[put_defers];exact hdf) (fun x hx=> ?_) ?_
    ·by_cases hn:newp i x
     ·exact ⟨i,hi1,hpi,hn⟩
     rw[q4 x hn] at hx;obtain ⟨k,k1,k2,k3⟩:=Lm x hx;refine ⟨k,k1,?_,k3⟩;rw[kN];split
     ·rfl
     ·exact k2
    ·intro j hj;rw[kN] at hj;split at hj
     ·rename_i e;subst e;exact hSi
     ·exact hns j hj
 refine wpIn_region_any (F:=fro ro) uj (key ops.size _ a _ g (by simp[n]) ?_ ?_ hE ?_ ?_ ?_ rfl (fun x hx=>absurd rfl hx) ?_)
 ·intro j hj;simp[Array.getD_eq_getD_getElem?,Array.getElem?_replicate] at hj;split at hj<;>simp at hj
 ·have:(List.range' 0 n).filter (fun j=> !(Array.replicate ops.size false).getD j false)=List.range' 0 n:=List.filter_eq_self.2 fun x hx=>by
   simp[Array.getD_eq_getD_getElem?,Array.getElem?_replicate];split<;>simp
  rw[this];simp[n]
 rotate_left 3
 ·intro j hj;simp[Array.getD_eq_getD_getElem?,Array.getElem?_replicate] at hj;split at hj<;>simp at hj
 all_goals
  have hs0:stP U (List.range' 0 n) (fun j=>(Array.replicate ops.size false).getD j false) s0=s0:=by
   unfold stP;have:(List.range' 0 n).filter (fun j=>(Array.replicate ops.size false).getD j false)= []:=List.filter_eq_nil_iff.2 fun x hx=>by
    simp[Array.getD_eq_getD_getElem?,Array.getElem?_replicate];split<;>simp
   rw[this];rfl
  rw[hs0]
 ·exact hfr
 ·exact hr.D9 rfl
 ·exact Fr.D9 rfl rfl rfl rfl
end
section
variable {E:Env} {g:Gh} {f:Hf} {w:World}
theorem force_eq {β:Type} (m:Nat) (k:Nat->β):force m k=k m:=by cases m<;>rfl
theorem Ma (m i:Nat):eu m i=true↔m.testBit i=true:=by
 unfold eu;rw[beq_iff];show (m>>>i) &&& 1=1↔_;rw[Nat.and_one_is_mod,Nat.testBit_eq_decide_div_mod_eq,Nat.shiftRight_eq_div_pow];simp
theorem Fv {ops:Array Oper} {j:Nat} {o:Oper} (h:ops[j]? =some o):direct ops j=dN o:=by simp[direct,h]
theorem uS {ops:Array Oper}:∀(n m j:Nat),n<=m->∀i∈anc ops n j,i∈anc ops m j
 |0,m,j,_,i,h=>by simp[anc] at h
 |n+1,0,j,hle,_,_=>by omega
 |n+1,m+1,j,hle,i,h=>by
  simp only[anc,List.mem_append,List.mem_flatMap] at h ⊢;rcases h with h|⟨d,hd,h⟩
  ·exact .inl h
  ·exact .inr ⟨d,hd,uS n m d (by omega) i h⟩
def w6 (ops:Array Oper) (W M j:Nat):Prop:=∀p,M.testBit p=true->∃i b,i<j/\b<W/\p=i*W+b/\b∈anc ops (i+1) i
theorem Yu {W i b i' b':Nat} (h:i*W+b=i'*W+b') (h1:b<W) (h2:b'<W):i=i'/\b=b':=by
 have e1:(i*W+b) / W=i:=by rw[Nat.mul_comm,Nat.mul_add_div (by omega),Nat.div_eq_of_lt h1];omega
 have e2:(i'*W+b') / W=i':=by rw[Nat.mul_comm,Nat.mul_add_div (by omega),Nat.div_eq_of_lt h2];omega
 have:i=i':=by rw[<-e1,<-e2,h]
 subst this;exact ⟨rfl,by omega⟩
theorem zc {ops:Array Oper} {W M j:Nat} (hM:w6 ops W M j) {x:Nat}:∀(ds:List Nat),(fF W M ds).testBit x=true->∃i∈ds,x=i\/(i<j/\x∈anc ops (i+1) i)
 | [],h=>by simp[fF] at h
 |d::ds,h=>by
  have h:(fF W M ds|||((1<<<d)|||((M>>>(d*W)) % 2 ^ W))).testBit x=true:=h;rw[Nat.testBit_or,Nat.testBit_or,Bool.or_eq_true,Bool.or_eq_true] at h;rcases h with h|h|h
  ·obtain ⟨i,hi,h⟩:=zc hM ds h;exact ⟨i,by simp[hi],h⟩
  ·rw[Nat.shiftLeft_eq,Nat.one_mul,Nat.testBit_two_pow] at h;exact ⟨d,by simp,.inl (by simpa using h.symm:d=x).symm⟩
  ·rw[Nat.testBit_mod_two_pow,Bool.and_eq_true,Nat.testBit_shiftRight] at h;obtain ⟨h1,h2⟩:=h;obtain ⟨i,b,q1,q2,q3,q4⟩:=hM _ h2;have hx:x<W:=by simpa using h1
   obtain ⟨rfl,rfl⟩:=Yu q3 hx q2;exact ⟨d,by simp,.inr ⟨q1,q4⟩⟩
theorem rM {j:Nat}:∀{l:List Nat},gq j l=true->∀i∈l,i<j
 | [],_,i,hi=>by simp at hi
 |x::l,h,i,hi=>by
  unfold gq at h;rw[aC] at h;split at h
  ·rename_i hx;rcases List.mem_cons.1 hi with rfl|hi
   ·exact (bk _ _).1 hx
   ·exact rM h i hi
  ·simp at h
theorem E4 {ops:Array Oper} {W M j:Nat} {o:Oper} (hj:ops[j]? =some o) (hM:w6 ops W M j):
  (∀x,(Nat.mod (fF W M (dN o)) (Nat.pow 2 W)).testBit x=true->x<W/\x∈anc ops (j+1) j)/\
  w6 ops W (Nat.lor M (Nat.shiftLeft (Nat.mod (fF W M (dN o)) (Nat.pow 2 W)) (Nat.mul j W))) (j+1):=by
 have hdir:=Fv hj;have hbit:∀x,(fF W M (dN o) % 2 ^ W).testBit x=true->x<W/\x∈anc ops (j+1) j:=by
  intro x hx;rw[Nat.testBit_mod_two_pow,Bool.and_eq_true] at hx;refine ⟨by simpa using hx.1,?_⟩
  obtain ⟨i,hi,h⟩:=zc hM (dN o) hx.2;rw[<-hdir] at hi;simp only[anc,List.mem_append,List.mem_flatMap];rcases h with rfl|⟨q1,q2⟩
  ·exact .inl hi
  ·exact .inr ⟨i,hi,uS (i+1) j i (by omega) x q2⟩
 refine ⟨hbit,fun p hp=> ?_⟩
 have hp:(M|||((fF W M (dN o) % 2 ^ W)<<<(j*W))).testBit p=true:=hp;rw[Nat.testBit_or,Bool.or_eq_true] at hp;rcases hp with hp|hp
 ·obtain ⟨i,b,q1,q2,q3,q4⟩:=hM p hp;exact ⟨i,b,by omega,q2,q3,q4⟩
 ·rw[Nat.testBit_shiftLeft,Bool.and_eq_true] at hp;obtain ⟨p1,p2⟩:=hp;obtain ⟨q1,q2⟩:=hbit _ p2;have p1:j*W<=p:=by simpa using p1
  exact ⟨j,p-j*W,by omega,q1,by omega,q2⟩
theorem lI (x:Nat):∀(l:List Nat),eh x l=true↔x∈l
 | []=>by simp[eh]
 |y::l=>by
  unfold eh;rw[aC,beq_eq];by_cases h:x=y
  ·simp[h]
  ·simp only[h,decide_false,Bool.false_eq_true,if_false,List.mem_cons,false_or];exact lI x l
theorem jz:∀{l m:List Nat},iJ l m=true->∀x∈l,x∉m
 | [],_,_,x,hx=>by simp at hx
 |y::l,m,h,x,hx=>by
  unfold iJ at h;rw[aC] at h;split at h
  ·simp at h
  ·rename_i hm;rcases List.mem_cons.1 hx with rfl|hx
   ·exact fun hc=>hm ((lI _ _).2 hc)
   ·exact jz h x hx
theorem l7 {lo hi:Nat}:∀{l:List Nat},jr lo hi l=true->∀x∈l,x<lo\/hi<=x
 | [],_,x,hx=>by simp at hx
 |y::l,h,x,hx=>by
  unfold jr at h;rw[aC,aC] at h;split at h
  ·rename_i h1;rcases List.mem_cons.1 hx with rfl|hx
   ·exact .inl ((bk _ _).1 h1)
   ·exact l7 h x hx
  ·split at h
   ·rename_i h1;rcases List.mem_cons.1 hx with rfl|hx
    ·exact .inr ((bk _ _).1 h1)
    ·exact l7 h x hx
   ·simp at h
theorem KC {l:List Nat} (h:mU l=true):l= []:=by
 cases l with
 |nil=>rfl
 |cons _ _=>simp[mU] at h
theorem ll {m:Nat} {r:Rc}:∀{ps:List Rc},cX m r ps=true->∀p∈ps,eu m p.i=true\/ta p r=true
 | [],_,p,hp=>by simp at hp
 |q::ps,h,p,hp=>by
  unfold cX at h;rw[aC,aC] at h;split at h
  ·rename_i h1;rcases List.mem_cons.1 hp with rfl|hp
   ·exact .inl h1
   ·exact ll h p hp
  ·split at h
   ·rename_i h1;rcases List.mem_cons.1 hp with rfl|hp
    ·exact .inr h1
    ·exact ll h p hp
   ·simp at h
structure Cg (p r:Rc):Prop where
 a1:∀x∈r.rd,x<p.lo\/p.hi<=x
 a2:∀x∈r.wr,x<p.lo\/p.hi<=x
 a3:∀x∈p.rd,x<r.lo\/r.hi<=x
 a4:∀x∈p.wr,x<r.lo\/r.hi<=x
 b1:∀x∈p.rd,x∉r.wr
 b2:∀x∈r.rd,x∉p.wr
 b3:∀x∈p.wr,x∉r.wr
 c1:p.call=true->r.call=false/\r.wr= []
 c2:r.call=true->p.call=false/\p.wr= []
theorem zm {p r:Rc} (h:ta p r=true):Cg p r:=by
 unfold ta at h;simp only[Bool.and_eq_true] at h;obtain ⟨h1,h2,h3,h4,h5,h6,h7,h8⟩:=h;refine ⟨l7 h1,l7 h2,l7 h3,l7 h4,jz h5,jz h6,jz h7,fun hp=> ?_,fun hr=> ?_⟩
 ·rw[hp] at h8;cases hr:r.call with
  |true=>rw[hr] at h8;cases h8
  |false=>rw[hr] at h8;exact ⟨rfl,KC h8⟩
 ·rw[hr] at h8;cases hp:p.call with
  |true=>rw[hp] at h8;cases h8
  |false=>rw[hp] at h8;exact ⟨rfl,KC h8⟩
theorem Oo:∀(xs:List Operand),Ir xs=xs.filterMap fun| .tmp t=>some t|_=>none
 | []=>rfl
 |x::xs=>by
  have ih:=Oo xs;cases x<;>simp[Ir,ih]
theorem KH (ops:Array Oper) (o:Oper):looks ops.toList o=o.looksAt ops:=by
 unfold looks Oper.looksAt;rw[Oo];cases hg:o.guard with
 |none=>rfl
 |some p=>
  obtain ⟨j,b⟩:=p;simp only[rb,Array.getElem?_toList];rfl
theorem om {all:List Oper} {m:Nat} {r:Oper}:∀{k:Nat} {ps:List Oper},qa all m r k ps=true->ps.length=k+1\/ps= []->∀j p,ps[j]? =some p->eu m (k-j)=true\/sO all p r=true
 |k,[],_,_,j,p,hp=>by simp at hp
 |k,q::ps,h,hl,j,p,hp=>by
  unfold qa at h;rw[aC,aC] at h;have hl':ps.length=Nat.sub k 1+1\/ps= []:=by
   rcases hl with hl|hl
   ·simp at hl;cases k with
    |zero=>exact .inr (List.eq_nil_of_length_eq_zero (by omega))
    |succ k=>exact .inl (by show ps.length=k+1-1+1;omega)
   ·simp at hl
  have hk:∀(j:Nat),ps[j]? =some p->Nat.sub k 1-j=k-(j+1):=fun j _=>by show k-1-j=k-(j+1);omega
  split at h
  ·rename_i h1;cases j with
   |zero=>simp at hp;subst hp;exact .inl h1
   |succ j=>simp at hp;have:=om h hl' j p hp;rw[hk j hp] at this;exact this
  ·split at h
   ·rename_i h1;cases j with
    |zero=>simp at hp;subst hp;exact .inr h1
    |succ j=>simp at hp;have:=om h hl' j p hp;rw[hk j hp] at this;exact this
   ·simp at h
theorem vE {ops:Array Oper} {W:Nat}:∀(l:List Oper) (i M:Nat) (prev:List Oper),pJ W ops.toList l i M prev=true->ops.toList.drop i=l->prev=(ops.toList.take i).reverse->w6 ops W M i->
  ∀j,i<=j->j<ops.size->∀k,k<j->∀p r,ops[k]? =some p->ops[j]? =some r->k∈anc ops (j+1) j\/sO ops.toList p r=true
 | [],i,M,prev,h,hd,_,_,j,hj,hj',_,_,_,_,_,_=>by
  have:ops.size<=i:=by simpa using hd
  omega
 |o::l,i,M,prev,h,hd,hp,hM,j,hj,hj',k,hk,p,r,hpk,hr=>by
  have hi:i<ops.toList.length:=by
   by_cases hl:i<ops.toList.length
   ·exact hl
   ·rw[List.drop_of_length_le (by omega)] at hd;simp at hd
  rw[List.drop_eq_getElem_cons hi] at hd;obtain ⟨ho,hl⟩:=List.cons.inj hd;have hoi:ops[i]? =some o:=by
   have:ops.toList[i]? =some o:=by rw[List.getElem?_eq_getElem hi,ho]
   simpa using this
  unfold pJ at h;rw[force_eq,aC] at h;split at h
  ·rename_i hs;rw[force_eq] at h;obtain ⟨m1,m2⟩:=E4 hoi hM;by_cases hji:j=i
   ·subst hji;rw[hoi] at hr;obtain rfl:o=r:=by simpa using hr
    have hpl:prev.length=j:=by rw[hp];simp at hi ⊢;omega
    have hg:prev[j-1-k]? =some p:=by
     rw[hp,List.getElem?_reverse (by simp at hi ⊢;omega)]
     simp at hi ⊢;rw[Nat.min_eq_left (by omega),List.getElem?_take,if_pos (by omega)]
     have:j-1-(j-1-k)=k:=by omega
     rw[this];simpa using hpk
    rcases om hs (by
     cases hpp:prev with
     |nil=>exact .inr rfl
     |cons a b=>rw[hpp] at hpl;left;simp at hpl ⊢;show b.length=j-1;omega) (j-1-k) p hg with hb|hb
    ·have e:Nat.sub j 1-(j-1-k)=k:=by show j-1-(j-1-k)=k;omega
     rw[e] at hb;exact .inl (m1 k ((Ma _ _).1 hb)).2
    ·exact .inr hb
   ·refine vE l (i+1) _ (o::prev) h hl ?_ m2 j (by omega) hj' k hk p r hpk hr
    have:ops.toList.take (i+1)=ops.toList.take i++ [o]:=by
     rw[List.take_add_one,List.getElem?_eq_getElem hi,ho];rfl
    rw[this,List.reverse_append,hp];rfl
  ·simp at h
end
section
variable {E:Env} {g:Gh} {w:World} {nt W base:Nat} {ops:Array Oper}
structure St where
 u:Stp
 rc:Rc
 m:Nat
 need:Nat->Prop
 frp:Nat->Prop
 newp:Nat->Prop
instance:Inhabited St:=⟨⟨⟨none,.undef,fun _=>false,fun _=>none⟩,⟨0,false,[],[],0,0⟩,0,fun _=>False,fun _=>False,fun _=>False⟩⟩
structure Cnd (E:Env) (nt W:Nat) (ops:Array Oper) (base i:Nat) (prev:List St) (o:Oper) (T:Tf) (F:Hf) (nx:Nat) (s:St) (nx1:Nat):Prop where
 dst:s.u.dst=o.dst
 step:∀ro,nG E ro nt ops i o T s.need F s.frp s.newp s.u.v s.u.D s.u.H
 lt:∀d∈dN o,d<i
 anc:∀b,eu s.m b=true->b∈anc ops (i+1) i
 rci:s.rc.i=i
 ind:∀p∈prev,eu s.m p.rc.i=true\/Cg p.rc s.rc
 D:∀x,s.u.D x=true↔(x∈s.rc.wr\/(s.rc.lo<=x/\x<s.rc.hi))
 smp:s.rc.call=false->s.rc.lo=base+i/\s.rc.hi=base+i+1/\nx1=nx/\(∀x,s.need x->x∈s.rc.rd)/\(∀x,s.frp x->x=base+i)/\∀x,s.newp x->x=base+i
 cal:s.rc.call=true->s.rc.lo=nx/\s.rc.hi=nx1/\(∀x,s.need x->F x≠none/\∀p∈prev,eu s.m p.rc.i=false->x≠p.rc.lo)/\(∀x,s.frp x->nx<=x)/\∀x,s.newp x->nx<=x/\x<nx1
 DK:nx<=nx1
 bd:∀x,F x≠none->¬(base+i<=x/\x<base+W)
 base:base+W<=nx
inductive DT (E:Env) (nt W:Nat) (ops:Array Oper) (base:Nat):Nat->List St->List Oper->Tf->Hf->Nat->Tf->Hf->Nat->List St->Prop
 |nil {i prev T F nx}:DT E nt W ops base i prev [] T F nx T F nx prev
 |cons {i prev o l T F nx s nx1 T' F' nx' out} (c:Cnd E nt W ops base i prev o T F nx s nx1) (h:DT E nt W ops base (i+1) (s::prev) l (fA T s.u.dst s.u.v) (gR s.u.D s.u.H F) nx1 T' F' nx' out):DT E nt W ops base i prev (o::l) T F nx T' F' nx' out
theorem EP (U:Nat->Stp) (i j:Nat) (s:DS):stP U (List.range' i (j+1)) (fun _=>true) s=stP U (List.range' (i+1) j) (fun _=>true) (s.app (U i)):=by
 simp[stP,List.range'_succ]
theorem DT.steps {i:Nat} {prev:List St} {l:List Oper} {T:Tf} {F:Hf} {nx:Nat} {T':Tf} {F':Hf} {nx':Nat} {out:List St} (h:DT E nt W ops base i prev l T F nx T' F' nx' out):prev.length=i->
  out.length=i+l.length/\(∃new,out=new++prev)/\∃NX:Nat->Nat,NX i=nx/\NX (i+l.length)=nx'/\
   (∀j o,l[j]? =some o->∃s,out.reverse[i+j]? =some s/\Cnd E nt W ops base (i+j) (out.drop (out.length-(i+j))) o (stP (fun x=>(out.reverse.getD x default).u) (List.range' i j) (fun _=>true) ⟨T,F⟩).T
    (stP (fun x=>(out.reverse.getD x default).u) (List.range' i j) (fun _=>true) ⟨T,F⟩).F (NX (i+j)) s (NX (i+j+1)))/\
   (⟨T',F'⟩:DS)=stP (fun x=>(out.reverse.getD x default).u) (List.range' i l.length) (fun _=>true) ⟨T,F⟩:=by
 induction h with
 |nil=>
  intro hp;exact ⟨by simpa using hp,⟨[],rfl⟩,fun _=>_,rfl,rfl,by simp,by simp[stP]⟩
 | @cons i prev o l T F nx s nx1 T' F' nx' out c h ih=>
  intro hp;obtain ⟨q1,⟨new,q2⟩,NX,q3,q4,q5,q6⟩:=ih (by simp[hp])
  have hsi:out.reverse[i]? =some s:=by
   rw[q2];rw[List.reverse_append,List.reverse_cons,List.append_assoc,List.getElem?_append_right (by simp;omega)]
   simp[hp]
  have hU:(out.reverse.getD i default).u=s.u:=by rw[List.getD_eq_getElem?_getD,hsi];rfl
  have sg:(⟨T,F⟩:DS).app (out.reverse.getD i default).u=⟨fA T s.u.dst s.u.v,gR s.u.D s.u.H F⟩:=by rw[hU];rfl
  refine ⟨by simp;omega,⟨new++ [s],by simp[q2]⟩,fun k=>if k=i then nx else NX k,by simp,?_,?_,?_⟩
  ·simp only[List.length_cons];rw[if_neg (by omega)]
   rw[<-q4];congr 1;omega
  ·intro j o' ho;cases j with
   |zero=>
    simp at ho;subst ho;refine ⟨s,by simpa using hsi,?_⟩
    have e1:(if i+0+1=i then nx else NX (i+0+1))=nx1:=by rw[if_neg (by omega)];exact q3
    have e2:(if i+0=i then nx else NX (i+0))=nx:=by simp
    have e3:out.drop (out.length-(i+0))=prev:=by
     rw[q2];have:(new++s::prev).length-(i+0)=(new++ [s]).length:=by simp;omega
     rw[this,show new++s::prev=(new++ [s])++prev from by simp]
     simp
    simp only[e1,e2,e3];exact c
   |succ j=>
    simp at ho;obtain ⟨s',r1,r2⟩:=q5 j o' ho;refine ⟨s',by rw[<-r1];congr 1;omega,?_⟩
    have a1:i+(j+1)=i+1+j:=by omega
    rw[EP,sg,a1];simp only[if_neg (show ¬i+1+j=i by omega),if_neg (show ¬i+1+j+1=i by omega)]
    exact r2
  ·rw[List.length_cons,EP,sg];exact q6
theorem NM {p r:Oper} (h:sO ops.toList p r=true):(∀t,p.dst=some t->t∉r.looksAt ops)/\(∀t,r.dst=some t->t∉p.looksAt ops)/\∀t,p.dst=some t->r.dst≠some t:=by
 unfold sO at h;rw[Bool.and_eq_true,Bool.and_eq_true,KH,KH] at h;obtain ⟨h1,h2,h3⟩:=h;refine ⟨fun t ht=>jz h1 t (by simp[ht]),fun t ht=>jz h2 t (by simp[ht]),fun t ht hr=>jz h3 t (by simp[ht]) (by simp[hr])⟩
theorem NP {T T':Tf} {F F':Hf} {nx nx':Nat} {out:List St} {l0:List Oper} (hs:pJ ops.size ops.toList ops.toList 0 0 []=true) (uj:E.P.follows .mixedOrders=true) (hpre:ops.toList.take l0.length=l0) (hdt:DT E nt ops.size ops base 0 [] l0 T F nx T' F' nx' out) (hbn:base<=nx)
  {ro:Option Nat} {a:Act} {id m:Nat} {Q:Exit->Act->World->Prop} (hE:bC E g) (hfr:FR g nt T a.tmps) (hr:HR g F w) (eM:∀x,base<=x->g.ρ x=none)
  (se:l0.length=ops.size\/(l0.length+1=ops.size/\(∀d∈direct ops l0.length,d<l0.length)/\(∀j,j<l0.length->j∈anc ops ops.size l0.length)/\∀(g':Gh) (a':Act) (w':World) (K:Act->World->Prop),bC E g'->FR g' nt T' a'.tmps->HR g' F' w'->Fr g F w g' F' w'->a'.defers=a.defers->
   (∀x,x<base->g'.ρ x=g.ρ x)->(∀x,nx'<=x->g'.ρ x=none)->wpOpIn (fro ro) m E.P ops Q l0.length K a' w'))
  (hq:l0.length=ops.size->∀g' a' w',FR g' nt T' a'.tmps->HR g' F' w'->Fr g F w g' F' w'->a'.defers=a.defers->(∀x,x<base->g'.ρ x=g.ρ x)->(∀x,nx'<=x->g'.ρ x=none)->Q .normal a' w'):(Code.region id ops true).wpIn (fro ro) m E.P Q a w:=by
 obtain ⟨ol,_,NX,n0,n1,cnd,fin⟩:=hdt.steps rfl;simp only[Nat.zero_add] at ol n1 cnd fin;have hnn:l0.length<=ops.size:=by rcases se with h|h<;>omega
 have hop:∀j (hj:j<l0.length),l0[j]? =some (ops[j]'(by omega)):=by
  intro j hj;have h1:(ops.toList.take l0.length)[j]? =some (ops[j]'(by omega)):=by
   rw[List.getElem?_take,if_pos hj];simp[show j<ops.size by omega]
  rw[hpre] at h1;exact h1
 let S:Nat->St:=fun x=>out.reverse.getD x default
 have hS:∀j (hj:j<l0.length),Cnd E nt ops.size ops base j (out.drop (out.length-j)) (ops[j]'(by omega)) (stP (fun x=>(S x).u) (List.range' 0 j) (fun _=>true) ⟨T,F⟩).T (stP (fun x=>(S x).u) (List.range' 0 j) (fun _=>true) ⟨T,F⟩).F (NX j) (S j) (NX (j+1)):=by
  intro j hj;obtain ⟨s,r1,r2⟩:=cnd j (ops[j]'(by omega)) (hop j hj)
  have:S j=s:=by simp only[S,List.getD_eq_getElem?_getD,r1];rfl
  rw[this];exact r2
 have aiy:∀d j,j+d<=l0.length->NX j<=NX (j+d):=by
  intro d;induction d with
  |zero=>intro j _;exact Nat.le_refl _
  |succ d ih=>intro j hj;exact Nat.le_trans (ih j (by omega)) ((hS (j+d) (by omega)).DK)
 have BM:∀j k,j<=k->k<=l0.length->NX j<=NX k:=fun j k h1 h2=>by
  have:=aiy (k-j) j (by omega)
  rwa[show j+(k-j)=k by omega] at this
 have mr:∀i j,i<j->j<l0.length->S i∈out.drop (out.length-j):=by
  intro i j hij hj;have hi:i<out.reverse.length:=by simp;omega
  have e:out.drop (out.length-j)=(out.reverse.take j).reverse:=by
   rw[List.take_reverse];simp
  rw[e,List.mem_reverse,List.mem_take_iff_getElem];refine ⟨i,by simp;omega,?_⟩
  simp only[S,List.getD_eq_getElem?_getD,List.getElem?_eq_getElem hi,Option.getD_some]
 have adm:∀i j,i<j->j<l0.length->i∈anc ops ops.size j\/(eu (S j).m i=false/\Cg (S i).rc (S j).rc/\∀p r,ops[i]? =some p->ops[j]? =some r->sO ops.toList p r=true):=by
  intro i j hij hj;have ci:=hS i (by omega)
  have cj:=hS j hj;by_cases ha:i∈anc ops ops.size j
  ·exact .inl ha
  ·have hb:eu (S j).m i=false:=by
    cases hb:eu (S j).m i with
    |false=>rfl
    |true=>exact absurd (uS _ _ _ (by omega) i (cj.anc i hb)) ha
   refine .inr ⟨hb,?_,fun p r hp hr=> ?_⟩
   ·rcases cj.ind (S i) (mr i j hij hj) with h|h
    ·rw[ci.rci,hb] at h;simp at h
    ·exact h
   ·rcases vE ops.toList 0 0 [] hs (by simp) (by simp) (fun p hp=>by simp at hp) j (Nat.zero_le _) (by omega) i hij p r hp hr with h|h
    ·exact absurd (uS _ _ _ (by omega) i h) ha
    ·exact h
 have Zu:∀j,l0.length<=j->S j=default:=by
  intro j hj;show out.reverse.getD j default=default;rw[List.getD_eq_getElem?_getD,List.getElem?_eq_none (by simp;omega)]
  rfl
 have hno:∀(g':Gh) x,(x<base\/nx'<=x)->(∀y,g'.ρ y≠g.ρ y->∃k,k<l0.length/\(S k).newp y)->g'.ρ x=g.ρ x:=by
  intro g' x hx hy;by_cases he:g'.ρ x=g.ρ x
  ·exact he
  ·exfalso;obtain ⟨i,hi,hn⟩:=hy x he;have ci:=hS i hi;have hbi:=ci.base;have hm0:=BM 0 i (by omega) (by omega)
   have hm1:=BM (i+1) l0.length (by omega) (Nat.le_refl _)
   have hm2:=ci.DK;rw[n0] at hm0;rw[n1] at hm1;cases hci:(S i).rc.call with
   |false=>obtain ⟨_,_,_,_,_,e1⟩:=ci.smp hci;have:=e1 x hn;omega
   |true=>obtain ⟨_,_,_,_,e1⟩:=ci.cal hci;have:=e1 x hn;omega
 have hmm:=BM 0 l0.length (by omega) (Nat.le_refl _)
 rw[n0,n1] at hmm;refine R1 (S:=fun i=>l0.length<=i) (s0:=⟨T,F⟩) (U:=fun x=>(S x).u) (need:=fun i=>(S i).need) (frp:=fun i=>(S i).frp) (newp:=fun i=>(S i).newp) uj (fun i hi hns=>⟨(hS i (by omega)).dst,(hS i (by omega)).step ro⟩) (fun j hj=> ?_) ?_ hE hfr hr ?_ ?_ ?_
 ·by_cases hjn:l0.length<=j
  ·rcases se with he|⟨he,h1,h2,_⟩
   ·omega
   ·have e:j=l0.length:=by omega
    subst e;exact ⟨h1,fun i hij=>.inl (h2 i hij)⟩
  have hj0:=hj;have hj:j<l0.length:=by omega
  refine ⟨fun i hi=> ?_,fun i hij=> ?_⟩
  ·rw[Fv (Array.getElem?_eq_getElem hj0)] at hi;exact (hS j hj).lt i hi
  rcases adm i j hij hj with h|⟨hb,hI,hsl⟩
  ·exact .inl h
  ·have hi':i<l0.length:=by omega
   have hi0:i<ops.size:=by omega
   have ci:=hS i hi';have cj:=hS j hj;have hbi:=ci.base;have hbj:=cj.base;obtain ⟨t1,t2,t3⟩:=NM (hsl ops[i] ops[j] (Array.getElem?_eq_getElem hi0) (Array.getElem?_eq_getElem hj0));refine .inr ⟨fun t ht o ho=> ?_,fun t ht o ho=> ?_,fun t ht=> ?_,fun x hx=> ?_,fun x hx=> ?_,fun x hx=> ?_⟩
   ·rw[Array.getElem?_eq_getElem hj0] at ho;cases ho;exact t1 t (by rw[<-ci.dst];exact ht)
   ·rw[Array.getElem?_eq_getElem hi0] at ho;cases ho;exact t2 t (by rw[<-cj.dst];exact ht)
   ·rw[cj.dst];exact t3 t (by rw[<-ci.dst];exact ht)
   ·cases hd:(S j).u.D x with
    |false=>rfl
    |true=>
     exfalso;rcases (ci.D x).1 hx with h1|h1<;>rcases (cj.D x).1 hd with h2|h2
     ·exact hI.b3 x h1 h2
     ·rcases hI.a4 x h1 with h|h<;>omega
     ·rcases hI.a2 x h2 with h|h<;>omega
     ·cases hci:(S i).rc.call with
      |false=>
       obtain ⟨e1,e2,_⟩:=ci.smp hci;cases hcj:(S j).rc.call with
       |false=>obtain ⟨e3,e4,_⟩:=cj.smp hcj;omega
       |true=>obtain ⟨e3,e4,_⟩:=cj.cal hcj;omega
      |true=>
       obtain ⟨e1,e2,_⟩:=ci.cal hci;obtain ⟨e3,_⟩:=hI.c1 hci;obtain ⟨e4,e5,_⟩:=cj.smp e3;omega
   ·cases hd:(S i).u.D x with
    |false=>rfl
    |true=>
     exfalso;cases hcj:(S j).rc.call with
     |false=>
      obtain ⟨_,_,_,e,_⟩:=cj.smp hcj;rcases (ci.D x).1 hd with h1|h1
      ·exact hI.b2 x (e x hx) h1
      ·rcases hI.a1 x (e x hx) with h|h<;>omega
     |true=>
      obtain ⟨_,_,e,_⟩:=cj.cal hcj;obtain ⟨k1,k2⟩:=hI.c2 hcj;obtain ⟨e1,e2,_⟩:=ci.smp k1;rcases (ci.D x).1 hd with h1|h1
      ·rw[k2] at h1;simp at h1
      ·exact (e x hx).2 (S i) (mr i j hij hj) (by rw[ci.rci];exact hb) (by omega)
   ·cases hd:(S j).u.D x with
    |false=>rfl
    |true=>
     exfalso;cases hci:(S i).rc.call with
     |false=>
      obtain ⟨_,_,_,e,_⟩:=ci.smp hci;rcases (cj.D x).1 hd with h1|h1
      ·exact hI.b1 x (e x hx) h1
      ·rcases hI.a3 x (e x hx) with h|h<;>omega
     |true=>
      obtain ⟨_,_,e,_⟩:=ci.cal hci;obtain ⟨k1,k2⟩:=hI.c1 hci;obtain ⟨e1,e2,_⟩:=cj.smp k1;rcases (cj.D x).1 hd with h1|h1
      ·rw[k2] at h1;simp at h1
      ·exact ci.bd x (e x hx).1 ⟨by omega,by omega⟩
 ·intro i k hi hk hne x hx hn;by_cases hil:l0.length<=i
  ·have hx:(S i).frp x:=hx;rw[Zu i hil] at hx;exact hx.elim
  by_cases hkl:l0.length<=k
  ·have hn:(S k).newp x:=hn;rw[Zu k hkl] at hn;exact hn.elim
  have hi:i<l0.length:=by omega
  have hk:k<l0.length:=by omega
  have ci:=hS i hi;have ck:=hS k hk;have hbi:=ci.base;have hbk:=ck.base;cases hci:(S i).rc.call with
  |false=>
   obtain ⟨_,_,_,_,e1,_⟩:=ci.smp hci;have:=e1 x hx;cases hck:(S k).rc.call with
   |false=>obtain ⟨_,_,_,_,_,e2⟩:=ck.smp hck;have:=e2 x hn;omega
   |true=>obtain ⟨_,_,_,_,e2⟩:=ck.cal hck;have:=e2 x hn;omega
  |true=>
   obtain ⟨_,_,_,e1,_⟩:=ci.cal hci;have h1:=e1 x hx;cases hck:(S k).rc.call with
   |false=>obtain ⟨_,_,_,_,_,e2⟩:=ck.smp hck;have:=e2 x hn;omega
   |true=>
    obtain ⟨_,_,_,_,e2⟩:=ck.cal hck;have h2:=e2 x hn;rcases Nat.lt_or_gt_of_ne hne with hlt|hgt
    ·rcases adm i k hlt hk with h|⟨_,hI,_⟩
     ·exact h
     ·have:=(hI.c1 hci).1;rw[hck] at this;simp at this
    ·have:=BM (k+1) i (by omega) (by omega)
     omega
 ·intro i hi x hx;by_cases hil:l0.length<=i
  ·have hx:(S i).frp x:=hx;rw[Zu i hil] at hx;exact hx.elim
  have hi:i<l0.length:=by omega
  have ci:=hS i hi;have hbi:=ci.base;cases hci:(S i).rc.call with
  |false=>obtain ⟨_,_,_,_,e1,_⟩:=ci.smp hci;exact eM x (by have:=e1 x hx;omega)
  |true=>obtain ⟨_,_,_,e1,_⟩:=ci.cal hci;exact eM x (by have:=e1 x hx;omega)
 ·intro i hi hSi;rcases se with he|⟨he,_,h2,h3⟩
  ·have hSi:l0.length<=i:=hSi;omega
  ·have hSi:l0.length<=i:=hSi;have e:i=l0.length:=by omega
   subst e;refine ⟨he,h2,fun g1 a1 w1 K q1 q2 q3 q4 q5 q6=> ?_⟩
   have Zt:(⟨T',F'⟩:DS)=stP (fun x=>(S x).u) (List.range' 0 l0.length) (fun _=>true) ⟨T,F⟩:=fin
   rw[<-Zt] at q2 q3 q4;exact h3 g1 a1 w1 K q1 q2 q3 q4 q5 (fun x hx=>hno g1 x (.inl hx) q6) (fun x hx=>by rw[hno g1 x (.inr hx) q6];exact eM x (by omega))
 ·intro hns g' a' w' h1 h2 h3 h4 h5;have he:l0.length=ops.size:=by
   rcases se with he|⟨he,_⟩
   ·exact he
   ·exact absurd (Nat.le_refl _) (hns l0.length (by omega))
  have Zt:(⟨T',F'⟩:DS)=stP (fun x=>(S x).u) (List.range' 0 ops.size) (fun _=>true) ⟨T,F⟩:=by rw[<-he];exact fin
  rw[<-Zt] at h1 h2 h3;have h5':∀y,g'.ρ y≠g.ρ y->∃k,k<l0.length/\(S k).newp y:=by
   intro y hy;apply Classical.byContradiction;intro hc;exact hy (h5 y (fun i hi hn=>hc ⟨i,by omega,hn⟩))
  exact hq he g' a' w' h1 h2 h3 h4 (fun x hx=>hno g' x (.inl hx) h5') (fun x hx=>by rw[hno g' x (.inr hx) h5'];exact eM x (by omega))
end
section
variable {E:Env} {g:Gh} {f:Hf} {w:World} {T:Tf}
def k9 (f:Hf) (new:Nat) (us:List Up):Prop:=∀u∈us,u.1=new\/f u.1≠none
theorem keys_nil {new:Nat}:k9 f new []:=fun u hu=>by simp at hu
theorem iO {new:Nat} {o:Option SO}:k9 f new [(new,o)]:=fun u hu=>by simp at hu;subst hu;exact .inl rfl
theorem qo {new id:Nat} {o:Option SO} (h:f id≠none):k9 f new [(id,o)]:=fun u hu=>by simp at hu;subst hu;exact .inr h
theorem NL {new:Nat} {t:TypeId} {v a:SV} {us:List Up} (h:ir E f t v a=some us):k9 f new us:=by
 obtain ⟨q,h1,h⟩:=af h;obtain ⟨i,xs,p,_,_,hp,h⟩:=pa h;obtain ⟨_,h⟩:=ar h;cases h;exact qo (by rw[jO hp];simp)
theorem EM {new:Nat} {t:TypeId} {x k v:SV} {us:List Up} (h:lC E f t x k v=some us):k9 f new us:=by
 obtain ⟨id,_,h⟩:=af h;obtain ⟨i,_,h⟩:=af h;obtain ⟨q,_,h⟩:=af h;obtain ⟨ik,p,_,hp,h⟩:=az h;obtain ⟨_,h⟩:=ar h;obtain ⟨r,_,h⟩:=af h;cases h;exact qo (by rw[nS hp];simp)
theorem Mi {new:Nat} {t:TypeId} {s x v:SV} {us:List Up} (h:gp E f new t s x=some (v,us)):k9 f new us:=by
 obtain ⟨i,_,h⟩:=af h;obtain ⟨e,_,h⟩:=af h;obtain ⟨ie,_,h⟩:=af (show aj (E.ty.get e) _=some (v,us) from h);obtain ⟨_,h⟩:=ar h;obtain ⟨q,_,h⟩:=af h;obtain ⟨_,h⟩:=ar h;rw[aC] at h;split at h
 ·obtain ⟨_,h⟩:=ar h;cases h;exact keys_nil
 ·cases s with
  |aU=>cases (show some (SV.sl new 0 q.1 (.u e),[(new,some (SO.cells e q.2))])=some (v,us) from h);exact iO
  |sl id off n cap=>
   obtain ⟨_,h⟩:=ar (show sel (Nat.ble n 1000000) (sel (Gi n q.1 cap) (aj (eV f id off (Nat.mul n ie.size)) fun old=>mj new e (Nat.add n q.1) (old++q.2) []) (aG (jF (f id)) (eV f id off (Nat.mul n ie.size)) fun p old=>xY new e ie.size id off n cap q.1 q.2 p old)) none=some (v,us) from h)
   rw[aC] at h;split at h
   ·obtain ⟨old,_,h⟩:=af h;cases h;exact iO
   ·obtain ⟨p,old,hp,_,h⟩:=az h;have hf:f id≠none:=by rw[jO hp];simp
    cases cap with
    |k c=>
     have h:sel (Nat.ble (Nat.add n q.1) c) (sel (Nat.ble (Nat.add off (Nat.mul (Nat.add n q.1) ie.size)) p.2.length) (some (SV.sl id off (Nat.add n q.1) (.k c),[(id,some (SO.cells p.1 (bF p.2 (Nat.add off (Nat.mul n ie.size)) q.2)))])) none)
      (mj new e (Nat.add n q.1) (old++q.2) [])=some (v,us):=h
     rw[aC] at h;split at h
     ·obtain ⟨_,h⟩:=ar h;cases h;exact qo hf
     ·cases h;exact iO
    |u e0=>
     obtain ⟨_,h⟩:=ar (show sel (Nat.ble (Nat.add off (Nat.mul n ie.size)) p.2.length&&Nat.beq e p.1) (mj new e (Nat.add n q.1) (old++q.2) [(id,none)]) none=some (v,us) from h);cases h;intro u hu;simp at hu;rcases hu with rfl|rfl
     ·exact .inr hf
     ·exact .inl rfl
  |_=>cases h
theorem R9 {new:Nat} {t:TypeId} {d s v:SV} {us:List Up} (h:jV E f t d s=some (v,us)):k9 f new us:=by
 obtain ⟨i,_,h⟩:=af h;obtain ⟨e,_,h⟩:=af h;obtain ⟨ie,_,h⟩:=af (show aj (E.ty.get e) _=some (v,us) from h);obtain ⟨_,h⟩:=ar h;obtain ⟨nd,q,_,_,h⟩:=az h;cases d with
 |sl id off n cap=>
  obtain ⟨p,hp,h⟩:=af (show aj (jF (f id)) (fun p=>sel (Nat.ble (Nat.add off (Nat.mul (sel (Nat.ble q.1 nd) q.1 nd) ie.size)) p.2.length) (some (SV.int .i64 (.lit (.ofNat (sel (Nat.ble q.1 nd) q.1 nd))),[(id,some (SO.cells p.1 (bF p.2 off (q.2.take (Nat.mul (sel (Nat.ble q.1 nd) q.1 nd) ie.size)))))])) none)=some (v,us) from h)
  obtain ⟨_,h⟩:=ar h;cases h;exact qo (by rw[jO hp];simp)
 |aU=>cases (show some (SV.int .i64 (.lit (.ofNat (sel (Nat.ble q.1 nd) q.1 nd))),([]:List Up))=some (v,us) from h);exact keys_nil
 |sle=>cases (show some (SV.int .i64 (.lit (.ofNat (sel (Nat.ble q.1 nd) q.1 nd))),([]:List Up))=some (v,us) from h);exact keys_nil
 |_=>cases h
theorem dK {new:Nat} {r:Option SV} {v:SV} {us:List Up} (h:same r=some (v,us)):k9 f new us:=by
 obtain ⟨z,_,h⟩:=af h;cases h;exact keys_nil
theorem Kr {op:Op} {new:Nat} {v:SV} {us:List Up} (ho:opA E op T f new=some (v,us)):k9 f new us:=by
 cases op with
 |move x=>
  obtain ⟨y,hy,ho⟩:=af (show aj (aM T x) (fun v=>some (v,([]:List Up)))=some (v,us) from ho)
  cases ho;exact keys_nil
 |assign x=>
  obtain ⟨y,hy,ho⟩:=af (show aj (aM T x) (fun v=>some (v,([]:List Up)))=some (v,us) from ho)
  cases ho;exact keys_nil
 |pick c x y=>
  obtain ⟨cv,hc,ho⟩:=af (show aj (aM T c) (fun v=>aj (g6 v) fun b=>one T (sel b x y) fun v=>some (v,([]:List Up)))=some (v,us) from ho)
  obtain ⟨b,hb,ho⟩:=af ho;obtain ⟨z,hz,ho⟩:=af ho;cases ho;exact keys_nil
 |alloc e=>
  obtain ⟨i,hi,ho⟩:=af (show aj (E.ty.get e) (fun i=>some (SV.ptr new 0,[(new,some (SO.cells e i.zero))]))=some (v,us) from ho)
  cases ho;exact iO
 |box e x=>
  obtain ⟨y,hy,ho⟩:=af (show aj (aM T x) (xC new e)=some (v,us) from ho);obtain ⟨cs,hc,ho⟩:=af ho;cases ho;exact iO
 |build t parts=>
  obtain ⟨pcs,hpc,ho⟩:=af (show aj (ea T parts.toList) (fun pcs=>same (oa E t pcs))=some (v,us) from ho)
  exact dK ho
 |buildSlice t len parts=>
  obtain ⟨pcs,hpc,ho⟩:=af (show aj (ea T parts.toList) (fun pcs=>gQ E new t len pcs)=some (v,us) from ho)
  obtain ⟨i,hi,ho⟩:=af ho;obtain ⟨e,he,ho⟩:=af ho;obtain ⟨ie,hie,ho⟩:=af ho;obtain ⟨hc,ho⟩:=ar ho;obtain ⟨cs,hf,ho⟩:=af ho;cases ho;exact iO
 |insert t m k x=>
  obtain ⟨y1,y2,h1,h2,ho⟩:=az (show aG (aM T m) (aM T k) (fun a b=>one T x fun c=>unit (lC E f t a b c))=some (v,us) from ho)
  obtain ⟨y3,h3,ho⟩:=af ho;obtain ⟨us',hu,ho⟩:=af ho;cases ho;exact EM hu
 |mapUpdate t m k x=>
  obtain ⟨y1,y2,h1,h2,ho⟩:=az (show aG (aM T m) (aM T k) (fun a b=>one T x fun c=>unit (lC E f t a b c))=some (v,us) from ho)
  obtain ⟨y3,h3,ho⟩:=af ho;obtain ⟨us',hu,ho⟩:=af ho;cases ho;exact EM hu
 |load t x=>
  obtain ⟨y,hy,ho⟩:=af (show aj (aM T x) (fun v=>same (g8 E f t v))=some (v,us) from ho)
  exact dK ho
 |store t x y=>
  obtain ⟨y1,y2,h1,h2,ho⟩:=az (show aG (aM T x) (aM T y) (fun a v=>unit (ir E f t v a))=some (v,us) from ho)
  obtain ⟨us',hu,ho⟩:=af ho;cases ho;exact NL hu
 |nilCheck x=>
  obtain ⟨y,hy,ho⟩:=af (show aj (aM T x) (fun v=>same (Bj v))=some (v,us) from ho)
  exact dK ho
 |binOp op t x y yt=>
  obtain ⟨y1,y2,h1,h2,ho⟩:=az (show aG (aM T x) (aM T y) (fun v u=>same (sq E op t x y v u))=some (v,us) from ho)
  exact dK ho
 |unOp op t x=>
  obtain ⟨y,hy,ho⟩:=af (show aj (aM T x) (fun v=>same (unA op v))=some (v,us) from ho)
  exact dK ho
 |convert s d x=>
  obtain ⟨y,hy,ho⟩:=af (show aj (aM T x) (fun v=>same (B1 E s d v))=some (v,us) from ho)
  exact dK ho
 |makeInterface t x=>
  obtain ⟨y,hy,ho⟩:=af (show aj (aM T x) (Bg E t)=some (v,us) from ho);obtain ⟨i,hi,ho⟩:=af ho;rw[aC] at ho;split at ho
  ·cases ho
  ·cases ho;exact keys_nil
 |makeFunc fn first dE=>
  obtain ⟨hok,ho⟩:=ar (show sel (DH fn) (aG (bT T first.toList) (bT T dE.toList) fun l m=>some (SV.fn fn l m,([]:List Up))) none=some (v,us) from ho)
  obtain ⟨l,m,h1,h2,ho⟩:=az ho;cases ho;exact keys_nil
 |makeMap t r=>
  cases r with
  |none=>cases (show some (SV.mp new,[(new,some (SO.map [] 0))])=some (v,us) from ho);exact iO
  |some x=>
   obtain ⟨i,y,hi,hy,ho⟩:=az (show aG (E.ty.get t) (aM T x) (fun i v=>aG (ql i.desc) (eW v) fun _ _=>Bl new)=some (v,us) from ho)
   obtain ⟨q,n,hq,wi,ho⟩:=az ho;cases ho;exact iO
 |makeSlice t l c=>
  obtain ⟨y1,y2,h1,h2,ho⟩:=az (show aG (aM T l) (aM T c) (fun u v=>aG (eW u) (eW v) (qg E new t))=some (v,us) from ho)
  obtain ⟨n1,n2,k1,k2,ho⟩:=az ho;obtain ⟨i,hi,ho⟩:=af ho;obtain ⟨e,he,ho⟩:=af ho;obtain ⟨ie,hie,ho⟩:=af ho;obtain ⟨hc,ho⟩:=ar ho;cases ho;exact iO
 |slice t x lo hi mx=>
  obtain ⟨y,hy,ho⟩:=af (show aj (aM T x) (fun v=>pb (dz T lo) (dz T hi) (dz T mx) fun l u m=>same (qb E t v l u m))=some (v,us) from ho)
  obtain ⟨l,u,m,h1,h2,h3,ho⟩:=pa ho;exact dK ho
 |fieldAddr s x k=>
  obtain ⟨y,hy,ho⟩:=af (show aj (aM T x) (iN E s k)=some (v,us) from ho);obtain ⟨i,p,hi,hp,ho⟩:=az ho;obtain ⟨fs,hfs,ho⟩:=af ho;obtain ⟨fl,hfl,ho⟩:=af ho;obtain ⟨fi,hfi,ho⟩:=af ho;obtain ⟨hc,ho⟩:=ar ho;cases ho;exact keys_nil
 |field t x k=>
  obtain ⟨y,hy,ho⟩:=af (show aj (aM T x) (mT E t k)=some (v,us) from ho);obtain ⟨i,cs,hi,hp,ho⟩:=az ho;obtain ⟨fs,hfs,ho⟩:=af ho;obtain ⟨fl,hfl,ho⟩:=af ho;obtain ⟨fi,hfi,ho⟩:=af ho;exact dK ho
 |indexAddr t x ix=>
  obtain ⟨y1,y2,h1,h2,ho⟩:=az (show aG (aM T x) (aM T ix) (fun v u=>aj (eW u) fun k=>same (gK E t v k))=some (v,us) from ho)
  obtain ⟨n,wi,ho⟩:=af ho;exact dK ho
 |index t x ix=>
  obtain ⟨y1,y2,h1,h2,ho⟩:=az (show aG (aM T x) (aM T ix) (fun v u=>aj (eW u) fun k=>jM E t k v)=some (v,us) from ho)
  obtain ⟨n,wi,ho⟩:=af ho;obtain ⟨i,hi,ho⟩:=af ho;generalize i.desc=D at ho;cases D with
  |string=>
   obtain ⟨s,hs,ho⟩:=af (show aj (strOf y1) (fun s=>aj (s.data.toList[n]?) fun b=>some (SV.int .u8 (.lit (.ofNat b.toNat)),([]:List Up)))=some (v,us) from ho)
   obtain ⟨b,hb,ho⟩:=af ho;cases ho;exact keys_nil
  |array m e=>
   obtain ⟨cs,ie,hcs,hie,ho⟩:=az (show aG (uT y1) (E.ty.get e) (fun cs ie=>sel (Nat.ble (Nat.succ n) m) (same (cO ie cs (Nat.mul n ie.size))) none)=some (v,us) from ho)
   obtain ⟨hc,ho⟩:=ar ho;exact dK ho
  |_=>cases ho
 |lookup t x k ok=>
  obtain ⟨y1,y2,h1,h2,ho⟩:=az (show aG (aM T x) (aM T k) (fun a b=>same (jN E f t a b ok))=some (v,us) from ho)
  exact dK ho
 |range t x=>
  obtain ⟨y,hy,ho⟩:=af (show aj (aM T x) (l6 E f new t)=some (v,us) from ho);obtain ⟨i,hi,ho⟩:=af ho;obtain ⟨q,hq,ho⟩:=af ho;cases ho;exact iO
 |next it isS=>
  obtain ⟨y,hy,ho⟩:=af (show aj (aM T it) (mh f isS)=some (v,us) from ho);obtain ⟨hs,ho⟩:=ar ho;obtain ⟨id,hid,ho⟩:=af ho;obtain ⟨p,hp,ho⟩:=af ho;have ho:some (ic id p)=some (v,us):=ho;unfold ic at ho;rw[aC] at ho;split at ho
  ·cases ho;exact qo (by rw[By hp];simp)
  ·cases ho;exact keys_nil
 |typeAssert x xt t ok=>
  obtain ⟨y,hy,ho⟩:=af (show aj (aM T x) (qh E t ok)=some (v,us) from ho);obtain ⟨i,hi,ho⟩:=af ho;rw[aC] at ho;split at ho
  ·cases ho
  ·exact dK ho
 |extract x i=>
  obtain ⟨y,hy,ho⟩:=af (show aj (aM T x) (fun v=>aj (AA v) fun vs=>same (vs[i]?))=some (v,us) from ho)
  obtain ⟨vs,hvs,ho⟩:=af ho;exact dK ho
 |call c=>
  have ho:fG E T f new c=some (v,us):=ho;unfold fG at ho;split at ho
  ·rename_i b hb;obtain ⟨aa,has,ho⟩:=af ho;cases b with
   |len=>
    obtain ⟨x,t,h1,h2,ho⟩:=az (show aG aa.head? c.argTypes.toList.head? (fun x t=>sel (Nat.beq aa.length 1) (aj (E.ty.get t) fun i=>same (mX i.desc x f)) none)=some (v,us) from ho)
    obtain ⟨hl,ho⟩:=ar ho;obtain ⟨i,hi,ho⟩:=af ho;exact dK ho
   |append=>
    obtain ⟨p,q,h1,h2,ho⟩:=az (show aG (jf aa) (jf c.argTypes.toList) (fun p q=>aj (E.ty.get q.2) fun i=>sel (oo i.desc) (gp E f new q.1 p.1 p.2) none)=some (v,us) from ho)
    obtain ⟨i,hi,ho⟩:=af ho;obtain ⟨hr,ho⟩:=ar ho;exact Mi ho
   |copy=>
    obtain ⟨p,t,h1,h2,ho⟩:=az (show aG (jf aa) c.argTypes.toList.head? (fun p t=>jV E f t p.1 p.2)=some (v,us) from ho)
    exact R9 ho
   |min=>
    obtain ⟨p,h1,ho⟩:=af (show aj (jf aa) (fun p=>same (zT E false p.1 p.2))=some (v,us) from ho)
    exact dK ho
   |max=>
    obtain ⟨p,h1,ho⟩:=af (show aj (jf aa) (fun p=>same (zT E true p.1 p.2))=some (v,us) from ho)
    exact dK ho
   |_=>cases ho
  ·cases ho
 |_=>cases ho
end
section
variable {E:Env} {g:Gh} {f:Hf} {w:World}
def Bp (F:Fence) (n:Nat) (P:Program) (c:Code) (Q:Exit->Act->World->Prop) (a:Act) (w:World):Prop:=
 ∀(b:Frame) (k:List Item) (cs:List Frame),b.roundOf=F.round->F.fn b.fn->F.room (cs.length+1+n)->
  ∃e a' w',Q e a' w'/\ArrivesIn (Machine.fenced P F) P (lone (b.atR a (.code c:: .inLoop c::k)) cs w) b k cs e a' w'
def wpX (F:Fence) (n:Nat) (P:Program) (c:Code) (Q:Exit->Act->World->Prop) (a:Act) (w:World):Prop:=
 match c with
 | .loop b=>Bp F n P b Q a w
 |c=>c.wpIn F n P Q a w
inductive ExR (g:Gh):Ex->Exit->Prop
 |normal:ExR g .normal .normal
 |exit (id):ExR g (.exit id) (.exit id)
 |ret:ExR g .ret .ret
 |pan {v u} (h:VR g u v):ExR g (.pan v) (.panic [{v:=u,recovered:=false}])
inductive Marks (g:Gh):List Dm->List Deferred->Prop
 |nil:Marks g [] []
 |mark {d mk r o ds} (h:g.ρ d=some (r,o)) (ht:Marks g mk ds):Marks g (.mark d::mk) ({target:=.collected r,args:= #[]}::ds)
 |fn {k aa ca mk ds} {us cs:Array Value} (h1:VRs g us.toList aa) (h2:VRs g cs.toList ca) (ht:Marks g mk ds):Marks g (.fn k aa ca::mk) ({target:=.fn (.func k) cs,args:=us}::ds)
theorem Marks.mono {g g':Gh} (hle:g.le g'):∀{mk:List Dm} {ds:List Deferred},Marks g mk ds->Marks g' mk ds
 |_,_,.nil=>.nil
 |_,_,.mark h ht=>.mark (hle.ρ _ _ h) (ht.mono hle)
 |_,_,.fn h1 h2 ht=>.fn (h1.mono hle) (h2.mono hle) (ht.mono hle)
def Bd (h:Hs):Prop:=∀x,h.nx<=x->h.hp.get x=none
structure Fac (h h':Hs):Prop where
 nx:h.nx<=h'.nx
 bd:Bd h'
 lg:∀x,x<h.nx->x∉h'.lg->h'.hp.get x=h.hp.get x
 sub:∀x∈h.lg,x∈h'.lg
 dead:∀x,x<h.nx->h.hp.get x=none->h'.hp.get x=none
theorem Fac.refl {h:Hs} (hb:Bd h):Fac h h:=⟨Nat.le_refl _,hb,fun _ _ _=>rfl,fun _ h=>h,fun _ _ h=>h⟩
theorem Fac.trans {a b c:Hs} (h:Fac a b) (k:Fac b c):Fac a c:=
 ⟨Nat.le_trans h.nx k.nx,k.bd,fun x hx hn=>(k.lg x (Nat.lt_of_lt_of_le hx h.nx) hn).trans (h.lg x hx (fun hc=>hn (k.sub x hc))),fun x hx=>k.sub x (h.sub x hx),fun x hx hn=>k.dead x (Nat.lt_of_lt_of_le hx h.nx) (h.dead x hx hn)⟩
def jB (h:Hs) (mk mk':List Dm):Prop:=mk.length<=mk'.length/\∀x,Dm.mark x∈mk'->Dm.mark x∈mk\/h.nx<=x
theorem jB.refl (h:Hs) (mk:List Dm):jB h mk mk:=⟨Nat.le_refl _,fun _ hx=>.inl hx⟩
theorem jB.trans {h h1:Hs} {mk mk1 mk2:List Dm} (f1:h.nx<=h1.nx) (l1:jB h mk mk1) (l2:jB h1 mk1 mk2):jB h mk mk2:=
 ⟨Nat.le_trans l1.1 l2.1,fun x hx=>(l2.2 x hx).elim (l1.2 x) fun hx=>.inr (Nat.le_trans f1 hx)⟩
def SE (nt:Nat) (g:Gh) (h:Hs) (w:World) (Q:Exit->Act->World->Prop) (o:Oc):Prop:=
 ∀g' a' w' x,ExR g' o.e x->FR g' nt o.tm.get a'.tmps->HR g' o.h.hp.get w'->Fr g h.hp.get w g' o.h.hp.get w'->Marks g' o.dm a'.defers->(∀x,o.h.nx<=x->g'.ρ x=none)->(∀x,x<h.nx->g'.ρ x=g.ρ x)->Q x a' w'
def dJ (E:Env) (nt:Nat) (c:Code) (tm:Tr SV) (mk:List Dm) (h:Hs) (l:List Oc):Prop:=
 l≠ []/\(∀o∈l,Fac h o.h/\jB h mk o.dm)/\
 ∀(ro:Option Nat) (m:Nat) (g:Gh) (a:Act) (w:World) (Q:Exit->Act->World->Prop),codeOk c=true->(ro=none\/∀o∈l,o.dm.length=mk.length)->bC E g->FR g nt tm.get a.tmps->HR g h.hp.get w->Marks g mk a.defers->(∀x,h.nx<=x->g.ρ x=none)->
  (∀o∈l,SE nt g h w Q o)->wpX (fro ro) m E.P c Q a w
def OpsS (E:Env) (nt:Nat) (ops:Array Oper) (l:List Oper) (tm:Tr SV) (mk:List Dm) (h:Hs) (r:List Oc):Prop:=
 r≠ []/\(∀o∈r,Fac h o.h/\jB h mk o.dm)/\
 ∀(ro:Option Nat) (m:Nat) (g:Gh) (a:Act) (w:World) (Q:Exit->Act->World->Prop),(ro=none\/∀o∈r,o.dm.length=mk.length)->bC E g->FR g nt tm.get a.tmps->HR g h.hp.get w->Marks g mk a.defers->(∀x,h.nx<=x->g.ρ x=none)->
  (∀o∈r,SE nt g h w Q o)->wpOpsIn (fro ro) m E.P ops Q (List.range' (ops.size-l.length) l.length) a w
structure FacD (base i W:Nat) (h h':Hs):Prop where
 nx:h.nx<=h'.nx
 bd:Bd h'
 lg:∀x,x<h.nx->¬(base+i<=x/\x<base+W)->x∉h'.lg->h'.hp.get x=h.hp.get x
 sub:∀x∈h.lg,x∈h'.lg
 dead:∀x,x<h.nx->¬(base+i<=x/\x<base+W)->h.hp.get x=none->h'.hp.get x=none
def Sound (E:Env):Job->Out->Prop
 | .code nt c tm mk h,.bq l=>Bd h->dJ E nt c tm mk h l
 | .ops nt all l tm mk h,.bq r=>∀ops:Array Oper,ops.toList=all->ops.toList.drop (ops.size-l.length)=l->Bd h->OpsS E nt ops l tm mk h r
 | .draw nt W all base i M prev l tm h,.st tm' h'=>∀ops:Array Oper,ops.toList=all->W=ops.size->ops.toList.drop i=l->base+W<=h.nx->Bd h->(∀x,h.hp.get x≠none->¬(base+i<=x/\x<base+W))->w6 ops W M i->(∀p∈prev,p.call=false->p.hi=p.lo+1/\p.lo<base+W)->
   ∀ps:List St,ps.map (·.rc)=prev->FacD base i W h h'/\∃out,DT E nt W ops base i ps l tm.get h.hp.get h.nx tm'.get h'.hp.get h'.nx out
 | .call fv aa h,.cI l=>Bd h->l≠ []/\(∀r∈l,Fac h r.h)/\lS E fv aa h.hp.get h.nx l
 |_,_=>True
structure Mo (w w':World):Prop where
 os:w'.os=w.os
 tape:w'.tape=w.tape
 output:w'.output=w.output
 size:w.heap.size<=w'.heap.size
 heap:∀b,b<w.heap.size->w'.heap[b]? =w.heap[b]?
def GoFn (P:Program) (k:FuncId):Prop:=∃fn,P.funcs[k]? =some fn/\fn.body.isSome=true/\fn.name≠ "runtime.NumGoroutine"
def Ch (P:Program) (k:FuncId) (v:SV):Prop:=
 GoFn P k/\∀m w,CallsIn Fence.wide m P k #[] w fun e w'=>∃r,e= .returned r/\(∀g,VR g r v)/\Mo w w'
structure kR (E:Env):Prop where
 fn:∀k fn,E.fn.get k=some fn->E.P.funcs[k]? =some fn/\RE fn=true
 ext:∀k fn,E.fn.get k=some fn->fn.body=none->(fn.name== "internal/bytealg.abigen_runtime_cmpstring")=true->Extern.findNext fn=none/\Extern.find fn=some Extern.BytealgCompare.compare
 mix:E.P.follows .mixedOrders=true
 done:∀k v,iP E k []=some v->Ch E.P k v
theorem Sx {a b:Out} {r:List Oc} (h:Mj a b= .bq r):∃x y,a= .bq x/\b= .bq y/\r=x++y:=by
 cases a<;>cases b<;>first|(cases h;done)|(cases h;exact ⟨_,_,rfl,rfl,rfl⟩)
theorem Xy {a b:Out} {r:List Rs} (h:Mj a b= .cI r):∃x y,a= .cI x/\b= .cI y/\r=x++y:=by
 cases a<;>cases b<;>first|(cases h;done)|(cases h;exact ⟨_,_,rfl,rfl,rfl⟩)
theorem mH {α:Type} {k:α->Out}:∀{l:List α} {r:List Oc},oz k l= .bq r->l≠ []/\(∀o∈l,∃r',k o= .bq r'/\∀x∈r',x∈r)/\∀x∈r,∃o∈l,∃r',k o= .bq r'/\x∈r'
 | [],r,h=>by cases h
 | [o],r,h=>by
  have h:k o= .bq r:=h;refine ⟨by simp,fun o' ho=> ?_,fun x hx=>⟨o,by simp,r,h,hx⟩⟩
  obtain rfl:=List.mem_singleton.1 ho;exact ⟨r,h,fun _ hx=>hx⟩
 |o::o'::l,r,h=>by
  obtain ⟨x,y,h1,h2,rfl⟩:=Sx (show Mj (k o) (oz k (o'::l))= .bq r from h);obtain ⟨_,q1,q2⟩:=mH h2;refine ⟨by simp,fun z hz=> ?_,fun z hz=> ?_⟩
  ·rcases List.mem_cons.1 hz with rfl|hz
   ·exact ⟨x,h1,fun a ha=>by simp[ha]⟩
   ·obtain ⟨r',e1,e2⟩:=q1 z hz;exact ⟨r',e1,fun a ha=>by simp[e2 a ha]⟩
  ·rcases List.mem_append.1 hz with hz|hz
   ·exact ⟨o,by simp,x,h1,hz⟩
   ·obtain ⟨a,ha,r',e1,e2⟩:=q2 z hz;exact ⟨a,List.mem_cons_of_mem _ ha,r',e1,e2⟩
theorem wQ {α:Type} {k:α->Out}:∀{l:List α} {r:List Rs},oz k l= .cI r->l≠ []/\(∀o∈l,∃r',k o= .cI r'/\∀x∈r',x∈r)/\∀x∈r,∃o∈l,∃r',k o= .cI r'/\x∈r'
 | [],r,h=>by cases h
 | [o],r,h=>by
  have h:k o= .cI r:=h;refine ⟨by simp,fun o' ho=> ?_,fun x hx=>⟨o,by simp,r,h,hx⟩⟩
  obtain rfl:=List.mem_singleton.1 ho;exact ⟨r,h,fun _ hx=>hx⟩
 |o::o'::l,r,h=>by
  obtain ⟨x,y,h1,h2,rfl⟩:=Xy (show Mj (k o) (oz k (o'::l))= .cI r from h);obtain ⟨_,q1,q2⟩:=wQ h2;refine ⟨by simp,fun z hz=> ?_,fun z hz=> ?_⟩
  ·rcases List.mem_cons.1 hz with rfl|hz
   ·exact ⟨x,h1,fun a ha=>by simp[ha]⟩
   ·obtain ⟨r',e1,e2⟩:=q1 z hz;exact ⟨r',e1,fun a ha=>by simp[e2 a ha]⟩
  ·rcases List.mem_append.1 hz with hz|hz
   ·exact ⟨o,by simp,x,h1,hz⟩
   ·obtain ⟨a,ha,r',e1,e2⟩:=q2 z hz;exact ⟨a,List.mem_cons_of_mem _ ha,r',e1,e2⟩
theorem qi {r:Out} {k:Ex->Tr SV->List Dm->Hs->Out} {x:List Oc} (h:vR r k= .bq x):∃l,r= .bq l/\oz (fun o:Oc=>k o.e o.tm o.dm o.h) l= .bq x:=by
 cases r<;>first|(cases h;done)|exact ⟨_,rfl,h⟩
theorem NT {r:Out} {k:Ex->Tr SV->List Dm->Hs->Out} {x:List Rs} (h:vR r k= .cI x):∃l,r= .bq l/\oz (fun o:Oc=>k o.e o.tm o.dm o.h) l= .cI x:=by
 cases r<;>first|(cases h;done)|exact ⟨_,rfl,h⟩
theorem QA {r:Out} {k kp:SV->Hs->Out} {x:List Oc} (h:Dy r k kp= .bq x):∃l,r= .cI l/\oz (fun r:Rs=>sel r.pan (kp r.v r.h) (k r.v r.h)) l= .bq x:=by
 cases r<;>first|(cases h;done)|exact ⟨_,rfl,h⟩
theorem UI {r:Out} {k kp:SV->Hs->Out} {x:List Rs} (h:Dy r k kp= .cI x):∃l,r= .cI l/\oz (fun r:Rs=>sel r.pan (kp r.v r.h) (k r.v r.h)) l= .cI x:=by
 cases r<;>first|(cases h;done)|exact ⟨_,rfl,h⟩
theorem Io:∀(us:List Up) (h:Hs),(∀x∈h.lg,x∈(h.ups us).lg)/\∀u∈us,u.1∈(h.ups us).lg
 | [],h=>⟨fun _ hx=>hx,fun u hu=>by simp at hu⟩
 |u::us,h=>by
  obtain ⟨h1,h2⟩:=Io us (h.up u);refine ⟨fun x hx=>h1 x (List.mem_cons_of_mem _ hx),fun v hv=> ?_⟩
  rcases List.mem_cons.1 hv with rfl|hv
  ·exact h1 v.1 (by simp[Hs.up])
  ·exact h2 v hv
theorem aeO (h:Hs) (us:List Up):(h.fin us).hp.get=gF h.hp.get us:=by
 cases us with
 |nil=>rfl
 |cons u us=>exact xo (u::us) h
theorem im {us:List Up} {x:Nat} (h:x∉us.map (·.1)) (F:Hf):gF F us x=F x:=by rw[pR us F F x,if_neg h]
theorem aeP {h:Hs} {us:List Up} (hb:Bd h) (hk:k9 h.hp.get h.nx us):Fac h (h.fin us):=by
 cases us with
 |nil=>exact Fac.refl hb
 |cons u us=>
  have e:h.fin (u::us)=(h.ups (u::us)).bump:=rfl;have hn:(h.ups (u::us)).nx=h.nx:=pQ _ _;have hg:(h.ups (u::us)).hp.get=gF h.hp.get (u::us):=xo _ _;have hlt:∀v∈u::us,v.1<=h.nx:=fun v hv=>by
   rcases hk v hv with h1|h1
   ·omega
   ·by_cases hl:h.nx<=v.1
    ·exact absurd (hb _ hl) h1
    ·omega
  obtain ⟨l1,l2⟩:=Io (u::us) h;refine ⟨?_,fun x hx=> ?_,fun x hx hl=> ?_,fun x hx=>l1 x hx,fun x hx hl=> ?_⟩
  ·rw[e];show h.nx<=(h.ups (u::us)).nx+1;omega
  ·rw[e] at hx ⊢;have hx:(h.ups (u::us)).nx+1<=x:=hx;show (h.ups (u::us)).hp.get x=none;rw[hg,im (fun hc=>by obtain ⟨v,hv,rfl⟩:=List.mem_map.1 hc;have:=hlt v hv;omega)]
   exact hb x (by omega)
  ·rw[e] at hl ⊢;show (h.ups (u::us)).hp.get x=_;rw[hg,im (fun hc=>by obtain ⟨v,hv,rfl⟩:=List.mem_map.1 hc;exact hl (l2 v hv))]
  ·rw[e];show (h.ups (u::us)).hp.get x=_;rw[hg,im (fun hc=>by
    obtain ⟨v,hv,rfl⟩:=List.mem_map.1 hc;rcases hk v hv with h1|h1
    ·omega
    ·exact h1 hl)]
   exact hl
theorem Wm {ops:Array Oper} {o:Oper} {l:List Oper} (h:ops.toList.drop (ops.size-(o::l).length)=o::l):ops[ops.size-(o::l).length]? =some o/\ops.toList.drop (ops.size-l.length)=l/\ops.size-l.length=ops.size-(o::l).length+1:=by
 have hi:ops.size-(o::l).length<ops.toList.length:=by
  by_cases hl:ops.size-(o::l).length<ops.toList.length
  ·exact hl
  ·rw[List.drop_of_length_le (by omega)] at h;simp at h
 have hlen:(o::l).length<=ops.size:=by
  have:=congrArg List.length h;simp at this ⊢;omega
 rw[List.drop_eq_getElem_cons hi] at h;obtain ⟨h1,h2⟩:=List.cons.inj h;have e:ops.size-l.length=ops.size-(o::l).length+1:=by simp at hlen ⊢;omega
 refine ⟨?_,by rw[e];exact h2,e⟩
 have:ops.toList[ops.size-(o::l).length]? =some o:=by rw[List.getElem?_eq_getElem hi,h1]
 simpa using this
theorem Kl {nt:Nat} {all:List Oper} {o:Oper} {l:List Oper} {tm:Tr SV} {mk:List Dm} {h:Hs} {r:List Oc} (W:List (Tr SV×List Dm×Hs)) (P:List Oc)
  (Rw:∀(ops:Array Oper) (i:Nat),ops.toList=all->ops[i]? =some o->Bd h->∀(ro:Option Nat) (m:Nat) (g:Gh) (a:Act) (w:World) (K:Act->World->Prop) (Q:Exit->Act->World->Prop),(ro=none\/∀y∈W,y.2.1.length=mk.length)->bC E g->FR g nt tm.get a.tmps->HR g h.hp.get w->Marks g mk a.defers->(∀x,h.nx<=x->g.ρ x=none)->
   (∀y∈W,∀g' a' w',FR g' nt y.1.get a'.tmps->HR g' y.2.2.hp.get w'->Fr g h.hp.get w g' y.2.2.hp.get w'->Marks g' y.2.1 a'.defers->(∀x,y.2.2.nx<=x->g'.ρ x=none)->(∀x,x<h.nx->g'.ρ x=g.ρ x)->K a' w')->(∀o∈P,SE nt g h w Q o)->wpOpIn (fro ro) m E.P ops Q i K a w)
  (Lq:Bd h->(∀y∈W,Fac h y.2.2/\jB h mk y.2.1)/\∀o∈P,Fac h o.h/\jB h mk o.dm) (hP:∀o∈P,o∈r) (hne:∀ops:Array Oper,ops.toList=all->ops.toList.drop (ops.size-l.length)=l->Bd h->r≠ [])
  (hin:∀o∈r,o∈P\/∃y∈W,∃r',Sound E (.ops nt all l y.1 y.2.1 y.2.2) (.bq r')/\o∈r') (ih:∀y∈W,∃r',Sound E (.ops nt all l y.1 y.2.1 y.2.2) (.bq r')/\∀o∈r',o∈r):Sound E (.ops nt all (o::l) tm mk h) (.bq r):=by
 intro ops he hd hbd;obtain ⟨hi,hd',hidx⟩:=Wm hd;obtain ⟨fW,fP⟩:=Lq hbd;refine ⟨hne ops he hd' hbd,fun o ho=> ?_,fun ro m g a w Q hro hE hfr hr hmk hnx hk=> ?_⟩
 ·rcases hin o ho with hp|⟨y,hy,r',hs,hor⟩
  ·exact fP o hp
  ·obtain ⟨_,f1,_⟩:=hs ops he hd' (fW y hy).1.bd;exact ⟨(fW y hy).1.trans (f1 o hor).1,jB.trans (fW y hy).1.nx (fW y hy).2 (f1 o hor).2⟩
 ·rw[List.length_cons,List.range'_succ,wpOpsIn_cons];refine Rw ops _ he hi hbd ro m g a w _ Q (hro.imp_right fun hro y hy=> ?_) hE hfr hr hmk hnx (fun y hy g' a' w' q1 q2 q3 q4 q5 q6=> ?_) (fun o ho=>hk o (hP o ho))
  ·obtain ⟨r',hs,hor⟩:=ih y hy;obtain ⟨ui,f1,_⟩:=hs ops he hd' (fW y hy).1.bd;obtain ⟨o',ho'⟩:=List.exists_mem_of_ne_nil _ ui;have h1:=(fW y hy).2.1;have h2:=(f1 o' ho').2.1;have h3:=hro o' (hor o' ho');omega
  ·obtain ⟨r',hs,hor⟩:=ih y hy;obtain ⟨ui,f1,k1⟩:=hs ops he hd' (fW y hy).1.bd;have:=k1 ro m g' a' w' Q (hro.imp_right fun hro o' ho'=>by
    obtain ⟨o2,ho2⟩:=List.exists_mem_of_ne_nil _ ui;have h1:=(fW y hy).2.1;have h2:=(f1 o' ho').2.1;have h3:=hro o' (hor o' ho');omega) (hE.mono q3.le) q1 q2 q4 q5 (fun o' ho' g2 a2 w2 x s0 s1 s2 s3 s4 s5 s6=>hk o' (hor o' ho') g2 a2 w2 x s0 s1 s2 (q3.trans s3) s4 s5 (fun x hx=>by
     rw[s6 x (Nat.lt_of_lt_of_le hx (fW y hy).1.nx),q6 x hx]))
   rw[hidx] at this;exact this
theorem Km {nt:Nat} {all:List Oper} {o:Oper} {l:List Oper} {tm tm1:Tr SV} {mk:List Dm} {h h1:Hs} {out:Out} {need frp newp:Nat->Prop} {v:SV} {D:Nat->Bool} {H':Hf}
  (hst:∀(ops:Array Oper) (i:Nat),ops.toList=all->ops[i]? =some o->Bd h->∀ro,nG E ro nt ops i o tm.get need h.hp.get frp newp v D H') (htm:tm1.get=fA tm.get o.dst v) (hh:Bd h->h1.hp.get=gR D H' h.hp.get) (hfrp:∀x,frp x->h.nx<=x)
  (eM:∀x,newp x->h.nx<=x/\x<h1.nx) (Lq:Bd h->Fac h h1) (ih:Sound E (.ops nt all l tm1 mk h1) out):Sound E (.ops nt all (o::l) tm mk h) out:=by
 cases out with
 |bq r=>
  by_cases hne:r= []
  ·intro ops he hd hbd;obtain ⟨_,hd',_⟩:=Wm hd;exact absurd hne (ih ops he hd' (Lq hbd).bd).1
  refine Kl [(tm1,mk,h1)] [] (fun ops i he hi hbd ro m g a w K Q hro hE hfr hr hmk hnx hk _=> ?_) (fun hbd=>⟨fun y hy=> ?_,fun o ho=>by simp at ho⟩) (fun o ho=>by simp at ho) (fun _ _ _ _=>hne) (fun o ho=>.inr ⟨(tm1,mk,h1),by simp,r,ih,ho⟩) (fun y hy=> ?_)
  ·refine hst ops i he hi hbd ro m g h.hp.get tm.get a w K Q hE hfr hr (fun _ _=>rfl) (fun _ _=>rfl) (fun x hx=>hnx x (hfrp x hx)) (fun r w' g' q1 q2 q3 q4=> ?_)
   rw[<-htm] at q1;rw[<-hh hbd] at q2 q3;have hf1:=(Lq hbd).nx;exact hk (tm1,mk,h1) (by simp) g' (a.put o.dst r) w' q1 q2 q3 (by rw[put_defers];exact hmk.mono q3.le) (fun x hx=>by
    have hx:h1.nx<=x:=hx;rw[q4 x (fun hn=>by have:=eM x hn;omega)]
    exact hnx x (by omega)) (fun x hx=>q4 x (fun hn=>by have:=eM x hn;omega))
  ·obtain rfl:=List.mem_singleton.1 hy;exact ⟨Lq hbd,jB.refl _ _⟩
  ·obtain rfl:=List.mem_singleton.1 hy;exact ⟨r,ih,fun _ h=>h⟩
 |_=>trivial
def oR (us:List Up) (new:Nat):Nat->Bool:=fun x=>decide (x∈us.map (·.1)\/x=new)
theorem aet {nt:Nat} {all:List Oper} {o:Oper} {l:List Oper} {tm:Tr SV} {mk:List Dm} {h:Hs} {out:Out} {v:SV} {us:List Up} (hw:cg all o tm.get=some true) (hd:cK nt o.dst=true) (ho:opA E o.op tm.get h.hp.get h.nx=some (v,us))
  (hnd:∀c,o.op≠ .defer c) (ih:Sound E (.ops nt all l (bB tm o.dst v) mk (h.fin us)) out):Sound E (.ops nt all (o::l) tm mk h) out:=by
 refine Km (need:=fun x=>x∈eC o.op tm.get) (frp:=fun x=>x=h.nx) (newp:=fun x=>x=h.nx/\us≠ []) (v:=v) (D:=oR us h.nx) (H':=gF h.hp.get us) (fun ops i he hi hbd ro=> ?_) (mS _ _ _) (fun hbd=> ?_) (fun x hx=>by omega) (fun x hx=> ?_) (fun hbd=>aeP hbd (Kr ho)) ih
 ·subst he;exact zd hi hw hd ho (hbd _ (Nat.le_refl _)) (fun x=>by simp[oR]) hnd
 ·rw[aeO];funext x;unfold gR oR;by_cases h1:x∈us.map (·.1)
  ·rw[if_pos (by simp only[decide_eq_true_eq];exact .inl h1)]
  ·rw[im h1];split<;>rfl
 ·obtain ⟨rfl,hne⟩:=hx;refine ⟨Nat.le_refl _,?_⟩;cases us with
  |nil=>exact absurd rfl hne
  |cons u us=>
   show h.nx<(h.ups (u::us)).nx+1;rw[pQ];omega
theorem Yz {nt:Nat} {all:List Oper} {o:Oper} {l:List Oper} {tm:Tr SV} {mk:List Dm} {h:Hs} {out:Out} (hw:cg all o tm.get=some false) (hd:cK nt o.dst=true) (ih:Sound E (.ops nt all l (bB tm o.dst (.tup [])) mk h) out):Sound E (.ops nt all (o::l) tm mk h) out:=by
 refine Km (need:=fun _=>False) (frp:=fun x=>x=h.nx) (newp:=fun _=>False) (v:=.tup []) (D:=fun x=>decide (x=h.nx)) (H':=h.hp.get) (fun ops i he hi hbd ro=> ?_) (mS _ _ _) (fun hbd=> ?_) (fun x hx=>by omega) (fun x hx=>hx.elim) (fun hbd=>Fac.refl hbd) ih
 ·subst he;exact step_skip hi hw hd (hbd _ (Nat.le_refl _)) (fun x=>by simp)
 ·funext x;unfold gR;split<;>rfl
theorem zu {op:Op} {c:Call} (h:dB op=some c):op= .call c/\isValue c.callee=true:=by
 cases op<;>first|(cases h;done)|skip
 rename_i c';have h:sel (isValue c'.callee) (some c') none=some c:=h;obtain ⟨h1,h2⟩:=ar h;cases h2;exact ⟨rfl,h1⟩
theorem BY {op:Op} {T:Tf} {new:Nat} {r:SV×List Up} (h:opA E op T f new=some r):∀c,op≠ .defer c:=by
 intro c e;subst e;cases h
end
section
variable {E:Env} {g:Gh} {f:Hf} {w:World}
theorem agq {op:Op} {c:Call} (h:xP op=some c):op= .defer c/\isValue c.callee=true:=by
 cases op<;>first|(cases h;done)|skip
 rename_i c';have h:sel (isValue c'.callee) (some c') none=some c:=h;obtain ⟨h1,h2⟩:=ar h;cases h2;exact ⟨rfl,h1⟩
theorem afP {op:Op} {x:Operand} (h:xB op=some x):op= .panic x:=by
 cases op<;>first|(cases h;done)|(cases h;rfl)
theorem aib {op:Op} {x:Operand×Bool} (h:Bk op=some x):(op= .next x.1 false/\x.2=false)\/(op= .entry x.1/\x.2=true):=by
 cases op<;>first|(cases h;done)|skip
 ·rename_i it isS;have h:sel isS none (some (it,false))=some x:=h;cases isS with
  |true=>cases h
  |false=>cases h;exact .inl ⟨rfl,rfl⟩
 ·cases h;exact .inr ⟨rfl,rfl⟩
theorem eB.mem {ms:List MapEntry} {es:List (SV×SV×Nat)} (h:eB g ms es):∀m∈ms,∃x∈es,SU g m x:=by
 intro m hm;induction h with
 |nil=>simp at hm
 |cons hd ht ih=>
  rcases List.mem_cons.1 hm with rfl|hm
  ·exact ⟨_,by simp,hd⟩
  ·obtain ⟨x,hx,h⟩:=ih hm;exact ⟨x,List.mem_cons_of_mem _ hx,h⟩
theorem YA {rec:Job->Out} (dM:∀j,Sound E j (rec j)) {nt:Nat} {all:List Oper} {o:Oper} {c:Call} {l:List Oper} {tm:Tr SV} {mk:List Dm} {h:Hs} {r:List Oc} {fv:SV} {aa:List SV} {rs:List Rs} (hw:cg all o tm.get=some true) (hd:cK nt o.dst=true) (hop:o.op= .call c) (hc:ig tm.get c.callee=some fv)
  (has:bT tm.get c.args.toList=some aa) (hs:Sound E (.call fv aa h) (.cI rs)) (cC:oz (fun x:Rs=>sel x.pan (.bq [⟨.pan x.v,tm,mk,x.h⟩]) (oP rec nt all l tm mk o.dst x.v x.h)) rs= .bq r):Sound E (.ops nt all (o::l) tm mk h) (.bq r):=by
 have hs:Bd h->rs≠ []/\(∀r∈rs,Fac h r.h)/\lS E fv aa h.hp.get h.nx rs:=hs;obtain ⟨hne,q1,q2⟩:=mH cC;have way:∀x∈rs,(x.pan=true/\(⟨.pan x.v,tm,mk,x.h⟩:Oc)∈r)\/(x.pan=false/\∃r',Sound E (.ops nt all l (bB tm o.dst x.v) mk x.h) (.bq r')/\∀z∈r',z∈r):=by
  intro x hx;obtain ⟨r',h1,h2⟩:=q1 x hx;cases hp:x.pan with
  |true=>
   rw[hp] at h1;cases (show Out.bq [⟨.pan x.v,tm,mk,x.h⟩]= .bq r' from h1);exact .inl ⟨rfl,h2 _ (by simp)⟩
  |false=>
   rw[hp] at h1;have ih:=dM (.ops nt all l (bB tm o.dst x.v) mk x.h);rw[show rec (.ops nt all l (bB tm o.dst x.v) mk x.h)= .bq r' from h1] at ih;exact .inr ⟨rfl,r',ih,h2⟩
 refine Kl ((rs.filter fun x=> !x.pan).map fun x=>(bB tm o.dst x.v,mk,x.h)) ((rs.filter fun x=>x.pan).map fun x=>⟨.pan x.v,tm,mk,x.h⟩) (fun ops i he hi hbd ro m g a w K Q hro hE hfr hr hmk hnx hk hP=> ?_) (fun hbd=>⟨fun y hy=> ?_,fun o ho=> ?_⟩) (fun o ho=> ?_) (fun ops hops aiD hbd hr0=> ?_) (fun oc ho=> ?_) (fun y hy=> ?_)
 ·subst he;refine Pd (g:=g) (H:=h.hp.get) (nx:=h.nx) hi hw hop hc has hfr (fun _ _=>rfl) (fun u us hu hus=>(hs hbd).2.2 (m-1) g w u us hE hr hnx hu hus) ?_
  rintro e w' ⟨x,hx,u,g',rfl,h1,h2,h3,h4,h5⟩;refine ⟨x.pan,u,rfl,fun hp=> ?_,fun hp=> ?_⟩
  ·refine hk (bB tm o.dst x.v,mk,x.h) (List.mem_map.2 ⟨x,List.mem_filter.2 ⟨hx,by simp[hp]⟩,rfl⟩) g' _ w' ?_ h2 h3 (by rw[put_defers];exact hmk.mono h3.le) h5 h4
   rw[mS];exact (hfr.mono h3.le).put hd h1
  ·exact hP ⟨.pan x.v,tm,mk,x.h⟩ (List.mem_map.2 ⟨x,List.mem_filter.2 ⟨hx,hp⟩,rfl⟩) g' a w' _ (.pan h1) (hfr.mono h3.le) h2 h3 (hmk.mono h3.le) h5 h4
 ·obtain ⟨x,hx,rfl⟩:=List.mem_map.1 hy;exact ⟨(hs hbd).2.1 x (List.mem_filter.1 hx).1,jB.refl _ _⟩
 ·obtain ⟨x,hx,rfl⟩:=List.mem_map.1 ho;exact ⟨(hs hbd).2.1 x (List.mem_filter.1 hx).1,jB.refl _ _⟩
 ·obtain ⟨x,hx,rfl⟩:=List.mem_map.1 ho;obtain ⟨hx1,hx2⟩:=List.mem_filter.1 hx;rcases way x hx1 with ⟨_,h1⟩|⟨h1,_⟩
  ·exact h1
  ·rw[h1] at hx2;simp at hx2
 ·subst hr0;obtain ⟨x,hx⟩:=List.exists_mem_of_ne_nil _ hne;rcases way x hx with ⟨_,h1⟩|⟨_,r',h1,h2⟩
  ·simp at h1
  ·obtain ⟨ui,_⟩:=h1 ops hops aiD ((hs hbd).2.1 x hx).bd;obtain ⟨z,hz⟩:=List.exists_mem_of_ne_nil _ ui;have:=h2 z hz;simp at this
 ·obtain ⟨x,hx,r',h1,h2⟩:=q2 oc ho;cases hp:x.pan with
  |true=>
   rw[hp] at h1;cases (show Out.bq [⟨.pan x.v,tm,mk,x.h⟩]= .bq r' from h1);obtain rfl:=List.mem_singleton.1 h2;exact .inl (List.mem_map.2 ⟨x,List.mem_filter.2 ⟨hx,hp⟩,rfl⟩)
  |false=>
   rw[hp] at h1;have ih:=dM (.ops nt all l (bB tm o.dst x.v) mk x.h);rw[show rec (.ops nt all l (bB tm o.dst x.v) mk x.h)= .bq r' from h1] at ih;exact .inr ⟨(bB tm o.dst x.v,mk,x.h),List.mem_map.2 ⟨x,List.mem_filter.2 ⟨hx,by simp[hp]⟩,rfl⟩,r',ih,h2⟩
 ·obtain ⟨x,hx,rfl⟩:=List.mem_map.1 hy;obtain ⟨hx1,hx2⟩:=List.mem_filter.1 hx;rcases way x hx1 with ⟨h1,_⟩|⟨_,h1⟩
  ·rw[h1] at hx2;simp at hx2
  ·exact h1
theorem W9 {rec:Job->Out} {h:Hs} {fo:Option SV} {ao:Option (List SV)} {k kp:SV->Hs->Out} {r:List Oc} (hg:goK rec h fo ao k kp= .bq r):∃fv aa rs,fo=some fv/\ao=some aa/\rec (.call fv aa h)= .cI rs/\oz (fun x:Rs=>sel x.pan (kp x.v x.h) (k x.v x.h)) rs= .bq r:=by
 cases fo with
 |none=>cases hg
 |some fv=>
  cases ao with
  |none=>cases hg
  |some aa=>
   obtain ⟨rs,h1,h2⟩:=QA (show Dy (rec (.call fv aa h)) k kp= .bq r from hg);exact ⟨fv,aa,rs,rfl,rfl,h1,h2⟩
theorem C3 {rec:Job->Out} (dM:∀j,Sound E j (rec j)) (nt:Nat) (all l:List Oper) (tm:Tr SV) (mk:List Dm) (h:Hs):Sound E (.ops nt all l tm mk h) (Ot E rec nt all l tm mk h):=by
 cases l with
 |nil=>
  intro ops he hd hbd;refine ⟨by simp,fun o ho=> ?_,fun ro m g a w Q hro hE hfr hr hmk hnx hk=> ?_⟩
  ·obtain rfl:=List.mem_singleton.1 ho;exact ⟨Fac.refl hbd,jB.refl _ _⟩
  ·simp only[List.length_nil,List.range'_zero];exact hk ⟨.normal,tm,mk,h⟩ (by simp) g a w _ .normal hfr hr (Fr.refl _ _ _) hmk hnx (fun _ _=>rfl)
 |cons o l=>
  show Sound E _ (sel (cK nt o.dst) (xm E rec nt all l tm mk h o (cg all o tm.get)) (.fail "slot"));rw[aC];split;rotate_left
  ·trivial
  rename_i hd;unfold xm;cases hw:cg all o tm.get with
  |none=>trivial
  |some wb=>
   show Sound E _ (sel wb (doK E rec nt all l tm mk h o (dB o.op)) (oP rec nt all l tm mk o.dst (.tup []) h));cases wb with
   |false=>exact Yz hw hd (dM _)
   |true=>
    show Sound E _ (doK E rec nt all l tm mk h o (dB o.op));unfold doK;cases hc:dB o.op with
    |some c=>
     obtain ⟨hop,_⟩:=zu hc;show Sound E _ (goK rec h (ig tm.get c.callee) (bT tm.get c.args.toList) (oP rec nt all l tm mk o.dst) fun v h=>.code (.pan v) tm mk h)
     cases hg:goK rec h (ig tm.get c.callee) (bT tm.get c.args.toList) (oP rec nt all l tm mk o.dst) fun v h=>.code (.pan v) tm mk h with
     |bq r=>
      obtain ⟨fv,aa,rs,h1,h2,h3,h4⟩:=W9 hg;have hs:=dM (.call fv aa h);rw[h3] at hs;exact YA dM hw hd hop h1 h2 hs h4
     |_=>trivial
    |none=>
     show Sound E _ (P3 rec nt all l tm mk h o (opA E o.op tm.get h.hp.get h.nx));unfold P3;cases ho:opA E o.op tm.get h.hp.get h.nx with
     |none=>trivial
     |some r=>exact aet hw hd ho (BY ho) (dM _)
end
section
variable {E:Env} {g:Gh} {f:Hf} {w:World}
theorem nG.agr {ro:Option Nat} {nt:Nat} {all:Array Oper} {i:Nat} {o:Oper} {T:Tf} {need frp newp:Nat->Prop} {H H2 H':Hf} {v:SV} {D:Nat->Bool} (h:nG E ro nt all i o T need H frp newp v D H') (he:∀x,need x->H x=H2 x):
  nG E ro nt all i o T need H2 frp newp v D H':=
 fun m g f T1 a w K Q hE hfr hr hT hn hf hk=>h m g f T1 a w K Q hE hfr hr hT (fun x hx=>(hn x hx).trans (he x hx).symm) hf hk
theorem drop_cons {ops:Array Oper} {i:Nat} {o:Oper} {l:List Oper} (h:ops.toList.drop i=o::l):ops[i]? =some o/\ops.toList.drop (i+1)=l/\i<ops.size:=by
 have hi:i<ops.toList.length:=by
  by_cases hl:i<ops.toList.length
  ·exact hl
  ·rw[List.drop_of_length_le (by omega)] at h;simp at h
 rw[List.drop_eq_getElem_cons hi] at h;obtain ⟨h1,h2⟩:=List.cons.inj h;have:ops.toList[i]? =some o:=by rw[List.getElem?_eq_getElem hi,h1]
 exact ⟨by simpa using this,h2,by simpa using hi⟩
theorem zU {new x:Nat}:∀{us:List Up},x∈gE new us↔(x∈us.map (·.1)/\x≠new)
 | []=>by simp[gE]
 |u::us=>by
  unfold gE;rw[aC,beq_eq];by_cases h:u.1=new
  ·simp only[h,decide_true,if_true,List.map_cons,List.mem_cons];rw[zU (us:=us)];constructor
   ·rintro ⟨h1,h2⟩;exact ⟨.inr h1,h2⟩
   ·rintro ⟨h1|h1,h2⟩
    ·exact absurd h1 h2
    ·exact ⟨h1,h2⟩
  ·simp only[h,decide_false,Bool.false_eq_true,if_false,List.map_cons,List.mem_cons];rw[zU (us:=us)];constructor
   ·rintro (h1|⟨h1,h2⟩)
    ·subst h1;exact ⟨.inl rfl,h⟩
    ·exact ⟨.inr h1,h2⟩
   ·rintro ⟨h1|h1,h2⟩
    ·exact .inl h1
    ·exact .inr ⟨h1,h2⟩
theorem jl {n x:Nat}:∀{l acc:List Nat},x∈below n l acc↔(x∈l/\x<n)\/x∈acc
 | [],acc=>by simp[below]
 |y::l,acc=>by
  unfold below;rw[aC,ble_eq];by_cases h:y+1<=n
  ·simp only[h,decide_true,if_true];rw[jl (l:=l)];simp only[List.mem_cons];constructor
   ·rintro (⟨h1,h2⟩|h1|h1)
    ·exact .inl ⟨.inr h1,h2⟩
    ·subst h1;exact .inl ⟨.inl rfl,h⟩
    ·exact .inr h1
   ·rintro (⟨h1|h1,h2⟩|h1)
    ·exact .inr (.inl h1)
    ·exact .inl ⟨h1,h2⟩
    ·exact .inr (.inr h1)
  ·simp only[show Nat.succ y<=n↔y+1<=n from Iff.rfl,h,decide_false,Bool.false_eq_true,if_false];rw[jl (l:=l)];simp only[List.mem_cons];constructor
   ·rintro (⟨h1,h2⟩|h1)
    ·exact .inl ⟨.inr h1,h2⟩
    ·exact .inr h1
   ·rintro (⟨h1|h1,h2⟩|h1)
    ·subst h1;omega
    ·exact .inl ⟨h1,h2⟩
    ·exact .inr h1
def Hid (m:Nat) (prev:List Rc) (x:Nat):Prop:=∃p∈prev,eu m p.i=false/\p.lo=x
theorem eO {m:Nat}:∀(prev:List Rc) (hp:Hp) (x:Nat),(Hid m prev x->(jx m prev hp).get x=none)/\(¬Hid m prev x->(jx m prev hp).get x=hp.get x)
 | [],hp,x=>⟨fun ⟨p,hp,_⟩=>by simp at hp,fun _=>rfl⟩
 |q::ps,hp,x=>by
  unfold jx;rw[aC];cases hb:eu m q.i with
  |true=>
   rw[if_pos rfl];obtain ⟨h1,h2⟩:=eO ps hp x;have:Hid m (q::ps) x↔Hid m ps x:=by
    constructor
    ·rintro ⟨p,h,h3,h4⟩;rcases List.mem_cons.1 h with rfl|h
     ·rw[hb] at h3;simp at h3
     ·exact ⟨p,h,h3,h4⟩
    ·rintro ⟨p,h,h3,h4⟩;exact ⟨p,by simp[h],h3,h4⟩
   exact ⟨fun h=>h1 (this.1 h),fun h=>h2 (fun h'=>h (this.2 h'))⟩
  |false=>
   rw[if_neg (by simp)]
   obtain ⟨h1,h2⟩:=eO ps (hp.set q.lo none) x;refine ⟨fun ⟨p,h,h3,h4⟩=> ?_,fun h=> ?_⟩
   ·by_cases hh:Hid m ps x
    ·exact h1 hh
    ·rw[h2 hh,Tr.dv];rcases List.mem_cons.1 h with rfl|h
     ·rw[if_pos h4.symm]
     ·exact absurd ⟨p,h,h3,h4⟩ hh
   ·rw[h2 (fun ⟨p,h',h3,h4⟩=>h ⟨p,by simp[h'],h3,h4⟩),Tr.dv,if_neg (fun e=>h ⟨q,by simp,hb,e.symm⟩)]
theorem iq {m:Nat} {old:Hp}:∀(prev:List Rc) (hp:Hp) (x:Nat),(Hid m prev x->(dZ m old prev hp).get x=old.get x)/\(¬Hid m prev x->(dZ m old prev hp).get x=hp.get x)
 | [],hp,x=>⟨fun ⟨p,hp,_⟩=>by simp at hp,fun _=>rfl⟩
 |q::ps,hp,x=>by
  unfold dZ;rw[aC];cases hb:eu m q.i with
  |true=>
   rw[if_pos rfl];obtain ⟨h1,h2⟩:=iq (old:=old) ps hp x;have:Hid m (q::ps) x↔Hid m ps x:=by
    constructor
    ·rintro ⟨p,h,h3,h4⟩;rcases List.mem_cons.1 h with rfl|h
     ·rw[hb] at h3;simp at h3
     ·exact ⟨p,h,h3,h4⟩
    ·rintro ⟨p,h,h3,h4⟩;exact ⟨p,by simp[h],h3,h4⟩
   exact ⟨fun h=>h1 (this.1 h),fun h=>h2 (fun h'=>h (this.2 h'))⟩
  |false=>
   rw[if_neg (by simp)]
   obtain ⟨h1,h2⟩:=iq (old:=old) ps (hp.set q.lo (old.get q.lo)) x;refine ⟨fun ⟨p,h,h3,h4⟩=> ?_,fun h=> ?_⟩
   ·by_cases hh:Hid m ps x
    ·exact h1 hh
    ·rw[h2 hh,Tr.dv];rcases List.mem_cons.1 h with rfl|h
     ·rw[if_pos h4.symm,h4]
     ·exact absurd ⟨p,h,h3,h4⟩ hh
   ·rw[h2 (fun ⟨p,h',h3,h4⟩=>h ⟨p,by simp[h'],h3,h4⟩),Tr.dv,if_neg (fun e=>h ⟨q,by simp,hb,e.symm⟩)]
theorem wJ {nt W:Nat} {all:List Oper} {base i M:Nat} {prev:List Rc} {o:Oper} {l:List Oper} {tm tm1:Tr SV} {h h1:Hs} {r:Rc} {out:Out} (m:Nat)
  (hc:∀(ops:Array Oper),ops.toList=all->W=ops.size->ops[i]? =some o->i<W->base+W<=h.nx->Bd h->(∀x,h.hp.get x≠none->¬(base+i<=x/\x<base+W))->(∀x,eu m x=true->x∈anc ops (i+1) i)->(∀p∈prev,p.call=false->p.hi=p.lo+1/\p.lo<base+W)->
   ∀ps:List St,ps.map (·.rc)=prev->∃s:St,s.rc=r/\Cnd E nt W ops base i ps o tm.get h.hp.get h.nx s h1.nx/\tm1.get=fA tm.get s.u.dst s.u.v/\h1.hp.get=gR s.u.D s.u.H h.hp.get/\
    (∀x∈h.lg,x∈h1.lg)/\(∀x,x<h.nx->¬(base+i<=x/\x<base+W)->x∉h1.lg->h1.hp.get x=h.hp.get x)/\(∀x,x<h.nx->¬(base+i<=x/\x<base+W)->h.hp.get x=none->h1.hp.get x=none)/\Bd h1/\
    (∀x,h1.hp.get x≠none->¬(base+(i+1)<=x/\x<base+W))/\(r.call=false->r.hi=r.lo+1/\r.lo<base+W))
  (hm:m=Nat.mod (fF W M (dN o)) (Nat.pow 2 W))
  (ih:Sound E (.draw nt W all base (i+1) (Nat.lor M (Nat.shiftLeft m (Nat.mul i W))) (r::prev) l tm1 h1) out):Sound E (.draw nt W all base i M prev (o::l) tm h) out:=by
 cases out with
 |st tm' h'=>
  intro ops he hW hd hb hbd cC hinv hpr ps hps;obtain ⟨hi,hd',hlt⟩:=drop_cons hd;obtain ⟨m1,m2⟩:=E4 hi hinv;obtain ⟨s,hr,Ls,htm,hh,f1,f2,f3,f4,f5,f6⟩:=hc ops he hW hi (by omega) hb hbd cC (fun x hx=>(m1 x (by rw[<-hm];exact (Ma _ _).1 hx)).2) hpr ps hps
  obtain ⟨k1,out,k2⟩:=ih ops he hW hd' (Nat.le_trans hb Ls.DK) f4 f5 (by rw[hm];exact m2) (fun p hp=>by
   rcases List.mem_cons.1 hp with rfl|hp
   ·exact f6
   ·exact hpr p hp) (s::ps) (by simp[hr,hps])
  refine ⟨⟨Nat.le_trans Ls.DK k1.nx,k1.bd,fun x hx hn hl=> ?_,fun x hx=>k1.sub x (f1 x hx),fun x hx hn hl=> ?_⟩,out,?_⟩
  ·have hx1:x<h1.nx:=Nat.lt_of_lt_of_le hx Ls.DK;rw[k1.lg x hx1 (fun hc=>hn ⟨by omega,hc.2⟩) hl]
   exact f2 x hx hn (fun hc=>hl (k1.sub x hc))
  ·have hx1:x<h1.nx:=Nat.lt_of_lt_of_le hx Ls.DK;exact k1.dead x hx1 (fun hc=>hn ⟨by omega,hc.2⟩) (f3 x hx hn hl)
  ·rw[htm,hh] at k2;exact .cons Ls k2
 |_=>trivial
theorem KZ {m:Nat} {r:Rc} {prev:List Rc} (h:cX m r prev=true) {ps:List St} (hps:ps.map (·.rc)=prev):∀p∈ps,eu m p.rc.i=true\/Cg p.rc r:=by
 intro p hp;have mr:p.rc∈prev:=by rw[<-hps];exact List.mem_map.2 ⟨p,hp,rfl⟩
 rcases ll h p.rc mr with h1|h1
 ·exact .inl h1
 ·exact .inr (zm h1)
theorem ZU {nt W:Nat} {all:List Oper} {base i M:Nat} {prev:List Rc} {o:Oper} {l:List Oper} {tm:Tr SV} {h:Hs} {out:Out} {v:SV} {us:List Up} (m:Nat) (hm:m=Nat.mod (fF W M (dN o)) (Nat.pow 2 W)) (hlt:gq i (dN o)=true)
  (hw:cg all o tm.get=some true) (hd:cK nt o.dst=true) (ho:opA E o.op tm.get h.hp.get (base+i)=some (v,us)) (hnd:∀c,o.op≠ .defer c) (D7:cX m ⟨i,false,eC o.op tm.get,gE (base+i) us,base+i,base+i+1⟩ prev=true)
  (ih:Sound E (.draw nt W all base (i+1) (Nat.lor M (Nat.shiftLeft m (Nat.mul i W))) (⟨i,false,eC o.op tm.get,gE (base+i) us,base+i,base+i+1⟩::prev) l (bB tm o.dst v) (h.ups us)) out):
  Sound E (.draw nt W all base i M prev (o::l) tm h) out:=by
 refine wJ m (fun ops he hW hi hiW hb hbd cC Lu hpr ps hps=> ?_) hm ih
 have hnx:(h.ups us).nx=h.nx:=pQ _ _;have hg:(h.ups us).hp.get=gF h.hp.get us:=xo _ _;obtain ⟨l1,l2⟩:=Io us h;have hk:=Kr ho;have jS:h.hp.get (base+i)=none:=by
  cases hx:h.hp.get (base+i) with
  |none=>rfl
  |some o'=>exact absurd ⟨Nat.le_refl _,by omega⟩ (cC (base+i) (by rw[hx];simp))
 have v8:∀x,x∈us.map (·.1)->x=base+i\/(h.hp.get x≠none/\x<h.nx):=by
  intro x hx;obtain ⟨u,hu,rfl⟩:=List.mem_map.1 hx;rcases hk u hu with h1|h1
  ·exact .inl h1
  ·refine .inr ⟨h1,?_⟩;by_cases hl:h.nx<=u.1
   ·exact absurd (hbd _ hl) h1
   ·omega
 have D6:base+i<h.nx:=by omega
 refine ⟨⟨⟨o.dst,v,oR us (base+i),gF h.hp.get us⟩,⟨i,false,eC o.op tm.get,gE (base+i) us,base+i,base+i+1⟩,m,fun x=>x∈eC o.op tm.get,fun x=>x=base+i,fun x=>x=base+i/\us≠ []⟩,rfl,?_,mS _ _ _,?_,l1,fun x hx hn hl=> ?_,fun x hx hn hl=> ?_,fun x hx=> ?_,fun x hx=> ?_,fun _=>⟨rfl,by show base+i<base+W;omega⟩⟩
 ·refine ⟨rfl,fun ro=> ?_,rM hlt,Lu,rfl,KZ D7 hps,fun x=> ?_,fun _=>⟨rfl,rfl,by rw[hnx],fun x hx=>hx,fun x hx=>hx,fun x hx=>hx.1⟩,(fun hc=>by cases hc),by rw[hnx];exact Nat.le_refl _,cC,hb⟩
  ·subst he;exact zd hi hw hd ho jS (fun x=>by simp[oR]) hnd
  ·show oR us (base+i) x=true↔(x∈gE (base+i) us\/(base+i<=x/\x<base+i+1));rw[zU];simp only[oR,decide_eq_true_eq];constructor
   ·rintro (h1|h1)
    ·by_cases e:x=base+i
     ·exact .inr ⟨by omega,by omega⟩
     ·exact .inl ⟨h1,e⟩
    ·exact .inr ⟨by omega,by omega⟩
   ·rintro (⟨h1,_⟩|⟨h1,h2⟩)
    ·exact .inl h1
    ·exact .inr (by omega)
 ·rw[hg];funext x;show gF h.hp.get us x=gR (oR us (base+i)) (gF h.hp.get us) h.hp.get x;unfold gR oR;by_cases h1:x∈us.map (·.1)
  ·rw[if_pos (by simp only[decide_eq_true_eq];exact .inl h1)]
  ·rw[im h1];split<;>rfl
 ·rw[hg,im (fun hc=>by obtain ⟨u,hu,rfl⟩:=List.mem_map.1 hc;exact hl (l2 u hu))]
 ·rw[hg,im (fun hc=>by
   rcases v8 x hc with h1|h1
   ·exact hn ⟨by omega,by omega⟩
   ·exact h1.1 hl)]
  exact hl
 ·rw[hnx] at hx;rw[hg,im (fun hc=>by rcases v8 x hc with h1|h1<;>omega)]
  exact hbd x hx
 ·intro hcc;by_cases hc:x∈us.map (·.1)
  ·rcases v8 x hc with h1|h1
   ·omega
   ·exact cC x h1.1 ⟨by omega,hcc.2⟩
  ·rw[hg,im hc] at hx;exact cC x hx ⟨by omega,hcc.2⟩
theorem Xj {nt W:Nat} {all:List Oper} {base i M:Nat} {prev:List Rc} {o:Oper} {l:List Oper} {tm:Tr SV} {h:Hs} {out:Out} (m:Nat) (hm:m=Nat.mod (fF W M (dN o)) (Nat.pow 2 W)) (hlt:gq i (dN o)=true)
  (hw:cg all o tm.get=some false) (hd:cK nt o.dst=true) (D7:cX m ⟨i,false,[],[],base+i,base+i+1⟩ prev=true)
  (ih:Sound E (.draw nt W all base (i+1) (Nat.lor M (Nat.shiftLeft m (Nat.mul i W))) (⟨i,false,[],[],base+i,base+i+1⟩::prev) l (bB tm o.dst (.tup [])) h) out):
  Sound E (.draw nt W all base i M prev (o::l) tm h) out:=by
 refine wJ m (fun ops he hW hi hiW hb hbd cC Lu hpr ps hps=> ?_) hm ih
 have jS:h.hp.get (base+i)=none:=by
  cases hx:h.hp.get (base+i) with
  |none=>rfl
  |some o'=>exact absurd ⟨Nat.le_refl _,by omega⟩ (cC (base+i) (by rw[hx];simp))
 refine ⟨⟨⟨o.dst,.tup [],fun x=>decide (x=base+i),h.hp.get⟩,⟨i,false,[],[],base+i,base+i+1⟩,m,fun _=>False,fun x=>x=base+i,fun _=>False⟩,rfl,?_,mS _ _ _,?_,fun x hx=>hx,fun x _ _ _=>rfl,fun x _ _ hl=>hl,hbd,fun x hx hcc=>cC x hx ⟨by omega,hcc.2⟩,fun _=>⟨rfl,by show base+i<base+W;omega⟩⟩
 ·refine ⟨rfl,fun ro=> ?_,rM hlt,Lu,rfl,KZ D7 hps,fun x=> ?_,fun _=>⟨rfl,rfl,rfl,fun x hx=>hx.elim,fun x hx=>hx,fun x hx=>hx.elim⟩,(fun hc=>by cases hc),Nat.le_refl _,cC,hb⟩
  ·subst he;exact step_skip hi hw hd jS (fun x=>by simp)
  ·show decide (x=base+i)=true↔(x∈([]:List Nat)\/(base+i<=x/\x<base+i+1));simp;omega
 ·funext x;unfold gR;split<;>rfl
theorem Xk {nt W:Nat} {all:List Oper} {base i M:Nat} {prev:List Rc} {o:Oper} {c:Call} {l:List Oper} {tm:Tr SV} {h h2:Hs} {out:Out} {fv v:SV} {aa:List SV} (m:Nat) (hm:m=Nat.mod (fF W M (dN o)) (Nat.pow 2 W)) (hlt:gq i (dN o)=true)
  (hw:cg all o tm.get=some true) (hd:cK nt o.dst=true) (hop:o.op= .call c) (hc:ig tm.get c.callee=some fv) (has:bT tm.get c.args.toList=some aa) (hs:Sound E (.call fv aa ⟨jx m prev h.hp,h.nx,[]⟩) (.res v h2))
  (D7:cX m ⟨i,true,[],below h.nx h2.lg [],h.nx,h2.nx⟩ prev=true)
  (ih:Sound E (.draw nt W all base (i+1) (Nat.lor M (Nat.shiftLeft m (Nat.mul i W))) (⟨i,true,[],below h.nx h2.lg [],h.nx,h2.nx⟩::prev) l (bB tm o.dst v) ⟨dZ m h.hp prev h2.hp,h2.nx,below h.nx h2.lg h.lg⟩) out):
  Sound E (.draw nt W all base i M prev (o::l) tm h) out:=by
 refine wJ m (fun ops he hW hi hiW hb hbd cC Lu hpr ps hps=> ?_) hm ih
 have hbm:Bd ⟨jx m prev h.hp,h.nx,[]⟩:=by
  intro x hx;show (jx m prev h.hp).get x=none;by_cases hh:Hid m prev x
  ·exact (eO prev h.hp x).1 hh
  ·rw[(eO prev h.hp x).2 hh];exact hbd x hx
 obtain ⟨_,fac,sem⟩:=(show Bd ⟨jx m prev h.hp,h.nx,[]⟩->_ from hs) hbm;have fac:Fac ⟨jx m prev h.hp,h.nx,[]⟩ h2:=fac ⟨false,v,h2⟩ (by simp)
 have sem:=lS.one sem;have fnx:h.nx<=h2.nx:=fac.nx;have RC:∀x,Hid m prev x->x<base+W/\x∉h2.lg:=by
  rintro x ⟨p,hp,hb1,rfl⟩;rcases ll D7 p hp with h1|h1
  ·rw[hb1] at h1;simp at h1
  ·have hI:=zm h1;obtain ⟨c1,c2⟩:=hI.c2 rfl;obtain ⟨e1,e2⟩:=hpr p hp c1;refine ⟨e2,fun hl=> ?_⟩
   have:=hI.a2 p.lo (jl.2 (.inl ⟨hl,by omega⟩))
   omega
 have BN:∀x,(dZ m h.hp prev h2.hp).get x=if x∈h2.lg/\x<h.nx\/h.nx<=x/\x<h2.nx then h2.hp.get x else h.hp.get x:=by
  intro x;by_cases hh:Hid m prev x
  ·obtain ⟨q1,q2⟩:=RC x hh;rw[(iq prev h2.hp x).1 hh,if_neg (by rintro (⟨h1,_⟩|⟨h1,_⟩);exact q2 h1;omega)]
  ·rw[(iq prev h2.hp x).2 hh];split
   ·rfl
   ·rename_i hn;by_cases hx:x<h.nx
    ·have:=fac.lg x hx (fun hl=>hn (.inl ⟨hl,hx⟩))
     rw[this];exact (eO prev h.hp x).2 hh
    ·rw[fac.bd x (by
      by_cases hx2:x<h2.nx
      ·exact absurd (.inr ⟨by omega,hx2⟩) hn
      ·show h2.nx<=x;omega),hbd x (by omega)]
 have adr:∀x,x<h.nx->h.hp.get x=none->h2.hp.get x=none:=by
  intro x hx hn;refine fac.dead x hx ?_;show (jx m prev h.hp).get x=none;by_cases hh:Hid m prev x
  ·exact (eO prev h.hp x).1 hh
  ·rw[(eO prev h.hp x).2 hh];exact hn
 refine ⟨⟨⟨o.dst,v,fun x=>decide (x∈h2.lg/\x<h.nx\/h.nx<=x/\x<h2.nx),h2.hp.get⟩,⟨i,true,[],below h.nx h2.lg [],h.nx,h2.nx⟩,m,fun x=>(jx m prev h.hp).get x≠none,fun x=>h.nx<=x,fun x=>h.nx<=x/\x<h2.nx⟩,rfl,?_,mS _ _ _,?_,fun x hx=>jl.2 (.inr hx),fun x hx hn hl=> ?_,fun x hx hn hl=> ?_,fun x hx=> ?_,fun x hx=> ?_,fun hc=>by cases hc⟩
 ·refine ⟨rfl,fun ro=> ?_,rM hlt,Lu,rfl,KZ D7 hps,fun x=> ?_,(fun hc=>by cases hc),fun _=>⟨rfl,rfl,fun x hx=>⟨?_,fun p hp hbp hxe=> ?_⟩,fun x hx=>hx,fun x hx=>hx⟩,fnx,cC,hb⟩
  ·subst he;refine nG.agr (TW (D:=fun x=>decide (x∈h2.lg/\x<h.nx\/h.nx<=x/\x<h2.nx)) hi hw hd hop hc has sem (fun x hx hl=> ?_) (fun x hx hl=> ?_)) (fun x hx=> ?_)
   ·have hn:¬(x∈h2.lg/\x<h.nx\/h.nx<=x/\x<h2.nx):=by simpa using hx
    exact fac.lg x hl (fun hc=>hn (.inl ⟨hc,hl⟩))
   ·have hn:¬(x∈h2.lg/\x<h.nx\/h.nx<=x/\x<h2.nx):=by simpa using hx
    refine fac.bd x ?_;by_cases hx2:x<h2.nx
    ·exact absurd (.inr ⟨hl,hx2⟩) hn
    ·omega
   ·by_cases hh:Hid m prev x
    ·exact absurd ((eO prev h.hp x).1 hh) hx
    ·exact (eO prev h.hp x).2 hh
  ·show decide (x∈h2.lg/\x<h.nx\/h.nx<=x/\x<h2.nx)=true↔(x∈below h.nx h2.lg []\/(h.nx<=x/\x<h2.nx));rw[jl];simp
  ·by_cases hh:Hid m prev x
   ·exact absurd ((eO prev h.hp x).1 hh) hx
   ·rw[<-(eO prev h.hp x).2 hh];exact hx
  ·have hh:Hid m prev x:=⟨p.rc,by rw[<-hps];exact List.mem_map.2 ⟨p,hp,rfl⟩,hbp,hxe.symm⟩
   exact hx ((eO prev h.hp x).1 hh)
 ·funext x;show (dZ m h.hp prev h2.hp).get x=gR _ h2.hp.get h.hp.get x;rw[BN];unfold gR;simp only[decide_eq_true_eq]
 ·show (dZ m h.hp prev h2.hp).get x=_;rw[BN,if_neg (by
   rintro (⟨h1,h3⟩|⟨h1,_⟩)
   ·exact hl (jl.2 (.inl ⟨h1,h3⟩))
   ·omega)]
 ·show (dZ m h.hp prev h2.hp).get x=_;rw[BN];split
  ·exact adr x hx hl
  ·exact hl
 ·have hx:h2.nx<=x:=hx;show (dZ m h.hp prev h2.hp).get x=_;rw[BN,if_neg (by omega)]
  exact hbd x (by omega)
 ·intro hcc;have hx:(dZ m h.hp prev h2.hp).get x≠none:=hx;rw[BN] at hx;have Zq:x<h.nx:=by omega
  have hn0:h.hp.get x=none:=by
   cases hq:h.hp.get x with
   |none=>rfl
   |some o'=>exact absurd ⟨by omega,hcc.2⟩ (cC x (by rw[hq];simp))
  split at hx
  ·exact hx (adr x Zq hn0)
  ·exact hx hn0
theorem Zy {rec:Job->Out} {h:Hs} {fo:Option SV} {ao:Option (List SV)} {k kp:SV->Hs->Out} {Q:Out->Prop} (hf:∀s,Q (.fail s)) (ht:∀a b c,Q (.pS a b c))
  (hr:∀fv aa v h2,fo=some fv->ao=some aa->rec (.call fv aa h)= .res v h2->Q (k v h2)) (hp:∀fv aa v h2,fo=some fv->ao=some aa->rec (.call fv aa h)= .pan v h2->Q (kp v h2)):Q (RD rec h fo ao k kp):=by
 unfold RD;cases fo with
 |none=>exact hf _
 |some fv=>
  cases ao with
  |none=>exact hf _
  |some aa=>
   show Q (DF (rec (.call fv aa h)) k kp);cases hrc:rec (.call fv aa h) with
   |cI l=>
    cases l with
    |nil=>exact hf _
    |cons r l=>
     cases l with
     |nil=>
      obtain ⟨pan,v,h2⟩:=r;cases pan with
      |false=>exact hr fv aa v h2 rfl rfl hrc
      |true=>exact hp fv aa v h2 rfl rfl hrc
     |cons _ _=>exact hf _
   |fail s=>exact hf _
   |pS a b c=>exact ht _ _ _
   |_=>exact hf _
theorem AD {rec:Job->Out} (dM:∀j,Sound E j (rec j)) (nt W:Nat) (all:List Oper) (base i M:Nat) (prev:List Rc) (l:List Oper) (tm:Tr SV) (h:Hs):
  Sound E (.draw nt W all base i M prev l tm h) (Ix E rec nt W all base i M prev l tm h):=by
 cases l with
 |nil=>
  intro ops he hW hd hb hbd cC hinv hpr ps hps;exact ⟨⟨Nat.le_refl _,hbd,fun _ _ _ _=>rfl,fun _ h=>h,fun _ _ _ h=>h⟩,ps,.nil⟩
 |cons o l=>
  show Sound E _ (sel (cK nt o.dst && gq i (dN o)) (force (Nat.mod (fF W M (dN o)) (Nat.pow 2 W)) fun m=>FV E rec nt W all base i M m prev l tm h o (cg all o tm.get)) (.fail "slot"))
  rw[aC];split;rotate_left
  ·trivial
  rename_i hd;rw[Bool.and_eq_true] at hd;obtain ⟨hd,hlt⟩:=hd;rw[force_eq];generalize hm:Nat.mod (fF W M (dN o)) (Nat.pow 2 W)=m;unfold FV;have next:∀(r:Rc) (v:SV) (h1:Hs) (out:Out),js rec nt W all base i M m prev l tm o.dst r v h1=out->(∃s,out= .fail s)\/(cX m r prev=true/\out=rec (.draw nt W all base (i+1) (Nat.lor M (Nat.shiftLeft m (Nat.mul i W))) (r::prev) l (bB tm o.dst v) h1)):=by
   intro r v h1 out ho;unfold js at ho;rw[aC,force_eq] at ho;split at ho
   ·rename_i hi;exact .inr ⟨hi,ho.symm⟩
   ·exact .inl ⟨_,ho.symm⟩
  cases hw:cg all o tm.get with
  |none=>trivial
  |some wb=>
   show Sound E _ (sel wb (doD E rec nt W all base i M m prev l tm h o (dB o.op)) (js rec nt W all base i M m prev l tm o.dst ⟨i,false,[],[],Nat.add base i,Nat.add (Nat.add base i) 1⟩ (.tup []) h));cases wb with
   |false=>
    show Sound E _ (js rec nt W all base i M m prev l tm o.dst ⟨i,false,[],[],Nat.add base i,Nat.add (Nat.add base i) 1⟩ (.tup []) h);rcases next ⟨i,false,[],[],Nat.add base i,Nat.add (Nat.add base i) 1⟩ (.tup []) h _ rfl with ⟨s,hs⟩|⟨hi,hs⟩
    ·rw[hs];trivial
    ·rw[hs];exact Xj m hm.symm hlt hw hd hi (dM _)
   |true=>
    show Sound E _ (doD E rec nt W all base i M m prev l tm h o (dB o.op));unfold doD;cases hc:dB o.op with
    |none=>
     show Sound E _ (P4 rec nt W all base i M m prev l tm h o (opA E o.op tm.get h.hp.get (Nat.add base i)));unfold P4;cases ho:opA E o.op tm.get h.hp.get (Nat.add base i) with
     |none=>trivial
     |some r=>
      show Sound E _ (js rec nt W all base i M m prev l tm o.dst ⟨i,false,eC o.op tm.get,gE (Nat.add base i) r.2,Nat.add base i,Nat.add (Nat.add base i) 1⟩ r.1 (h.ups r.2));rcases next ⟨i,false,eC o.op tm.get,gE (Nat.add base i) r.2,Nat.add base i,Nat.add (Nat.add base i) 1⟩ r.1 (h.ups r.2) _ rfl with ⟨s,hs⟩|⟨hi,hs⟩
      ·rw[hs];trivial
      ·rw[hs];exact ZU m hm.symm hlt hw hd ho (BY ho) hi (dM _)
    |some c=>
     obtain ⟨hop,_⟩:=zu hc;refine Zy (Q:=Sound E _) (fun _=>trivial) (fun _ _ _=>trivial) (fun fv aa v h2 h1 h3 h4=> ?_) (fun fv aa v h2 h1 h3 h4=> ?_)
     ·have hs:=dM (.call fv aa ⟨jx m prev h.hp,h.nx,[]⟩);rw[h4] at hs;rcases next ⟨i,true,[],below h.nx h2.lg [],h.nx,h2.nx⟩ v ⟨dZ m h.hp prev h2.hp,h2.nx,below h.nx h2.lg h.lg⟩ _ rfl with ⟨s,he⟩|⟨hi,he⟩
      ·rw[he];trivial
      ·rw[he];exact Xk m hm.symm hlt hw hd hop h1 h3 hs hi (dM _)
     ·trivial
end
section
section
variable {F:Fence} {n:Nat} {P:Program} {Q:Exit->Act->World->Prop} {a:Act} {w:World} {c:Code}
theorem FM (h:c.wpIn F n P (Exit.then (Bp F n P c Q) Q) a w):Bp F n P c Q a w:=by
 intro b k cs hro hb hr;obtain ⟨e,a₁,w₁,hq,ng⟩:=h b (.inLoop c::k) cs hro hb hr;cases e with
 |normal=>
  obtain ⟨e₂,a₂,w₂,aix,aeN⟩:=hq b k cs hro hb hr;exact ⟨e₂,a₂,w₂,aix,.of_steps (StepsIn.trans ng (.one (fenced_calm hb hr rfl) stepR_inLoop)) aeN⟩
 |exit id=>exact ⟨_,a₁,w₁,hq,.pass (x:=.inLoop c) rfl (fun _ _=>.inl (by simp)) ng⟩
 |goto l=>exact ⟨_,a₁,w₁,hq,.pass (x:=.inLoop c) rfl (fun _ _=>.inl (by simp)) ng⟩
 |ret=>exact ⟨_,a₁,w₁,hq,.pass (x:=.inLoop c) rfl (fun _ _=>.inl (by simp)) ng⟩
 |panic ch=>exact ⟨_,a₁,w₁,hq,.pass (x:=.inLoop c) rfl (fun _ _=>.inl (by simp)) ng⟩
 |outgrown=>exact ⟨_,a₁,w₁,hq,.pass (x:=.inLoop c) rfl (fun _ _=>.inl (by simp)) ng⟩
theorem CV (h:Bp F n P c Q a w):(Code.loop c).wpIn F n P Q a w:=fun b k cs hro hb hr=>
 let ⟨e,a',w',hq,ng⟩:=h b k cs hro hb hr
 ⟨e,a',w',hq,.of_steps (.one (fenced_calm hb hr rfl) stepR_loop) ng⟩
theorem mb (h:wpX F n P c Q a w):c.wpIn F n P Q a w:=by
 cases c<;>first|exact h|exact CV h
end
variable {E:Env} {g:Gh} {f:Hf} {w:World}
theorem okL {a b:Code} (h:codeOk (.seq a b)=true):codeOk a=true:=by
 have h:(codeOk a&&codeOk b)=true:=h;rw[Bool.and_eq_true] at h;exact h.1
theorem okR {a b:Code} (h:codeOk (.seq a b)=true):codeOk b=true:=by
 have h:(codeOk a&&codeOk b)=true:=h;rw[Bool.and_eq_true] at h;exact h.2
theorem dJ.seq {nt:Nat} {a b:Code} {tm:Tr SV} {mk:List Dm} {h:Hs} {l1 r:List Oc} (k1:dJ E nt a tm mk h l1)
  (kin:∀o∈l1,(o.e= .normal/\∃r',dJ E nt b o.tm o.dm o.h r'/\∀x∈r',x∈r)\/(o.e≠ .normal/\o∈r)) (YT:∀x∈r,∃o∈l1,(∃r',dJ E nt b o.tm o.dm o.h r'/\x∈r')\/x=o):dJ E nt (.seq a b) tm mk h r:=by
 obtain ⟨n1,f1,s1⟩:=k1;have hne:r≠ []:=by
  obtain ⟨o,ho⟩:=List.exists_mem_of_ne_nil _ n1;rcases kin o ho with ⟨_,r',⟨n2,_⟩,h2⟩|⟨_,h2⟩
  ·obtain ⟨x,hx⟩:=List.exists_mem_of_ne_nil _ n2;exact List.ne_nil_of_mem (h2 x hx)
  ·exact List.ne_nil_of_mem h2
 refine ⟨hne,fun x hx=> ?_,fun ro m g ac w Q hok hro hE hfr hr hm hnx hk=>wpIn_seq (mb ?_)⟩
 ·obtain ⟨o,ho,⟨r',⟨_,f2,_⟩,hx⟩|rfl⟩:=YT x hx
  ·exact ⟨(f1 o ho).1.trans (f2 x hx).1,jB.trans (f1 o ho).1.nx (f1 o ho).2 (f2 x hx).2⟩
  ·exact f1 x ho
 have hlen:∀o∈l1,ro=none\/o.dm.length=mk.length:=by
  intro o ho;rcases hro with hro|hro
  ·exact .inl hro
  ·refine .inr ?_;have h1:=(f1 o ho).2.1;rcases kin o ho with ⟨_,r',⟨n2,f2,_⟩,h2⟩|⟨_,h2⟩
   ·obtain ⟨x,hx⟩:=List.exists_mem_of_ne_nil _ n2;have h3:=(f2 x hx).2.1;have h4:=hro x (h2 x hx);omega
   ·exact hro o h2
 refine s1 ro m g ac w _ (okL hok) (by
  by_cases h:ro=none
  ·exact .inl h
  ·exact .inr fun o ho=>(hlen o ho).resolve_left h) hE hfr hr hm hnx (fun o ho g1 a1 w1 x q0 q1 q2 q3 q4 q5 q6=> ?_)
 rcases kin o ho with ⟨he,r',⟨n2,f2,s2⟩,h2⟩|⟨he,h2⟩
 ·rw[he] at q0;cases q0;refine mb (s2 ro m g1 a1 w1 Q (okR hok) (hro.imp_right fun hro z hz=> ?_) (hE.mono q3.le) q1 q2 q4 q5 (fun z hz g2 a2 w2 x r0 r1 r2 r3 r4 r5 r6=>hk z (h2 z hz) g2 a2 w2 x r0 r1 r2 (q3.trans r3) r4 r5 (fun y hy=>by rw[r6 y (Nat.lt_of_lt_of_le hy (f1 o ho).1.nx),q6 y hy])))
  have h1:=(f1 o ho).2.1;have h3:=(f2 z hz).2.1;have h4:=hro z (h2 z hz);omega
 ·have:=hk o h2 g1 a1 w1 x q0 q1 q2 q3 q4 q5 q6;generalize o.e=e at q0 he;cases q0 with
  |normal=>exact absurd rfl he
  |exit id=>exact this
  |ret=>exact this
  |pan hv=>exact this
theorem dJ.loop {nt:Nat} {c:Code} {tm:Tr SV} {mk:List Dm} {h:Hs} {l1 r:List Oc} (k1:dJ E nt c tm mk h l1)
  (kin:∀o∈l1,(o.e= .normal/\∃r',dJ E nt (.loop c) o.tm o.dm o.h r'/\∀x∈r',x∈r)\/(o.e≠ .normal/\o∈r)) (YT:∀x∈r,∃o∈l1,(∃r',dJ E nt (.loop c) o.tm o.dm o.h r'/\x∈r')\/x=o):dJ E nt (.loop c) tm mk h r:=by
 obtain ⟨n1,f1,s1⟩:=k1;have hne:r≠ []:=by
  obtain ⟨o,ho⟩:=List.exists_mem_of_ne_nil _ n1;rcases kin o ho with ⟨_,r',⟨n2,_⟩,h2⟩|⟨_,h2⟩
  ·obtain ⟨x,hx⟩:=List.exists_mem_of_ne_nil _ n2;exact List.ne_nil_of_mem (h2 x hx)
  ·exact List.ne_nil_of_mem h2
 refine ⟨hne,fun x hx=> ?_,fun ro m g ac w Q hok hro hE hfr hr hm hnx hk=>FM (mb ?_)⟩
 ·obtain ⟨o,ho,⟨r',⟨_,f2,_⟩,hx⟩|rfl⟩:=YT x hx
  ·exact ⟨(f1 o ho).1.trans (f2 x hx).1,jB.trans (f1 o ho).1.nx (f1 o ho).2 (f2 x hx).2⟩
  ·exact f1 x ho
 have hlen:∀o∈l1,ro=none\/o.dm.length=mk.length:=by
  intro o ho;rcases hro with hro|hro
  ·exact .inl hro
  ·refine .inr ?_;have h1:=(f1 o ho).2.1;rcases kin o ho with ⟨_,r',⟨n2,f2,_⟩,h2⟩|⟨_,h2⟩
   ·obtain ⟨x,hx⟩:=List.exists_mem_of_ne_nil _ n2;have h3:=(f2 x hx).2.1;have h4:=hro x (h2 x hx);omega
   ·exact hro o h2
 refine s1 ro m g ac w _ hok (by
  by_cases h:ro=none
  ·exact .inl h
  ·exact .inr fun o ho=>(hlen o ho).resolve_left h) hE hfr hr hm hnx (fun o ho g1 a1 w1 x q0 q1 q2 q3 q4 q5 q6=> ?_)
 rcases kin o ho with ⟨he,r',⟨n2,f2,s2⟩,h2⟩|⟨he,h2⟩
 ·rw[he] at q0;cases q0;refine s2 ro m g1 a1 w1 Q hok (hro.imp_right fun hro z hz=> ?_) (hE.mono q3.le) q1 q2 q4 q5 (fun z hz g2 a2 w2 x r0 r1 r2 r3 r4 r5 r6=>hk z (h2 z hz) g2 a2 w2 x r0 r1 r2 (q3.trans r3) r4 r5 (fun y hy=>by rw[r6 y (Nat.lt_of_lt_of_le hy (f1 o ho).1.nx),q6 y hy]))
  have h1:=(f1 o ho).2.1;have h3:=(f2 z hz).2.1;have h4:=hro z (h2 z hz);omega
 ·have:=hk o h2 g1 a1 w1 x q0 q1 q2 q3 q4 q5 q6;generalize o.e=e at q0 he;cases q0 with
  |normal=>exact absurd rfl he
  |exit id=>exact this
  |ret=>exact this
  |pan hv=>exact this
theorem QX (id i:Nat):leave id (.exit i)=if i=id then .normal else .exit i:=by
 show sel (Nat.beq i id) Ex.normal (.exit i)=_;rw[aC,beq_eq];by_cases h:i=id<;>simp[h]
theorem dJ.block {nt id:Nat} {c:Code} {tm:Tr SV} {mk:List Dm} {h:Hs} {l r:List Oc} (k1:dJ E nt c tm mk h l) (hr:∀x,x∈r↔∃o∈l,x=⟨leave id o.e,o.tm,o.dm,o.h⟩):dJ E nt (.block id c) tm mk h r:=by
 obtain ⟨n1,f1,s1⟩:=k1;refine ⟨?_,fun x hx=> ?_,fun ro m g a w Q hok hro hE hfr hrr hm hnx hk=>wpIn_block (mb ?_)⟩
 ·obtain ⟨o,ho⟩:=List.exists_mem_of_ne_nil _ n1;exact List.ne_nil_of_mem ((hr ⟨leave id o.e,o.tm,o.dm,o.h⟩).2 ⟨o,ho,rfl⟩)
 ·obtain ⟨o,ho,rfl⟩:=(hr x).1 hx;exact f1 o ho
 refine s1 ro m g a w _ hok (hro.imp_right fun hro o ho=>hro ⟨leave id o.e,o.tm,o.dm,o.h⟩ ((hr _).2 ⟨o,ho,rfl⟩)) hE hfr hrr hm hnx (fun o ho g1 a1 w1 x q0 q1 q2 q3 q4 q5 q6=> ?_)
 have key:∀y,ExR g1 (leave id o.e) y->Q y a1 w1:=fun y hy=>hk ⟨leave id o.e,o.tm,o.dm,o.h⟩ ((hr _).2 ⟨o,ho,rfl⟩) g1 a1 w1 y hy q1 q2 q3 q4 q5 q6
 generalize he:o.e=e at q0 key;cases q0 with
 |normal=>exact key _ .normal
 |ret=>exact key _ .ret
 |pan hv=>exact key _ (.pan hv)
 |exit i=>
  rw[QX] at key;show (if i=id then Q .normal a1 w1 else Q (.exit i) a1 w1)
  split
  ·rename_i hi;rw[if_pos hi] at key;exact key _ .normal
  ·rename_i hi;rw[if_neg hi] at key;exact key _ (.exit i)
theorem dJ.calm {nt:Nat} {c:Code} {tm:Tr SV} {mk:List Dm} {h:Hs} {e:Ex} (x:Exit) (hx:∀g,ExR g e x) (hb:Bd h) (hw:∀(ro:Option Nat) (m:Nat) (Q:Exit->Act->World->Prop) (a:Act) (w:World),Q x a w->wpX (fro ro) m E.P c Q a w):dJ E nt c tm mk h [⟨e,tm,mk,h⟩]:=
 ⟨by simp,fun o ho=>by
  obtain rfl:=List.mem_singleton.1 ho;exact ⟨Fac.refl hb,jB.refl _ _⟩,fun ro m g a w Q _ _ hE hfr hr hm hnx hk=>hw ro m Q a w (hk ⟨e,tm,mk,h⟩ (by simp) g a w x (hx g) hfr hr (Fr.refl _ _ _) hm hnx fun _ _=>rfl)⟩
theorem dJ.ops {nt id:Nat} {ops:Array Oper} {tm:Tr SV} {mk:List Dm} {h:Hs} {r:List Oc} (k:OpsS E nt ops ops.toList tm mk h r):dJ E nt (.region id ops false) tm mk h r:=by
 obtain ⟨n1,f1,s1⟩:=k;refine ⟨n1,f1,fun ro m g a w Q hok hro hE hfr hr hm hnx hk=>wpIn_region ?_⟩
 have:=s1 ro m g a w Q hro hE hfr hr hm hnx hk;simpa[List.range_eq_range'] using this
theorem dJ.draw {nt id:Nat} {ops:Array Oper} {tm tm1:Tr SV} {mk:List Dm} {h h1:Hs} {out:List St}
  (hf:FacD h.nx 0 ops.size ⟨h.hp,Nat.add h.nx ops.size,h.lg⟩ h1) (hd:DT E nt ops.size ops h.nx 0 [] ops.toList tm.get h.hp.get (Nat.add h.nx ops.size) tm1.get h1.hp.get h1.nx out):dJ E nt (.region id ops true) tm mk h [⟨.normal,tm1,mk,h1⟩]:=by
 have hnx0:h.nx<=h1.nx:=Nat.le_trans (Nat.le_add_right _ _) hf.nx;refine ⟨by simp,fun o ho=> ?_,fun ro m g a w Q hok hro hE hfr hr hm hnx hk=> ?_⟩
 ·obtain rfl:=List.mem_singleton.1 ho;exact ⟨⟨hnx0,hf.bd,fun x hx hn=>hf.lg x (Nat.lt_of_lt_of_le hx (Nat.le_add_right _ _)) (by omega) hn,hf.sub,fun x hx hn=>hf.dead x (Nat.lt_of_lt_of_le hx (Nat.le_add_right _ _)) (by omega) hn⟩,jB.refl _ _⟩
 exact NP (show pJ ops.size ops.toList ops.toList 0 0 []=true from hok) hE.mix (List.take_of_length_le (Nat.le_refl _)) hd (Nat.le_add_right _ _) hE hfr hr hnx (.inl (by simp)) (fun _ g1 a1 w1 q1 q2 q3 q4 q5 q6=>hk ⟨.normal,tm1,mk,h1⟩ (by simp) g1 a1 w1 _ .normal q1 q2 q3 (by rw[q4];exact hm.mono q3.le) q6 q5)
theorem w6.zero (ops:Array Oper) (W:Nat):w6 ops W 0 0:=fun p hp=>by simp at hp
theorem WZ {j:Option Code} {tm:Tr SV} {mk:List Dm} {h:Hs} {Q:Out->Prop} (hf:∀s,Q (.fail s)) (h1:j=none->Q (.code .normal tm mk h)) (h2:j=some .ret->Q (.code .ret tm mk h)) (h3:∀id,j=some (.exit id)->Q (.code (.exit id) tm mk h)):Q (adj j tm mk h):=by
 cases j with
 |none=>exact h1 rfl
 |some c=>cases c<;>first|exact hf _|exact h2 rfl|exact h3 _ rfl
theorem QP {s:LoopState} (h:DL s=true):s≠ .busy:=by intro e;subst e;cases h
theorem o7 (nt:Nat) (tm:Tr SV) (ps:List Nat) (aa bo:Code) (h:Hs):(gZ nt tm ps aa bo h).hp.get=upF (upF h.hp.get (h.nx,some .dfr)) (h.nx+1,some (.loop nt tm ps aa bo .ready none h.nx)):=by
 funext x;show ((h.hp.set h.nx (some .dfr)).set (h.nx+1) (some (SO.loop nt tm ps aa bo .ready none h.nx))).get x=_;rw[Tr.dv,Tr.dv];rfl
theorem RZ {nt:Nat} {tm:Tr SV} {ps:List Nat} {aa bo:Code} {h:Hs} (hb:Bd h):Fac h (gZ nt tm ps aa bo h):=by
 refine ⟨Nat.le_add_right _ _,fun x hx=> ?_,fun x hx _=> ?_,fun _ hx=>hx,fun x hx hn=> ?_⟩
 ·have hx:h.nx+2<=x:=hx;rw[o7,upF,upF,if_neg (show x≠h.nx+1 by omega),if_neg (show x≠h.nx by omega)]
  exact hb x (by omega)
 ·rw[o7,upF,upF,if_neg (show x≠h.nx+1 by omega),if_neg (show x≠h.nx by omega)]
 ·rw[o7,upF,upF,if_neg (show x≠h.nx+1 by omega),if_neg (show x≠h.nx by omega)]
  exact hn
theorem xy {h:Hs} {l:Nat} {o o':SO} (hb:Bd h) (hl:h.hp.get l=some o):Fac h (h.put l o'):=by
 have hlt:l<h.nx:=by
  by_cases hc:h.nx<=l
  ·rw[hb l hc] at hl;simp at hl
  ·omega
 have hg:∀x,(h.put l o').hp.get x=if x=l then some o' else h.hp.get x:=fun x=>Tr.dv _ _ _ _
 refine ⟨Nat.le_refl _,fun x hx=> ?_,fun x hx hn=> ?_,fun x hx=>List.mem_cons_of_mem _ hx,fun x hx hn=> ?_⟩
 ·have hx:h.nx<=x:=hx;rw[hg,if_neg (by omega)];exact hb x hx
 ·have hn:x∉l::h.lg:=hn;rw[hg,if_neg (fun e=>hn (by simp[e]))]
 ·rw[hg,if_neg (fun e=>by subst e;rw[hl] at hn;simp at hn)];exact hn
theorem DB (h:Hs) (l:Nat) (o:SO):(h.put l o).hp.get=upF h.hp.get (l,some o):=funext fun x=>Tr.dv _ _ _ _
theorem HR.loop {h:Hf} {w:World} {l b c nt dd:Nat} {tm:Tr SV} {ps:List Nat} {aa bo:Code} {st:LoopState} {pe:Option Code} (hr:HR g h w) (hl:h l=some (.loop nt tm ps aa bo st pe dd)) (hρ:g.ρ l=some (b,c)) (st':LoopState) (pe':Option Code):
  ∃r:Loop,w.heap[b]? =some (.loop r)/\r.state=st/\r.pending=pe/\HR g (upF h (l,some (.loop nt tm ps aa bo st' pe' dd))) (w.putObj b (.loop {r with state:=st',pending:=pe'}))/\Fr g h w g (upF h (l,some (.loop nt tm ps aa bo st' pe' dd))) (w.putObj b (.loop {r with state:=st',pending:=pe'})):=by
 obtain ⟨hlt,hor⟩:=hr.at hl hρ;obtain ⟨k1,k2,r,h1,h2,h3,h4,h5,h6,h7,o',h8⟩:=hor;have hw:=HR.write hr (o':=.loop nt tm ps aa bo st' pe' dd) (w':=w.putObj b (.loop {r with state:=st',pending:=pe'})) hl hρ (by simp) (fun k hk=>World.putObj_heap_other hk)
  ⟨k1,k2,{r with state:=st',pending:=pe'},by simp[World.putObj,hlt],rfl,rfl,h4,h5,h6,h7,o',h8⟩ rfl rfl rfl
 exact ⟨r,h1,h2,h3,hw.1,hw.2⟩
end
section
variable {E:Env} {g:Gh} {f:Hf} {w:World}
theorem rA {x:SV} (h:ur E x=true):∃k fi ca fn,x= .fn (.func k) fi ca/\E.fn.get k=some fn/\fn.body.isSome=true:=by
 cases x with
 |fn f fi ca=>
  cases f with
  |func k=>
   have h: @Option.rec Func (fun _=>Bool) false (fun fn=>fn.body.isSome) (E.fn.get k)=true:=h
   cases hf:E.fn.get k with
   |none=>rw[hf] at h;cases h
   |some fn=>rw[hf] at h;exact ⟨k,fi,ca,fn,rfl,hf,h⟩
  |_=>cases h
 |_=>cases h
theorem iy {P:Program} {k:FuncId} {fn:Func} (hf:P.funcs[k]? =some fn) (hb:fn.body.isSome=true) (args:Array Value) (w:World):
  ((callFunc k args).run P w= .ok .numGoroutine w/\fn.name= "runtime.NumGoroutine")\/(callFunc k args).run P w= .ok (.enter k args) w:=by
 have h2:fn.body≠none:=by cases hfb:fn.body<;>simp_all
 by_cases h:fn.name= "runtime.NumGoroutine"
 ·left;exact ⟨by simp[callFunc,hf,h,Sem.run],h⟩
 ·right;simp[callFunc,hf,h,h2,Sem.run]
theorem qj {P:Program} (k:FuncId) (fi ca us:Array Value) (w:World):(Deferred.ofValue (.func (.func k) fi ca) us).run P w= .ok {target:=.fn (.func k) ca,args:=fi++us} w:=rfl
theorem QD (hS:kR E) {nt:Nat} {fop:Operand} {ps:Array Nat} {aa bo as' bo':Code} {tm tm0:Tr SV} {mk:List Dm} {ps':List Nat} {h h2:Hs} {gv v:SV} {nt' dd:Nat} {st:LoopState} {gP:Option Code} {e:Ex}
  (hgo:ur E gv=true) (hgv:aM tm.get fop=some gv) (hs:Bd (gZ nt tm ps.toList aa bo h)->Fac (gZ nt tm ps.toList aa bo h) h2/\kF E false gv [.yld (h.nx+1)] (gZ nt tm ps.toList aa bo h).hp.get (h.nx+2) v h2.hp.get h2.nx)
  (hl:h2.hp.get (h.nx+1)=some (.loop nt' tm0 ps' as' bo' st gP dd)) (hst:DL st=true) (he:(gP=none/\e= .normal)\/(gP=some .ret/\e= .ret)\/(∃id,gP=some (.exit id)/\e= .exit id))
  (hb:Bd h):dJ E nt (.rangeFunc fop ps aa bo) tm mk h [⟨e,tm,.mark h.nx::mk,h2.put (h.nx+1) (.loop nt' tm0 ps' as' bo' .exhausted gP dd)⟩]:=by
 have f0:=RZ (nt:=nt) (tm:=tm) (ps:=ps.toList) (aa:=aa) (bo:=bo) hb;obtain ⟨f1,sem⟩:=hs f0.bd;have f3:=xy (o':=SO.loop nt' tm0 ps' as' bo' .exhausted gP dd) f1.bd hl;refine ⟨by simp,fun o ho=> ?_,fun ro m g a w Q hok hro hE hfr hr hm hnx hk=> ?_⟩
 ·obtain rfl:=List.mem_singleton.1 ho;refine ⟨(f0.trans f1).trans f3,by simp,fun x hx=> ?_⟩
  rcases List.mem_cons.1 hx with hx|hx
  ·cases hx;exact .inr (Nat.le_refl _)
  ·exact .inl hx
 have hok:(codeOk aa&&codeOk bo)=true:=hok;rw[Bool.and_eq_true] at hok;obtain ⟨ha,hbo⟩:=hok;have hro:ro=none:=by
  rcases hro with hh|hh
  ·exact hh
  ·have:=hh ⟨e,tm,.mark h.nx::mk,h2.put (h.nx+1) (.loop nt' tm0 ps' as' bo' .exhausted gP dd)⟩ (by simp)
   simp at this
 subst hro;show (Code.rangeFunc fop ps aa bo).wpIn (fro none) m E.P Q a w;refine wpIn_rangeFunc (fun fn _=> ?_)
 obtain ⟨r1,F1⟩:=HR.alloc (l:=0) (e:=0) hr (hnx h.nx (Nat.le_refl _)) (o':=.dfr) (w':=w.alloc (.deferred (some []))) rfl (World.alloc_heap_new _ _);have hn1:(g.bind h.nx (w.heap.size,0) 0 0).ρ (h.nx+1)=none:=by rw[Gh.dQ _ _ _ _ (by omega)];exact hnx _ (by omega)
 have hs1:(w.alloc (.deferred (some []))).heap.size=w.heap.size+1:=by simp
 have Zr:=Gh.sZ (p:=((w.alloc (.deferred (some []))).heap.size,0)) (l:=0) (e:=0) hn1;obtain ⟨r2,F2⟩:=HR.alloc (l:=0) (e:=0) r1 hn1 (o':=.loop nt tm ps.toList aa bo .ready none h.nx) (w':=(w.alloc (.deferred (some []))).alloc (.loop {state:=.ready,pending:=none,fn:=fn,tmps:=a.tmps,params:=ps,assign:=aa,body:=bo,defers:=w.heap.size})) rfl
  ⟨ha,hbo,_,World.alloc_heap_new _ _,rfl,rfl,rfl,rfl,rfl,hfr.mono (F1.le.trans Zr),0,by
   rw[Gh.dQ _ _ _ _ (by omega)];exact Gh.da _ _ _ _ _⟩
 rw[<-o7] at r2 F2;generalize hg2:(g.bind h.nx (w.heap.size,0) 0 0).bind (h.nx+1) ((w.alloc (.deferred (some []))).heap.size,0) 0 0=g2 at r2 F2 Zr;have hρl:g2.ρ (h.nx+1)=some (w.heap.size+1,0):=by rw[<-hg2,Gh.da,hs1]
 have hρd:g2.ρ h.nx=some (w.heap.size,0):=Zr.ρ _ _ (Gh.da _ _ _ _ _);have hρo:∀x,x≠h.nx->x≠h.nx+1->g2.ρ x=g.ρ x:=fun x h1 h2=>by rw[<-hg2,Gh.dQ _ _ _ _ h2,Gh.dQ _ _ _ _ h1]
 have hle:g.le g2:=F1.le.trans F2.le;obtain ⟨k,fi,ca,fn',rfl,hfn,iD⟩:=rA hgo;have hu:=(jX hfr hgv).mono hle;generalize hae:a.eval fop=u at hu;cases hu with
 | @fn _ first dE _ _ hv1 hv2=>
 obtain ⟨d,hd1,hd2⟩:=sem (m-1) g2 ((w.alloc (.deferred (some []))).alloc (.loop {state:=.ready,pending:=none,fn:=fn,tmps:=a.tmps,params:=ps,assign:=aa,body:=bo,defers:=w.heap.size})) _ [.func (.yield (w.heap.size+1)) #[] #[]] (hE.mono hle) r2 (fun x hx=>by rw[hρo x (by omega) (by omega)];exact hnx x (by omega)) (.fn hv1 hv2) (.cons (.yld hρl) .nil)
 have hd:d={target:=.fn (.func k) dE,args:=first++ #[.func (.yield (w.heap.size+1)) #[] #[]]}:=by
  rw[qj] at hd1;cases hd1;rfl
 subst hd;have BP:∃as',(invoke (.fn (.func k) dE) (first++ #[.func (.yield (w.heap.size+1)) #[] #[]])).run E.P ((w.alloc (.deferred (some []))).alloc (.loop {state:=.ready,pending:=none,fn:=fn,tmps:=a.tmps,params:=ps,assign:=aa,body:=bo,defers:=w.heap.size}))= .ok (.enter k as') ((w.alloc (.deferred (some []))).alloc (.loop {state:=.ready,pending:=none,fn:=fn,tmps:=a.tmps,params:=ps,assign:=aa,body:=bo,defers:=w.heap.size}))/\
   CallsIn Fence.wide (m-1) E.P k as' ((w.alloc (.deferred (some []))).alloc (.loop {state:=.ready,pending:=none,fn:=fn,tmps:=a.tmps,params:=ps,assign:=aa,body:=bo,defers:=w.heap.size})) fun e w'=>∃r,e=BU false r/\∃g',VR g' r v/\HR g' h2.hp.get w'/\Fr g2 (gZ nt tm ps.toList aa bo h).hp.get ((w.alloc (.deferred (some []))).alloc (.loop {state:=.ready,pending:=none,fn:=fn,tmps:=a.tmps,params:=ps,assign:=aa,body:=bo,defers:=w.heap.size})) g' h2.hp.get w'/\(∀x,x<h.nx+2->g'.ρ x=g2.ρ x)/\∀x,h2.nx<=x->g'.ρ x=none:=by
  have fj:∀(args:Array Value) (w:World),(invoke (.fn (.func k) dE) args).run E.P w=(callFunc k (args++dE)).run E.P w:=fun _ _=>rfl
  rcases iy (hS.fn k fn' hfn).1 iD (first++ #[.func (.yield (w.heap.size+1)) #[] #[]]++dE) ((w.alloc (.deferred (some []))).alloc (.loop {state:=.ready,pending:=none,fn:=fn,tmps:=a.tmps,params:=ps,assign:=aa,body:=bo,defers:=w.heap.size})) with ⟨hc,_⟩|hc
  ·rcases hd2 with ⟨k',as',q1,q2⟩|⟨l,k',t',as',b',q1,_⟩|⟨r,w',q1,_⟩<;>(rw[fj,hc] at q1;cases q1)
  ·rcases hd2 with ⟨k',as',q1,q2⟩|⟨l,k',t',as',b',q1,_⟩|⟨r,w',q1,_⟩
   ·have q0:=q1;rw[fj,hc] at q1;cases q1;exact ⟨_,q0,q2⟩
   ·rw[fj,hc] at q1;cases q1
   ·rw[fj,hc] at q1;cases q1
 obtain ⟨as2,hinv,BP⟩:=BP;refine ⟨w.heap.size+1,[{target:=.collected w.heap.size,args:= #[]}],_,{target:=.fn (.func k) dE,args:=first++ #[.func (.yield (w.heap.size+1)) #[] #[]]},_,k,as2,_,run_enterLoop_outer _ _ _ _ _,?_,fun _ _=>trivial,hinv,fun h=>by simp[fro] at h,?_⟩
 ·have hmap:(#[Operand.const (.func (.yield (w.heap.size+1)) #[] #[])]:Array Operand).map a.eval= #[.func (.yield (w.heap.size+1)) #[] #[]]:=by
   apply Array.ext';rw[Array.toList_map];rfl
  simp only[resolve,rangeCall];rw[hmap,hae];rfl
 refine CallsIn.mono (F:=fro none) (show CallsIn (fro none) (m-1) E.P k as2 _ _ from BP) ?_;rintro e' w3 ⟨r,rfl,g3,hv3,hr3,hf3,hρ3,hn3⟩;obtain ⟨rec,q1,q2,q3,q4,q5⟩:=HR.loop hr3 hl (hf3.le.ρ _ _ hρl) .exhausted gP;subst q3;refine ⟨rec.pending,_,run_endLoop q1 (by rw[q2];exact QP hst),?_⟩
 rw[<-DB] at q4 q5;have fin:=fun x hx=>hk ⟨e,tm,.mark h.nx::mk,h2.put (h.nx+1) (.loop nt' tm0 ps' as' bo' .exhausted rec.pending dd)⟩ (by simp) g3 {a with defers:= [{target:=.collected w.heap.size,args:= #[]}]++a.defers} _ x hx (hfr.mono (hle.trans hf3.le)) q4 (((F1.trans F2).trans hf3).trans q5) (.mark (hf3.le.ρ _ _ hρd) (hm.mono (hle.trans hf3.le))) hn3 (fun x hx=>by rw[hρ3 x (by omega),hρo x (by omega) (by omega)])
 rcases he with ⟨hp,rfl⟩|⟨hp,rfl⟩|⟨id,hp,rfl⟩
 ·have fin:=fin _ .normal;rw[hp] at fin ⊢;exact fin
 ·have fin:=fin _ .ret;rw[hp] at fin ⊢;exact wpIn_ret fin
 ·have fin:=fin _ (.exit id);rw[hp] at fin ⊢;exact wpIn_exit fin
theorem YC {r:Out} {k kp:SV->Hs->Out} {Q:Out->Prop} (hf:∀s,Q (.fail s)) (ht:∀a b c,Q (.pS a b c)) (hr:∀v h2,r= .res v h2->Q (k v h2)) (hp:∀v h2,r= .pan v h2->Q (kp v h2)):Q (DF r k kp):=by
 cases r with
 |cI l=>
  cases l with
  |nil=>exact hf _
  |cons r l=>
   cases l with
   |nil=>
    obtain ⟨pan,v,h2⟩:=r;cases pan with
    |false=>exact hr v h2 rfl
    |true=>exact hp v h2 rfl
   |cons _ _=>exact hf _
 |fail s=>exact hf _
 |pS a b c=>exact ht _ _ _
 |_=>exact hf _
theorem NQ (hS:kR E) {rec:Job->Out} (dM:∀j,Sound E j (rec j)) (nt:Nat) (fop:Operand) (ps:Array Nat) (aa bo:Code) (tm:Tr SV) (mk:List Dm) (h:Hs):
  Sound E (.code nt (.rangeFunc fop ps aa bo) tm mk h) (J9 E rec nt (aM tm.get fop) ps.toList aa bo tm mk h):=by
 unfold J9;cases hg:aM tm.get fop with
 |none=>trivial
 |some gv=>
  show Sound E _ (sel (ur E gv) (DF (rec (.call gv [.yld (h.nx+1)] (gZ nt tm ps.toList aa bo h))) (fun _ h2=>Ah (h.nx+1) h.nx tm mk h2) fun _ _=>.fail "panic in a range") (.fail "rangeFunc"))
  rw[aC];split;rotate_left
  ·trivial
  rename_i hgo;refine YC (Q:=Sound E _) (fun _=>trivial) (fun _ _ _=>trivial) (fun v h2 hv=> ?_) (fun _ _ _=>trivial)
  have hs:=dM (.call gv [.yld (h.nx+1)] (gZ nt tm ps.toList aa bo h));rw[hv] at hs;have hs:Bd (gZ nt tm ps.toList aa bo h)-> [(⟨false,v,h2⟩:Rs)]≠ []/\(∀r∈ [(⟨false,v,h2⟩:Rs)],Fac (gZ nt tm ps.toList aa bo h) r.h)/\lS E gv [.yld (h.nx+1)] (gZ nt tm ps.toList aa bo h).hp.get (h.nx+2) [⟨false,v,h2⟩]:=hs;have hs:Bd (gZ nt tm ps.toList aa bo h)->Fac (gZ nt tm ps.toList aa bo h) h2/\kF E false gv [.yld (h.nx+1)] (gZ nt tm ps.toList aa bo h).hp.get (h.nx+2) v h2.hp.get h2.nx:=fun hb=>⟨(hs hb).2.1 ⟨false,v,h2⟩ (by simp),(hs hb).2.2.one⟩
  unfold Ah;split;rotate_left
  ·trivial
  rename_i nt' tm0 ps' as' bo' st gP dd hl;rw[aC];split;rotate_left
  ·trivial
  rename_i hst;have key:∀e,((gP=none/\e= .normal)\/(gP=some .ret/\e= .ret)\/(∃id,gP=some (.exit id)/\e= .exit id))->Sound E (.code nt (.rangeFunc fop ps aa bo) tm mk h) (.code e tm (.mark h.nx::mk) (h2.put (h.nx+1) (.loop nt' tm0 ps' as' bo' .exhausted gP dd))):=by
   intro e he hb;exact QD hS hgo hg hs hl hst he hb
  exact WZ (Q:=Sound E _) (fun _=>trivial) (fun hp=>key _ (.inl ⟨hp,rfl⟩)) (fun hp=>key _ (.inr (.inl ⟨hp,rfl⟩))) (fun id hp=>key _ (.inr (.inr ⟨id,hp,rfl⟩)))
theorem oI {e:Ex} {tm:Tr SV} {mk:List Dm} {h:Hs} {k:Tr SV->List Dm->Hs->Out} {r:List Oc} (hs:seqE e tm mk h k= .bq r):(e= .normal/\k tm mk h= .bq r)\/(e≠ .normal/\r= [⟨e,tm,mk,h⟩]):=by
 cases e with
 |normal=>exact .inl ⟨rfl,hs⟩
 |exit id=>cases hs;exact .inr ⟨fun e=>(by cases e),rfl⟩
 |ret=>cases hs;exact .inr ⟨fun e=>(by cases e),rfl⟩
 |pan v=>cases hs;exact .inr ⟨fun e=>(by cases e),rfl⟩
theorem AE (hS:kR E) {rec:Job->Out} (dM:∀j,Sound E j (rec j)) (nt:Nat) (c:Code) (tm:Tr SV) (mk:List Dm) (h:Hs):Sound E (.code nt c tm mk h) (adA c E rec nt tm mk h):=by
 cases c with
 |skip=>exact fun hb=>dJ.calm .normal (fun _=>.normal) hb fun ro m Q a w hq=>wpIn_skip hq
 |ret=>exact fun hb=>dJ.calm .ret (fun _=>.ret) hb fun ro m Q a w hq=>wpIn_ret hq
 |exit id=>exact fun hb=>dJ.calm (.exit id) (fun _=>.exit id) hb fun ro m Q a w hq=>wpIn_exit hq
 |region id ops draw=>
  cases draw with
  |false=>
   show Sound E _ (rec (.ops nt ops.toList ops.toList tm mk h));have hs:=dM (.ops nt ops.toList ops.toList tm mk h);cases hr:rec (.ops nt ops.toList ops.toList tm mk h) with
   |bq r=>
    rw[hr] at hs;intro hb;exact dJ.ops (hs ops rfl (by simp) hb)
   |_=>trivial
  |true=>
   show Sound E _ (stK (rec (.draw nt ops.size ops.toList h.nx 0 0 [] ops.toList tm ⟨h.hp,Nat.add h.nx ops.size,h.lg⟩)) fun tm' h'=>.code .normal tm' mk h')
   have hs:=dM (.draw nt ops.size ops.toList h.nx 0 0 [] ops.toList tm ⟨h.hp,Nat.add h.nx ops.size,h.lg⟩);cases hr:rec (.draw nt ops.size ops.toList h.nx 0 0 [] ops.toList tm ⟨h.hp,Nat.add h.nx ops.size,h.lg⟩) with
   |st tm1 h1=>
    rw[hr] at hs;intro hb;obtain ⟨f1,out,hd⟩:=hs ops rfl rfl (by simp) (Nat.le_refl _) (fun x hx=>hb x (Nat.le_trans (Nat.le_add_right _ _) hx)) (fun x hx hc=>hx (hb x (by omega))) (w6.zero _ _) (fun p hp=>by simp at hp) [] rfl
    exact dJ.draw f1 hd
   |_=>trivial
 |seq a b=>
  show Sound E _ (rX (rec (.code nt a tm mk h)) fun tm' mk' h'=>rec (.code nt b tm' mk' h'))
  cases cC:rX (rec (.code nt a tm mk h)) fun tm' mk' h'=>rec (.code nt b tm' mk' h') with
  |bq r=>
   obtain ⟨l1,h1,h2⟩:=qi cC;obtain ⟨_,q1,q2⟩:=mH h2;have hs:=dM (.code nt a tm mk h);rw[h1] at hs;intro hb;have k1:=hs hb;have sub:∀(o:Oc) r',o∈l1->rec (.code nt b o.tm o.dm o.h)= .bq r'->dJ E nt b o.tm o.dm o.h r':=fun o r' ho hr'=>by
    have:=dM (.code nt b o.tm o.dm o.h);rw[hr'] at this;exact this (k1.2.1 o ho).1.bd
   refine k1.seq (fun o ho=> ?_) (fun x hx=> ?_)
   ·obtain ⟨r',e1,e2⟩:=q1 o ho;rcases oI e1 with ⟨he,hr'⟩|⟨he,rfl⟩
    ·exact .inl ⟨he,r',sub o r' ho hr',e2⟩
    ·exact .inr ⟨he,e2 _ (by simp)⟩
   ·obtain ⟨o,ho,r',e1,e2⟩:=q2 x hx;rcases oI e1 with ⟨he,hr'⟩|⟨he,rfl⟩
    ·exact ⟨o,ho,.inl ⟨r',sub o r' ho hr',e2⟩⟩
    ·exact ⟨o,ho,.inr (List.mem_singleton.1 e2)⟩
  |_=>trivial
 |cond c a b=>
  show Sound E _ (B2 (aM tm.get c) (rec (.code nt a tm mk h)) (rec (.code nt b tm mk h)));unfold B2;cases hv:aj (aM tm.get c) g6 with
  |none=>trivial
  |some t=>
   obtain ⟨x,h1,h2⟩:=af hv;obtain rfl:=kY h2;have hev:∀(g:Gh) (ac:Act),FR g nt tm.get ac.tmps->ac.eval c= .bool t:=fun g ac hfr=>by
    have:=jX hfr h1;generalize ac.eval c=u at this;cases this;rfl
   show Sound E _ (sel t (rec (.code nt a tm mk h)) (rec (.code nt b tm mk h)));cases t with
   |true=>
    show Sound E _ (rec (.code nt a tm mk h));have hs:=dM (.code nt a tm mk h);cases hr:rec (.code nt a tm mk h) with
    |bq r=>
     rw[hr] at hs;intro hb;obtain ⟨n1,f1,s1⟩:=hs hb;exact ⟨n1,f1,fun ro m g ac w Q hok hro hE hfr hrr hm hnx hk=>wpIn_cond_true (hev g ac hfr) (mb (s1 ro m g ac w Q (okL hok) hro hE hfr hrr hm hnx hk))⟩
    |_=>trivial
   |false=>
    show Sound E _ (rec (.code nt b tm mk h));have hs:=dM (.code nt b tm mk h);cases hr:rec (.code nt b tm mk h) with
    |bq r=>
     rw[hr] at hs;intro hb;obtain ⟨n1,f1,s1⟩:=hs hb;exact ⟨n1,f1,fun ro m g ac w Q hok hro hE hfr hrr hm hnx hk=>wpIn_cond_false (hev g ac hfr) (mb (s1 ro m g ac w Q (okR hok) hro hE hfr hrr hm hnx hk))⟩
    |_=>trivial
 |block id c=>
  show Sound E _ (B7 id (rec (.code nt c tm mk h)));cases cC:B7 id (rec (.code nt c tm mk h)) with
  |bq r=>
   obtain ⟨l1,h1,h2⟩:=qi cC;obtain ⟨_,q1,q2⟩:=mH h2;have hs:=dM (.code nt c tm mk h);rw[h1] at hs;intro hb;refine (hs hb).block (fun x=>⟨fun hx=> ?_,fun ⟨o,ho,hx⟩=> ?_⟩)
   ·obtain ⟨o,ho,r',e1,e2⟩:=q2 x hx;cases e1;exact ⟨o,ho,List.mem_singleton.1 e2⟩
   ·obtain ⟨r',e1,e2⟩:=q1 o ho;cases e1;subst hx;exact e2 _ (by simp)
  |_=>trivial
 |loop c=>
  show Sound E _ (rX (rec (.code nt c tm mk h)) fun tm' mk' h'=>rec (.code nt (.loop c) tm' mk' h'))
  cases cC:rX (rec (.code nt c tm mk h)) fun tm' mk' h'=>rec (.code nt (.loop c) tm' mk' h') with
  |bq r=>
   obtain ⟨l1,h1,h2⟩:=qi cC;obtain ⟨_,q1,q2⟩:=mH h2;have hs:=dM (.code nt c tm mk h);rw[h1] at hs;intro hb;have k1:=hs hb;have sub:∀(o:Oc) r',o∈l1->rec (.code nt (.loop c) o.tm o.dm o.h)= .bq r'->dJ E nt (.loop c) o.tm o.dm o.h r':=fun o r' ho hr'=>by
    have:=dM (.code nt (.loop c) o.tm o.dm o.h);rw[hr'] at this;exact this (k1.2.1 o ho).1.bd
   refine k1.loop (fun o ho=> ?_) (fun x hx=> ?_)
   ·obtain ⟨r',e1,e2⟩:=q1 o ho;rcases oI e1 with ⟨he,hr'⟩|⟨he,rfl⟩
    ·exact .inl ⟨he,r',sub o r' ho hr',e2⟩
    ·exact .inr ⟨he,e2 _ (by simp)⟩
   ·obtain ⟨o,ho,r',e1,e2⟩:=q2 x hx;rcases oI e1 with ⟨he,hr'⟩|⟨he,rfl⟩
    ·exact ⟨o,ho,.inl ⟨r',sub o r' ho hr',e2⟩⟩
    ·exact ⟨o,ho,.inr (List.mem_singleton.1 e2)⟩
  |_=>trivial
 |rangeFunc fop ps aa bo=>exact NQ hS dM nt fop ps aa bo tm mk h
 |_=>trivial
end
end Go.Sim
end
