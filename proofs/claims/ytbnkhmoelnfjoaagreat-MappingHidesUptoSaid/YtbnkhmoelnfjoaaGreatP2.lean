/- Part. -/
import Derived.Test.YtbnkhmoelnfjoaaGreatP1
import Derived.Lib.Bytealg
import Derived.Laws.Externs
import Derived.Maps.RangeRun
import Derived.RangeFuncRecord
import Derived.RangeFuncLeaves
import Derived.RecoverIn
import Derived.ProofKit
import Derived.OpenShut
set_option linter.all false
noncomputable section
namespace Go.bZ
open Go.RowKit
variable {bu:Array Bool} {i j b M nx nx' new A:Nat} {w':World} {ro:bP} {need frp newp:Nat->Prop} {O:Type} {o:Oper} {l l0 all:dd} {r l1:List Oc} {prev:List Rc} {T':Tf} {F' H' H:Hf} {out:Out} {t:TypeId} {v x s y fv:SV} {us:dN} {k:FuncId} {g':Gh} {h h1 h':Hs} {kp:SV->Hs->Out} {tm D1:de} {K:Act->World->Prop} {ms:List MapEntry} {es:je} {seen lg:bq} {sa:Array Nat} {rec:lH->Out} {aa xs fi svs cs:aY} {rs:List Rs} {fo:ee} {ao:Option aY} {e:Ex} {fn:Func} {rv:ResultVar} {cur:hY}
section
variable {E:Env} {g:Gh} {f:Hf} {w:World}
variable {S:Nat->Prop} {nt:Nat} {a:Act} {Q:Exit->Act->World->Prop}
structure DS where
 T:Tf
 F:Hf
structure HT where
 dst:bP
 v:SV
 D:Nat->Bool
 H:Hf
def DS.app (s:DS) (u:HT):DS:=⟨jg s.T u.dst u.v,kP u.D u.H s.F⟩
def eR (us:Nat->HT) (l:bq) (p:Nat->Bool) (s:DS):DS:=(l.filter p).foldl (λs j=>s.app (us j)) s
def FY (us:Nat->HT) (t:Nat) (p q:Nat->Bool):∀(l:bq) (s s2:DS),s.T t=s2.T t->(∀j∈l,(us j).dst=some t->p j=q j)->(eR us l p s).T t=(eR us l q s2).T t
 | [],s,s2,h,_=>h
 |j::l,s,s2,h,hpq=>by
  have rI:=λs s2 hs=>FY us t p q l s s2 hs (λi hi=>hpq i (fM _ hi))
  have Dw:∀s:DS,(s.app (us j)).T t=if (us j).dst=some t then some (us j).v else s.T t:=λs=>rfl
  unfold eR at rI ⊢;by_cases hl:(us j).dst=some t
  ·have:=hpq j (by simp) hl
   cases hp:p j
   ·rw[hp] at this;simp only[mz,hp,<-this];exact rI s s2 h
   ·rw[hp] at this;simp only[mz,hp,<-this,aB,DX];exact rI _ _ (by rw[Dw,Dw,aH hl,aH hl])
  ·have key:∀s:DS,(s.app (us j)).T t=s.T t:=λs=>by rw[Dw,aM hl]
   cases hp:p j<;>cases hq:q j<;>simp only[mz,hp,hq,aB,DX,aC,aA]
   ·exact rI _ _ h
   ·exact rI _ _ (by rw[key];exact h)
   ·exact rI _ _ (by rw[key];exact h)
   ·exact rI _ _ (by rw[key,key];exact h)
def FZ (us:Nat->HT) (x:Nat) (p q:Nat->Bool):∀(l:bq) (s s2:DS),s.F x=s2.F x->(∀j∈l,(us j).D x=true->p j=q j)->(eR us l p s).F x=(eR us l q s2).F x
 | [],s,s2,h,_=>h
 |j::l,s,s2,h,hpq=>by
  have rI:=λs s2 hs=>FZ us x p q l s s2 hs (λi hi=>hpq i (fM _ hi))
  have Dw:∀s:DS,(s.app (us j)).F x=if (us j).D x=true then (us j).H x else s.F x:=λs=>rfl
  unfold eR at rI ⊢;by_cases hl:(us j).D x=true
  ·have:=hpq j (by simp) hl
   cases hp:p j
   ·rw[hp] at this;simp only[mz,hp,<-this];exact rI s s2 h
   ·rw[hp] at this;simp only[mz,hp,<-this,aB,DX];exact rI _ _ (by rw[Dw,Dw,aH hl,aH hl])
  ·have key:∀s:DS,(s.app (us j)).F x=s.F x:=λs=>by rw[Dw,aM hl]
   cases hp:p j<;>cases hq:q j<;>simp only[mz,hp,hq,aB,DX,aC,aA]
   ·exact rI _ _ h
   ·exact rI _ _ (by rw[key];exact h)
   ·exact rI _ _ (by rw[key];exact h)
   ·exact rI _ _ (by rw[key,key];exact h)
def DS.ext' {s t:DS} (h1:∀u,s.T u=t.T u) (h2:∀k,s.F k=t.F k):s=t:=by
 cases s;cases t;simp only[DS.mk.injEq];exact ⟨funext h1,funext h2⟩
def Cl (i n:Nat) (h:i<=n):(List.range' 0 n).filter (λj=>decide (j<i))=List.range' 0 i:=by
 obtain ⟨m,rfl⟩:=Nat.exists_eq_add_of_le h;rw[<-List.range'_append_1,Kq];have h1:(List.range' 0 i).filter (λj=>decide (j<i))=List.range' 0 i:=vA.2 λx hx=>by simp[ov] at hx;simpa using hx
 have h2:(List.range' (0+i) m).filter (λj=>decide (j<i))= []:=sr.2 λx hx=>by simp[ov] at hx;simp;omega
 rw[h1,h2];simp
def YT (us:Nat->HT) (p:Nat->Bool) (i n:Nat) (h:i<n) (hp:p i=true) (s:DS):eR us (List.range' 0 n) (λj=>p j&&decide (j<=i)) s=(eR us (List.range' 0 i) p s).app (us i):=by
 obtain ⟨m,rfl⟩:=Nat.exists_eq_add_of_lt h;have e:List.range' 0 (i+m+1)=List.range' 0 i++(i::List.range' (i+1) m):=by
  rw[show i+m+1=i+(m+1) from by omega,<-List.range'_append_1]
  simp[yz]
 unfold eR;rw[e,Kq,mz];have h1:(List.range' 0 i).filter (λj=>p j&&decide (j<=i))=(List.range' 0 i).filter p:=xy λx hx=>by simp[ov] at hx;simp;omega
 have h2:(List.range' (i+1) m).filter (λj=>p j&&decide (j<=i))= []:=sr.2 λx hx=>by simp[ov] at hx;simp;omega
 rw[h1,h2];simp[hp]
def abG (l:Array Bool) (i j:Nat) (h:i<l.size) (d:Bool):(l.setIfInBounds i true).getD j d=if j=i then true else l.getD j d:=by
 simp only[ma,YC];by_cases hj:j=i
 ·subst hj;simp[h]
 ·simp[hj,DK hj]
def direct (ops:dE) (j:Nat):bq:=((ops[j]?).map l8).getD []
def mm (ops:dE):Nat->Nat->bq
 |0,_=> []
 |n+1,j=>direct ops j++(direct ops j).flatMap (mm ops n)
def uh {ops:dE} {S:Nat->Prop} (hS:∀j,S j->∀i∈direct ops j,S i):∀(n j:Nat),S j->∀i∈mm ops n j,S i
 |0,_,_,i,hi=>by simp[mm] at hi
 |n+1,j,hj,i,hi=>by
  simp only[mm,eO,tS] at hi;rcases hi with hi|⟨k,hk,hi⟩
  ·exact hS j hj i hi
  ·exact uh hS n k (hS j hj k hk) i hi
def G3 {ops:dE} (hS:∀j,S j->∀i∈direct ops j,S i):∀(n j:Nat),(∀i∈direct ops j,S i)->∀i∈mm ops n j,S i
 |0,_,_,i,hi=>by simp[mm] at hi
 |n+1,j,hj,i,hi=>by
  simp only[mm,eO,tS] at hi;rcases hi with hi|⟨k,hk,hi⟩
  ·exact hj i hi
  ·exact uh hS n k (hj k hk) i hi
def tX {ops:dE}:i∈Region.ready .any ops bu↔i<ops.size/\bu.getD i true=false/\∀j∈direct ops i,bu.getD j false=true:=by
 unfold Region.ready;simp only[lr,SF,bF,Bool.not_eq_true'];constructor
 ·rintro ⟨h1,h2,h3⟩;refine ⟨h1,h2,λj hj=> ?_⟩
  unfold direct at hj;rw[nS h1] at hj h3;simp only[HY,xn,l8,cP,lr] at hj h3;obtain ⟨e,⟨he1,he2⟩,rfl⟩:=hj;rw[Array.all_eq_true'] at h3;have:=h3 e (by simpa using he1)
  simpa[he2] using this
 ·rintro ⟨h1,h2,h3⟩;refine ⟨h1,h2,?_⟩;rw[nS h1];simp only[HY,xn];rw[Array.all_eq_true'];intro e he;by_cases hb:Region.binds .any e=true
  ·have:=h3 e.on (by
    unfold direct;rw[nS h1];simp only[HY,xn,l8,cP,lr];exact ⟨e,⟨by simpa using he,hb⟩,rfl⟩)
   simp[this]
  ·simp[hb]
def HR.EG (h:HR g f w) (he:w'.heap=w.heap):HR g f w':=
 ⟨λid o ho=>by
  obtain ⟨b,c,q1,q2,q3⟩:=h.ob id o ho;exact ⟨b,c,q1,by rw[he];exact q2,q3.mono (.refl _) q1 (by rw[he])⟩,h.inj⟩
def Fr.EG (he:w'.heap=w.heap) (h1:w'.os=w.os) (h2:w'.tape=w.tape) (h3:w'.output=w.output):Fr g f w g f w':=
 ⟨h1,h2,h3,by rw[he];exact dg _,.refl _,λb _ _=>by rw[he],λ_ _ h=>h⟩
structure Ind (ops:dE) (us:Nat->HT) (need:Nat->Nat->Prop) (i j:Nat):Prop where
 s1:∀t,(us i).dst=some t->∀o,ops[j]? =some o->t∉o.looksAt ops
 s2:∀t,(us j).dst=some t->∀o,ops[i]? =some o->t∉o.looksAt ops
 s3:∀t,(us i).dst=some t->(us j).dst≠some t
 d:∀x,(us i).D x=true->(us j).D x=false
 n1:∀x,need j x->(us i).D x=false
 n2:∀x,need i x->(us j).D x=false
def alv {ops:dE} {U:Nat->HT} {need frp newp:Nat->Nat->Prop} {s0:DS} (Br:E.P.follows .mixedOrders=true) (Gz:∀i (hi:i<ops.size),¬S i->(U i).dst=ops[i].dst/\ve E ro nt ops i ops[i] (eR U (List.range' 0 i) (λ_=>true) s0).T (need i) (eR U (List.range' 0 i) (λ_=>true) s0).F (frp i) (newp i) (U i).v (U i).D (U i).H) (hd:∀j,j<ops.size->(∀i∈direct ops j,i<j)/\∀i,i<j->i∈mm ops ops.size j\/Ind ops U need i j) (hfp:∀i k,i<ops.size->k<ops.size->i≠k->∀x,frp i x->newp k x->i∈mm ops ops.size k) {id m:Nat} (hE:dV E g) (dY:FR g nt s0.T a.tmps) (hr:HR g s0.F w) (l6:∀i,i<ops.size->∀x,frp i x->g.Z x=none) (aJD:∀i,i<ops.size->S i->i+1=ops.size/\(∀j,j<i->j∈mm ops ops.size i)/\∀(g1:Gh) (a1:Act) (w1:World) (K:Act->World->Prop),dV E g1->FR g1 nt (eR U (List.range' 0 i) (λ_=>true) s0).T a1.tmps->HR g1 (eR U (List.range' 0 i) (λ_=>true) s0).F w1->
   Fr g s0.F w g1 (eR U (List.range' 0 i) (λ_=>true) s0).F w1->a1.defers=a.defers->(∀x,g1.Z x≠g.Z x->∃k,k<i/\newp k x)->wpOpIn (ot ro) m E.P ops Q i K a1 w1) (hq:(∀i,i<ops.size->¬S i)->∀g' a' w',FR g' nt (eR U (List.range' 0 ops.size) (λ_=>true) s0).T a'.tmps->HR g' (eR U (List.range' 0 ops.size) (λ_=>true) s0).F w'->Fr g s0.F w g' (eR U (List.range' 0 ops.size) (λ_=>true) s0).F w'->a'.defers=a.defers->
   (∀x,(∀i,i<ops.size->¬newp i x)->g'.Z x=g.Z x)->Q .normal a' w'):(Code.region id ops true).wpIn (ot ro) m E.P Q a w:=by
 let n:=ops.size;have key:∀(fuel:Nat) (bu:Array Bool) (a1:Act) (w1:World) (g1:Gh),bu.size=n->(∀j,bu.getD j false=true->∀i∈direct ops j,bu.getD i false=true)->
   ((List.range' 0 n).filter (λj=> !bu.getD j false)).length=fuel->dV E g1->FR g1 nt (eR U (List.range' 0 n) (λj=>bu.getD j false) s0).T a1.tmps->HR g1 (eR U (List.range' 0 n) (λj=>bu.getD j false) s0).F w1->
   Fr g s0.F w g1 (eR U (List.range' 0 n) (λj=>bu.getD j false) s0).F w1->a1.defers=a.defers->(∀x,g1.Z x≠g.Z x->∃k,k<n/\bu.getD k false=true/\newp k x)->(∀j,bu.getD j false=true->¬S j)->wpAnyIn (ot ro) m E.P .any ops Q fuel bu a1 w1:=by
  intro fuel;induction fuel with
  |zero=>
   intro bu a1 w1 g1 mD eA Bv hE1 Bu xd CD hdf Ds zO;have gS:∀j,j<n->bu.getD j false=true:=by
    intro j hj;have:=sr.1 (sq Bv) j (by simp[ov];exact hj)
    simpa using this
   have nG:eR U (List.range' 0 n) (λj=>bu.getD j false) s0=eR U (List.range' 0 n) (λ_=>true) s0:=by
    unfold eR;congr 1;exact xy λx hx=>by simp[ov] at hx;simpa using gS x hx
   rw[nG] at Bu xd CD;refine ⟨?_,hq (λi hi=>zO i (gS i hi)) g1 a1 w1 Bu xd CD hdf (λx hx=> ?_)⟩
   ·rw[SH];intro i hi;obtain ⟨h1,h2,_⟩:=tX.1 hi;have:=gS i h1;simp only[ma] at this h2;rw[nS (by rw[mD];exact h1)] at this h2
    simp at this h2;rw[this] at h2;simp at h2
   ·by_cases he:g1.Z x=g.Z x
    ·exact he
    ·obtain ⟨k,k1,_,k3⟩:=Ds x he;exact absurd k3 (hx k k1)
  |succ fuel ih=>
   intro bu a1 w1 g1 mD eA Bv hE1 Bu xd CD hdf Ds zO;have hun:∀j,j<n->bu.getD j true=bu.getD j false:=by
    intro j hj;simp only[ma];rw[nS (by rw[mD];exact hj)];rfl
   refine ⟨λhr=> ?_,λi hi=> ?_⟩
   ·exfalso;have cY:(List.range' 0 n).filter (λj=> !bu.getD j false)≠ []:=by intro he;rw[he] at Bv;simp at Bv
    obtain ⟨i0,hi0⟩:=mG _ cY;have hex:∃i,i<n/\bu.getD i false=false:=⟨i0,by simp[ov] at hi0;exact hi0.1,by simp at hi0;simpa using hi0.2⟩
    have:∀m,(∃i,i<=m/\i<n/\bu.getD i false=false)->∃i,i<n/\bu.getD i false=false/\∀j,j<i->bu.getD j false=true:=by
     intro m;induction m with
     |zero=>rintro ⟨i,h1,h2,h3⟩;exact ⟨i,h2,h3,λj hj=>by omega⟩
     |succ m ihm=>
      rintro ⟨i,h1,h2,h3⟩;by_cases hj:∃j,j<i/\bu.getD j false=false
      ·obtain ⟨j,hj1,hj2⟩:=hj;exact ihm ⟨j,by omega,by omega,hj2⟩
      ·exact ⟨i,h2,h3,λj I7=>by
        cases hq:bu.getD j false with
        |true=>rfl
        |false=>exact absurd ⟨j,I7,hq⟩ hj⟩
    obtain ⟨i,sW,uM⟩:=hex;obtain ⟨k,k1,k2,k3⟩:=this i ⟨i,dg _,sW,uM⟩;have:k∈Region.ready .any ops bu:=tX.2 ⟨k1,by rw[hun k k1];exact k2,λj hj=>k3 j ((hd k k1).1 j hj)⟩
    rw[hr] at this;simp at this
   ·obtain ⟨sW,uM,hi3⟩:=tX.1 hi;rw[hun i sW] at uM;by_cases hSi:S i
    ·obtain ⟨CB,gS,qo⟩:=aJD i sW hSi;have hli:∀j,j<i->bu.getD j false=true:=λj hj=>G3 (S:=λj=>bu.getD j false=true) eA n i hi3 j (gS j hj)
     have nG:eR U (List.range' 0 n) (λj=>bu.getD j false) s0=eR U (List.range' 0 i) (λ_=>true) s0:=by
      unfold eR;have:(List.range' 0 n).filter (λj=>bu.getD j false)=(List.range' 0 i).filter (λ_=>true):=by
       rw[vA.2 (λ_ _=>rfl),<-Cl i n (Nat.le_of_lt sW)]
       refine xy λx hx=> ?_
       have hxn:x<n:=by simp[ov] at hx;exact hx
       by_cases hxi:x<i
       ·simp only[hli x hxi,hxi,aU]
       ·have:x=i:=by omega
        subst this;simp only[uM,Nat.lt_irrefl,aX]
      rw[this]
     rw[nG] at Bu xd CD;refine qo g1 a1 w1 _ hE1 Bu xd CD hdf (λx hx=> ?_)
     obtain ⟨k,k1,k2,k3⟩:=Ds x hx;refine ⟨k,?_,k3⟩;by_cases hk:k=i
     ·subst hk;rw[uM] at k2;simp at k2
     ·omega
    obtain ⟨aum,hs⟩:=Gz i sW hSi;have hoi:ops[i]? =some ops[i]:=nS sW;have Jc:∀j,j<i->bu.getD j false=false->Ind ops U need j i:=by
     intro j hj hl;rcases (hd i sW).2 j hj with hc|hc
     ·have:=G3 (S:=λj=>bu.getD j false=true) eA n i hi3 j hc
      rw[hl] at this;simp at this
     ·exact hc
    have Ah:∀j,i<j->j<n->bu.getD j false=true->Ind ops U need i j:=by
     intro j hj hjn hl;rcases (hd j hjn).2 i hj with hc|hc
     ·have:=uh (S:=λj=>bu.getD j false=true) eA n j hl i hc
      rw[uM] at this;simp at this
     ·exact hc
    have abw:eR U (List.range' 0 i) (λ_=>true) s0=eR U (List.range' 0 n) (λj=>decide (j<i)) s0:=by
     unfold eR;rw[Cl i n (Nat.le_of_lt sW)];congr 1;exact vA.2 (λ_ _=>rfl)
    have hT:∀t∈(ops[i]).looksAt ops,(eR U (List.range' 0 n) (λj=>bu.getD j false) s0).T t=(eR U (List.range' 0 i) (λ_=>true) s0).T t:=by
     intro t htr;rw[abw];refine FY U t _ _ _ _ _ rfl (λj hj mL=> ?_)
     have hjn:j<n:=by simp[ov] at hj;exact hj
     rcases Nat.lt_trichotomy j i with cV|heq|hgt
     ·cases hl:bu.getD j false with
      |true=>simp[cV]
      |false=>exact absurd htr ((Jc j cV hl).s1 t mL _ hoi)
     ·subst heq;simp[uM]
     ·cases hl:bu.getD j false with
      |false=>simp;omega
      |true=>exact absurd htr ((Ah j hgt hjn hl).s2 t mL _ hoi)
    have hB:∀x,need i x->(eR U (List.range' 0 n) (λj=>bu.getD j false) s0).F x=(eR U (List.range' 0 i) (λ_=>true) s0).F x:=by
     intro x hx;rw[abw];refine FZ U x _ _ _ _ _ rfl (λj hj mL=> ?_)
     have hjn:j<n:=by simp[ov] at hj;exact hj
     rcases Nat.lt_trichotomy j i with cV|heq|hgt
     ·cases hl:bu.getD j false with
      |true=>simp[cV]
      |false=>
       have:=(Jc j cV hl).n1 x hx;rw[mL] at this;simp at this
     ·subst heq;simp[uM]
     ·cases hl:bu.getD j false with
      |false=>simp;omega
      |true=>
       have:=(Ah j hgt hjn hl).n2 x hx;rw[mL] at this;simp at this
    have iN:∀j,(bu.setIfInBounds i true).getD j false=if j=i then true else bu.getD j false:=λj=>abG bu i j (by rw[mD];exact sW) false
    have EA:(bu.setIfInBounds i true).getD i false=true:=by rw[iN];simp
    have PK:(eR U (List.range' 0 n) (λj=>bu.getD j false) s0).app (U i)=eR U (List.range' 0 n) (λj=>(bu.setIfInBounds i true).getD j false) s0:=by
     refine DS.ext' (λt=> ?_) (λx=> ?_)
     ·show (if (U i).dst=some t then some (U i).v else _)=_
      by_cases hl:(U i).dst=some t
      ·have e:=FY U t (λj=>(bu.setIfInBounds i true).getD j false) (λj=>(bu.setIfInBounds i true).getD j false&&decide (j<=i)) (List.range' 0 n) s0 s0 rfl (λj hj mL=>by
        have hjn:j<n:=by simp[ov] at hj;exact hj
        by_cases hle:j<=i
        ·simp[hle]
        ·cases vR:(bu.setIfInBounds i true).getD j false with
         |false=>simp
         |true=>
          rw[iN,aM (by omega)] at vR
          exact absurd mL ((Ah j (by omega) hjn vR).s3 t hl))
       rw[e,YT U _ i n sW EA,aH hl];show _=if (U i).dst=some t then some (U i).v else _
       rw[aH hl]
      ·rw[aM hl];refine FY U t _ _ _ _ _ rfl (λj hj mL=> ?_)
       rw[iN];split
       ·rename_i he;subst he;exact absurd mL hl
       ·rfl
     ·show (if (U i).D x=true then (U i).H x else _)=_
      by_cases hl:(U i).D x=true
      ·have e:=FZ U x (λj=>(bu.setIfInBounds i true).getD j false) (λj=>(bu.setIfInBounds i true).getD j false&&decide (j<=i)) (List.range' 0 n) s0 s0 rfl (λj hj mL=>by
        have hjn:j<n:=by simp[ov] at hj;exact hj
        by_cases hle:j<=i
        ·simp[hle]
        ·cases vR:(bu.setIfInBounds i true).getD j false with
         |false=>simp
         |true=>
          rw[iN,aM (by omega)] at vR
          have:=(Ah j (by omega) hjn vR).d x hl
          rw[mL] at this;simp at this)
       rw[e,YT U _ i n sW EA,aH hl];show _=if (U i).D x=true then (U i).H x else _
       rw[aH hl]
      ·rw[aM hl];refine FZ U x _ _ _ _ _ rfl (λj hj mL=> ?_)
       rw[iN];split
       ·rename_i he;subst he;exact absurd mL hl
       ·rfl
    have aup:∀j,(bu.setIfInBounds i true).getD j false=true->∀k∈direct ops j,(bu.setIfInBounds i true).getD k false=true:=by
     intro j hj k hk;rw[iN] at hj ⊢;split
     ·rfl
     ·split at hj
      ·rename_i he;subst he;exact hi3 k hk
      ·exact eA j hj k hk
    have akX:((List.range' 0 n).filter (λj=> !(bu.setIfInBounds i true).getD j false)).length=fuel:=by
     have h1:(List.range' 0 n).filter (λj=> !(bu.setIfInBounds i true).getD j false)=((List.range' 0 n).filter (λj=> !bu.getD j false)).erase i:=by
      have xe:((List.range' 0 n).filter (λj=> !bu.getD j false)).Nodup:=List.Pairwise.filter _ List.nodup_range'
      rw[xe.erase_eq_filter,List.filter_filter];refine xy λx hx=> ?_
      rw[iN];by_cases hxi:x=i<;>simp[hxi]
     rw[h1,agh (lr.2 ⟨by simp[ov];exact sW,by rw[uM];rfl⟩),Bv]
     rfl
    have Jb:∀x,frp i x->g1.Z x=none:=by
     intro x hx;by_cases he:g1.Z x=g.Z x
     ·rw[he];exact l6 i sW x hx
     ·obtain ⟨k,k1,k2,k3⟩:=Ds x he;have cY:i≠k:=λe=>by subst e;rw[uM] at k2;simp at k2
      have:=uh (S:=λj=>bu.getD j false=true) eA n k k2 i (hfp i k sW k1 cY x hx k3)
      rw[uM] at this;simp at this
    refine hs m g1 _ _ a1 w1 (wpAnyIn (ot ro) m E.P .any ops Q fuel (bu.setIfInBounds i true)) Q hE1 Bu xd hT hB Jb (λr w' g' q1 q2 q3 q4=> ?_)
    rw[<-aum] at q1 ⊢;have e1:jg (eR U (List.range' 0 n) (λj=>bu.getD j false) s0).T (U i).dst (U i).v=(eR U (List.range' 0 n) (λj=>(bu.setIfInBounds i true).getD j false) s0).T:=by rw[<-PK];rfl
    have e2:kP (U i).D (U i).H (eR U (List.range' 0 n) (λj=>bu.getD j false) s0).F=(eR U (List.range' 0 n) (λj=>(bu.setIfInBounds i true).getD j false) s0).F:=by rw[<-PK];rfl
    rw[e1] at q1;rw[e2] at q2 q3;refine ih (bu.setIfInBounds i true) _ w' g' (by simpa using mD) aup akX (hE1.mono q3.le) q1 q2 (CD.trans q3) (by rw[put_defers];exact hdf) (λx hx=> ?_) ?_
    ·by_cases hn:newp i x
     ·exact ⟨i,sW,EA,hn⟩
     rw[q4 x hn] at hx;obtain ⟨k,k1,k2,k3⟩:=Ds x hx;refine ⟨k,k1,?_,k3⟩;rw[iN];split
     ·rfl
     ·exact k2
    ·intro j hj;rw[iN] at hj;split at hj
     ·rename_i e;subst e;exact hSi
     ·exact zO j hj
 refine wpIn_region_any (F:=ot ro) Br (key ops.size _ a _ g (by simp[n]) ?_ ?_ hE ?_ ?_ ?_ rfl (λx hx=>absurd rfl hx) ?_)
 ·intro j hj;simp[ma,xx] at hj;split at hj<;>simp at hj
 ·have:(List.range' 0 n).filter (λj=> !(Array.replicate ops.size false).getD j false)=List.range' 0 n:=vA.2 λx hx=>by
   simp[ma,xx];split<;>simp
  rw[this];simp[n]
 rotate_left 3
 ·intro j hj;simp[ma,xx] at hj;split at hj<;>simp at hj
 all_goals
  have hs0:eR U (List.range' 0 n) (λj=>(Array.replicate ops.size false).getD j false) s0=s0:=by
   unfold eR;have:(List.range' 0 n).filter (λj=>(Array.replicate ops.size false).getD j false)= []:=sr.2 λx hx=>by
    simp[ma,xx];split<;>simp
   rw[this];rfl
  rw[hs0]
 ·exact dY
 ·exact hr.EG rfl
 ·exact Fr.EG rfl rfl rfl rfl
end
section
variable {E:Env} {g:Gh} {f:Hf} {w:World}
variable {W:Nat}
def force_eq (m:Nat) (k:Nat->O):force m k=k m:=by cases m<;>rfl
def acj (m i:Nat):rO m i=true↔m.testBit i=true:=by
 unfold rO;rw[beq_iff];show (m>>>i) &&& 1=1↔_;rw[Nat.and_one_is_mod,Nat.testBit_eq_decide_div_mod_eq,Nat.shiftRight_eq_div_pow];simp
def Wm {ops:dE} (h:ops[j]? =some o):direct ops j=l8 o:=by simp[direct,h]
def G2 {ops:dE}:∀(n m j:Nat),n<=m->∀i∈mm ops n j,i∈mm ops m j
 |0,m,j,_,i,h=>by simp[mm] at h
 |n+1,0,j,hle,_,_=>by omega
 |n+1,m+1,j,hle,i,h=>by
  simp only[mm,eO,tS] at h ⊢;rcases h with h|⟨d,hd,h⟩
  ·exact .inl h
  ·exact .inr ⟨d,hd,G2 n m d (by omega) i h⟩
def JS (ops:dE) (W M j:Nat):Prop:=∀p,M.testBit p=true->∃i b,i<j/\b<W/\p=i*W+b/\b∈mm ops (i+1) i
def atj {i' b':Nat} (h:i*W+b=i'*W+b') (h1:b<W) (h2:b'<W):i=i'/\b=b':=by
 have e1:(i*W+b) / W=i:=by rw[Nat.mul_comm,Nat.mul_add_div (by omega),Nat.div_eq_of_lt h1];omega
 have e2:(i'*W+b') / W=i':=by rw[Nat.mul_comm,Nat.mul_add_div (by omega),Nat.div_eq_of_lt h2];omega
 have:i=i':=by rw[<-e1,<-e2,h]
 subst this;exact ⟨rfl,by omega⟩
def MK {ops:dE} {W M j:Nat} (hM:JS ops W M j) {x:Nat}:∀(ds:bq),(nU W M ds).testBit x=true->∃i∈ds,x=i\/(i<j/\x∈mm ops (i+1) i)
 | [],h=>by simp[nU] at h
 |d::ds,h=>by
  have h:(nU W M ds|||((1<<<d)|||((M>>>(d*W)) % 2 ^ W))).testBit x=true:=h;rw[Sq,Sq,pC,pC] at h;rcases h with h|h|h
  ·obtain ⟨i,hi,h⟩:=MK hM ds h;exact ⟨i,by simp[hi],h⟩
  ·rw[Nat.shiftLeft_eq,pq,Nat.testBit_two_pow] at h;exact ⟨d,by simp,.inl (by simpa using h.symm:d=x).symm⟩
  ·rw[agb,bF,Nat.testBit_shiftRight] at h;obtain ⟨h1,h2⟩:=h;obtain ⟨i,b,q1,q2,q3,q4⟩:=hM _ h2;have hx:x<W:=by simpa using h1
   obtain ⟨rfl,rfl⟩:=atj q3 hx q2;exact ⟨d,by simp,.inr ⟨q1,q4⟩⟩
def CZ {j:Nat}:∀{l:bq},C0 j l=true->∀i∈l,i<j
 | [],_,i,hi=>by simp at hi
 |x::l,h,i,hi=>by
  unfold C0 at h;rw[bG] at h;split at h
  ·rename_i hx;rcases cH.1 hi with rfl|hi
   ·exact (bV _ _).1 hx
   ·exact CZ h i hi
  ·simp at h
def We {ops:dE} (hj:ops[j]? =some o) (hM:JS ops W M j):
  (∀x,(Nat.mod (nU W M (l8 o)) (Nat.pow 2 W)).testBit x=true->x<W/\x∈mm ops (j+1) j)/\
  JS ops W (Nat.lor M (Nat.shiftLeft (Nat.mod (nU W M (l8 o)) (Nat.pow 2 W)) (Nat.mul j W))) (j+1):=by
 have hdir:=Wm hj;have hbit:∀x,(nU W M (l8 o) % 2 ^ W).testBit x=true->x<W/\x∈mm ops (j+1) j:=by
  intro x hx;rw[agb,bF] at hx;refine ⟨by simpa using hx.1,?_⟩
  obtain ⟨i,hi,h⟩:=MK hM (l8 o) hx.2;rw[<-hdir] at hi;simp only[mm,eO,tS];rcases h with rfl|⟨q1,q2⟩
  ·exact .inl hi
  ·exact .inr ⟨i,hi,G2 (i+1) j i (by omega) x q2⟩
 refine ⟨hbit,λp hp=> ?_⟩
 have hp:(M|||((nU W M (l8 o) % 2 ^ W)<<<(j*W))).testBit p=true:=hp;rw[Sq,pC] at hp;rcases hp with hp|hp
 ·obtain ⟨i,b,q1,q2,q3,q4⟩:=hM p hp;exact ⟨i,b,by omega,q2,q3,q4⟩
 ·rw[Nat.testBit_shiftLeft,bF] at hp;obtain ⟨p1,p2⟩:=hp;obtain ⟨q1,q2⟩:=hbit _ p2;have p1:j*W<=p:=by simpa using p1
  exact ⟨j,p-j*W,by omega,q1,by omega,q2⟩
def qd (x:Nat):∀(l:bq),lO x l=true↔x∈l
 | []=>by simp[lO]
 |y::l=>by
  unfold lO;rw[bG,beq_eq];by_cases h:x=y
  ·simp[h]
  ·simp only[h,aX,aC,aA,cH,false_or];exact qd x l
def rL:∀{l m:bq},o5 l m=true->∀x∈l,x∉m
 | [],_,_,x,hx=>by simp at hx
 |y::l,m,h,x,hx=>by
  unfold o5 at h;rw[bG] at h;split at h
  ·simp at h
  ·rename_i hm;rcases cH.1 hx with rfl|hx
   ·exact λhc=>hm ((qd _ _).2 hc)
   ·exact rL h x hx
def vN {lo hi:Nat}:∀{l:bq},IG lo hi l=true->∀x∈l,x<lo\/hi<=x
 | [],_,x,hx=>by simp at hx
 |y::l,h,x,hx=>by
  unfold IG at h;rw[bG,bG] at h;split at h
  ·rename_i h1;rcases cH.1 hx with rfl|hx
   ·exact .inl ((bV _ _).1 h1)
   ·exact vN h x hx
  ·split at h
   ·rename_i h1;rcases cH.1 hx with rfl|hx
    ·exact .inr ((bV _ _).1 h1)
    ·exact vN h x hx
   ·simp at h
def aaK {l:bq} (h:akp l=true):l= []:=by
 cases l with
 |nil=>rfl
 |cons _ _=>simp[akp] at h
def uZ {m:Nat} {r:Rc}:∀{ps:List Rc},qh m r ps=true->∀p∈ps,rO m p.i=true\/PJ p r=true
 | [],_,p,hp=>by simp at hp
 |q::ps,h,p,hp=>by
  unfold qh at h;rw[bG,bG] at h;split at h
  ·rename_i h1;rcases cH.1 hp with rfl|hp
   ·exact .inl h1
   ·exact uZ h p hp
  ·split at h
   ·rename_i h1;rcases cH.1 hp with rfl|hp
    ·exact .inr h1
    ·exact uZ h p hp
   ·simp at h
structure Qs (p r:Rc):Prop where
 a1:∀x∈r.rd,x<p.lo\/p.hi<=x
 a2:∀x∈r.wr,x<p.lo\/p.hi<=x
 a3:∀x∈p.rd,x<r.lo\/r.hi<=x
 a4:∀x∈p.wr,x<r.lo\/r.hi<=x
 b1:∀x∈p.rd,x∉r.wr
 b2:∀x∈r.rd,x∉p.wr
 b3:∀x∈p.wr,x∉r.wr
 c1:p.call=true->r.call=false/\r.wr= []
 c2:r.call=true->p.call=false/\p.wr= []
def MV {p r:Rc} (h:PJ p r=true):Qs p r:=by
 unfold PJ at h;simp only[bF] at h;obtain ⟨h1,h2,h3,h4,h5,h6,h7,h8⟩:=h;refine ⟨vN h1,vN h2,vN h3,vN h4,rL h5,rL h6,rL h7,λhp=> ?_,λhr=> ?_⟩
 ·rw[hp] at h8;cases hr:r.call with
  |true=>rw[hr] at h8;cases h8
  |false=>rw[hr] at h8;exact ⟨rfl,aaK h8⟩
 ·rw[hr] at h8;cases hp:p.call with
  |true=>rw[hp] at h8;cases h8
  |false=>rw[hp] at h8;exact ⟨rfl,aaK h8⟩
def agi:∀(xs:List Operand),YN xs=xs.filterMap fun| .tmp t=>some t|_=>none
 | []=>rfl
 |x::xs=>by
  have ih:=agi xs;cases x<;>simp[YN,ih]
def Gq (ops:dE) (o:Oper):looks ops.toList o=o.looksAt ops:=by
 unfold looks Oper.looksAt;rw[agi];cases hg:o.guard with
 |none=>rfl
 |some p=>
  obtain ⟨j,b⟩:=p;simp only[Co,lx];rfl
def zh {all:dd} {m:Nat} {r:Oper}:∀{k:Nat} {ps:dd},A3 all m r k ps=true->ps.length=k+1\/ps= []->∀j p,ps[j]? =some p->rO m (k-j)=true\/we all p r=true
 |k,[],_,_,j,p,hp=>by simp at hp
 |k,q::ps,h,hl,j,p,hp=>by
  unfold A3 at h;rw[bG,bG] at h;have xg:ps.length=Nat.sub k 1+1\/ps= []:=by
   rcases hl with hl|hl
   ·simp at hl;cases k with
    |zero=>exact .inr (sq (by omega))
    |succ k=>exact .inl (by show ps.length=k+1-1+1;omega)
   ·simp at hl
  have hk:∀(j:Nat),ps[j]? =some p->Nat.sub k 1-j=k-(j+1):=λj _=>by show k-1-j=k-(j+1);omega
  split at h
  ·rename_i h1;cases j with
   |zero=>simp at hp;subst hp;exact .inl h1
   |succ j=>simp at hp;have:=zh h xg j p hp;rw[hk j hp] at this;exact this
  ·split at h
   ·rename_i h1;cases j with
    |zero=>simp at hp;subst hp;exact .inr h1
    |succ j=>simp at hp;have:=zh h xg j p hp;rw[hk j hp] at this;exact this
   ·simp at h
def Io {ops:dE} {W:Nat}:∀(l:dd) (i M:Nat) (prev:dd),AD W ops.toList l i M prev=true->ops.toList.drop i=l->prev=(ops.toList.take i).reverse->JS ops W M i->
  ∀j,i<=j->j<ops.size->∀k,k<j->∀p r,ops[k]? =some p->ops[j]? =some r->k∈mm ops (j+1) j\/we ops.toList p r=true
 | [],i,M,prev,h,hd,_,_,j,hj,I7,_,_,_,_,_,_=>by
  have:ops.size<=i:=by simpa using hd
  omega
 |o::l,i,M,prev,h,hd,hp,hM,j,hj,I7,k,hk,p,r,hpk,hr=>by
  have hi:i<ops.toList.length:=by
   by_cases hl:i<ops.toList.length
   ·exact hl
   ·rw[po (by omega)] at hd;simp at hd
  rw[qE hi] at hd;obtain ⟨ho,hl⟩:=Ol hd;have hoi:ops[i]? =some o:=by
   have:ops.toList[i]? =some o:=by rw[dJ hi,ho]
   simpa using this
  unfold AD at h;rw[force_eq,bG] at h;split at h
  ·rename_i hs;rw[force_eq] at h;obtain ⟨m1,m2⟩:=We hoi hM;by_cases hji:j=i
   ·subst hji;rw[hoi] at hr;obtain rfl:o=r:=by simpa using hr
    have I3:prev.length=j:=by rw[hp];simp at hi ⊢;omega
    have hg:prev[j-1-k]? =some p:=by
     rw[hp,List.getElem?_reverse (by simp at hi ⊢;omega)]
     simp at hi ⊢;rw[fE (by omega),fa,aH (by omega)]
     have:j-1-(j-1-k)=k:=by omega
     rw[this];simpa using hpk
    rcases zh hs (by
     cases hpp:prev with
     |nil=>exact .inr rfl
     |cons a b=>rw[hpp] at I3;left;simp at I3 ⊢;show b.length=j-1;omega) (j-1-k) p hg with hb|hb
    ·have e:Nat.sub j 1-(j-1-k)=k:=by show j-1-(j-1-k)=k;omega
     rw[e] at hb;exact .inl (m1 k ((acj _ _).1 hb)).2
    ·exact .inr hb
   ·refine Io l (i+1) _ (o::prev) h hl ?_ m2 j (by omega) I7 k hk p r hpk hr
    have:ops.toList.take (i+1)=ops.toList.take i++ [o]:=by
     rw[vy,dJ hi,ho];rfl
    rw[this,List.reverse_append,hp];rfl
  ·simp at h
end
section
variable {E:Env} {g:Gh} {w:World} {nt W base:Nat} {ops:dE}
variable {T:Tf} {a:Act} {Q:Exit->Act->World->Prop}
structure St where
 u:HT
 rc:Rc
 m:Nat
 need:Nat->Prop
 frp:Nat->Prop
 newp:Nat->Prop
instance:Inhabited St:=⟨⟨⟨none,.undef,λ_=>false,λ_=>none⟩,⟨0,false,[],[],0,0⟩,0,λ_=>False,λ_=>False,λ_=>False⟩⟩
structure Cnd (E:Env) (nt W:Nat) (ops:dE) (base i:Nat) (prev:List St) (o:Oper) (T:Tf) (F:Hf) (nx:Nat) (s:St) (nx1:Nat):Prop where
 dst:s.u.dst=o.dst
 step:∀ro,ve E ro nt ops i o T s.need F s.frp s.newp s.u.v s.u.D s.u.H
 lt:∀d∈l8 o,d<i
 mm:∀b,rO s.m b=true->b∈mm ops (i+1) i
 rci:s.rc.i=i
 ind:∀p∈prev,rO s.m p.rc.i=true\/Qs p.rc s.rc
 D:∀x,s.u.D x=true↔(x∈s.rc.wr\/(s.rc.lo<=x/\x<s.rc.hi))
 HE:s.rc.call=false->s.rc.lo=base+i/\s.rc.hi=base+i+1/\nx1=nx/\(∀x,s.need x->x∈s.rc.rd)/\(∀x,s.frp x->x=base+i)/\∀x,s.newp x->x=base+i
 cal:s.rc.call=true->s.rc.lo=nx/\s.rc.hi=nx1/\(∀x,s.need x->F x≠none/\∀p∈prev,rO s.m p.rc.i=false->x≠p.rc.lo)/\(∀x,s.frp x->nx<=x)/\∀x,s.newp x->nx<=x/\x<nx1
 UY:nx<=nx1
 bd:∀x,F x≠none->¬(base+i<=x/\x<base+W)
 base:base+W<=nx
inductive DT (E:Env) (nt W:Nat) (ops:dE) (base:Nat):Nat->List St->dd->Tf->Hf->Nat->Tf->Hf->Nat->List St->Prop
 |nil {i prev T F nx:_}:DT E nt W ops base i prev [] T F nx T F nx prev
 |cons {i prev o l T F nx s nx1 T' F' nx' out:_} (c:Cnd E nt W ops base i prev o T F nx s nx1) (h:DT E nt W ops base (i+1) (s::prev) l (jg T s.u.dst s.u.v) (kP s.u.D s.u.H F) nx1 T' F' nx' out):DT E nt W ops base i prev (o::l) T F nx T' F' nx' out
def VZ (U:Nat->HT) (i j:Nat) (s:DS):eR U (List.range' i (j+1)) (λ_=>true) s=eR U (List.range' (i+1) j) (λ_=>true) (s.app (U i)):=by
 simp[eR,yz]
def DT.steps {prev:List St} {F:Hf} {out:List St} (h:DT E nt W ops base i prev l T F nx T' F' nx' out):prev.length=i->
  out.length=i+l.length/\(∃new,out=new++prev)/\∃NX:Nat->Nat,NX i=nx/\NX (i+l.length)=nx'/\
   (∀j o,l[j]? =some o->∃s,out.reverse[i+j]? =some s/\Cnd E nt W ops base (i+j) (out.drop (out.length-(i+j))) o (eR (λx=>(out.reverse.getD x default).u) (List.range' i j) (λ_=>true) ⟨T,F⟩).T
    (eR (λx=>(out.reverse.getD x default).u) (List.range' i j) (λ_=>true) ⟨T,F⟩).F (NX (i+j)) s (NX (i+j+1)))/\
   (⟨T',F'⟩:DS)=eR (λx=>(out.reverse.getD x default).u) (List.range' i l.length) (λ_=>true) ⟨T,F⟩:=by
 induction h with
 |nil=>
  intro hp;exact ⟨by simpa using hp,⟨[],rfl⟩,λ_=>_,rfl,rfl,by simp,by simp[eR]⟩
 | @cons i prev o l T F nx s nx1 T' F' nx' out c h ih=>
  intro hp;obtain ⟨q1,⟨new,q2⟩,NX,q3,q4,q5,q6⟩:=ih (by simp[hp])
  have hsi:out.reverse[i]? =some s:=by
   rw[q2];rw[List.reverse_append,List.reverse_cons,lu,nP (by simp;omega)]
   simp[hp]
  have hU:(out.reverse.getD i default).u=s.u:=by rw[Kj,hsi];rfl
  have Dw:(⟨T,F⟩:DS).app (out.reverse.getD i default).u=⟨jg T s.u.dst s.u.v,kP s.u.D s.u.H F⟩:=by rw[hU];rfl
  refine ⟨by simp;omega,⟨new++ [s],by simp[q2]⟩,λk=>if k=i then nx else NX k,by simp,?_,?_,?_⟩
  ·simp only[kq];rw[aM (by omega)]
   rw[<-q4];congr 1;omega
  ·intro j o' ho;cases j with
   |zero=>
    simp at ho;subst ho;refine ⟨s,by simpa using hsi,?_⟩
    have e1:(if i+0+1=i then nx else NX (i+0+1))=nx1:=by rw[aM (by omega)];exact q3
    have e2:(if i+0=i then nx else NX (i+0))=nx:=by simp
    have e3:out.drop (out.length-(i+0))=prev:=by
     rw[q2];have:(new++s::prev).length-(i+0)=(new++ [s]).length:=by simp;omega
     rw[this,show new++s::prev=(new++ [s])++prev from by simp]
     simp
    simp only[e1,e2,e3];exact c
   |succ j=>
    simp at ho;obtain ⟨s',r1,r2⟩:=q5 j o' ho;refine ⟨s',by rw[<-r1];congr 1;omega,?_⟩
    have a1:i+(j+1)=i+1+j:=by omega
    rw[VZ,Dw,a1];simp only[aM (show ¬i+1+j=i by omega),aM (show ¬i+1+j+1=i by omega)]
    exact r2
  ·rw[kq,VZ,Dw];exact q6
def afy {p r:Oper} (h:we ops.toList p r=true):(∀t,p.dst=some t->t∉r.looksAt ops)/\(∀t,r.dst=some t->t∉p.looksAt ops)/\∀t,p.dst=some t->r.dst≠some t:=by
 unfold we at h;rw[bF,bF,Gq,Gq] at h;obtain ⟨h1,h2,h3⟩:=h;refine ⟨λt ht=>rL h1 t (by simp[ht]),λt ht=>rL h2 t (by simp[ht]),λt ht hr=>rL h3 t (by simp[ht]) (by simp[hr])⟩
def afH {F:Hf} {out:List St} (hs:AD ops.size ops.toList ops.toList 0 0 []=true) (Br:E.P.follows .mixedOrders=true) (hpre:ops.toList.take l0.length=l0) (hdt:DT E nt ops.size ops base 0 [] l0 T F nx T' F' nx' out) (hbn:base<=nx) {id m:Nat} (hE:dV E g) (dY:FR g nt T a.tmps) (hr:HR g F w) (l6:∀x,base<=x->g.Z x=none) (Dt:l0.length=ops.size\/(l0.length+1=ops.size/\(∀d∈direct ops l0.length,d<l0.length)/\(∀j,j<l0.length->j∈mm ops ops.size l0.length)/\∀(g':Gh) (a':Act) (w':World) (K:Act->World->Prop),dV E g'->FR g' nt T' a'.tmps->HR g' F' w'->Fr g F w g' F' w'->a'.defers=a.defers->
   (∀x,x<base->g'.Z x=g.Z x)->(∀x,nx'<=x->g'.Z x=none)->wpOpIn (ot ro) m E.P ops Q l0.length K a' w')) (hq:l0.length=ops.size->∀g' a' w',FR g' nt T' a'.tmps->HR g' F' w'->Fr g F w g' F' w'->a'.defers=a.defers->(∀x,x<base->g'.Z x=g.Z x)->(∀x,nx'<=x->g'.Z x=none)->Q .normal a' w'):(Code.region id ops true).wpIn (ot ro) m E.P Q a w:=by
 obtain ⟨ol,_,NX,n0,n1,cnd,fin⟩:=hdt.steps rfl;simp only[cC] at ol n1 cnd fin;have hnn:l0.length<=ops.size:=by rcases Dt with h|h<;>omega
 have eP:∀j (hj:j<l0.length),l0[j]? =some (ops[j]'(by omega)):=by
  intro j hj;have h1:(ops.toList.take l0.length)[j]? =some (ops[j]'(by omega)):=by
   rw[fa,aH hj];simp[show j<ops.size by omega]
  rw[hpre] at h1;exact h1
 let S:Nat->St:=λx=>out.reverse.getD x default
 have hS:∀j (hj:j<l0.length),Cnd E nt ops.size ops base j (out.drop (out.length-j)) (ops[j]'(by omega)) (eR (λx=>(S x).u) (List.range' 0 j) (λ_=>true) ⟨T,F⟩).T (eR (λx=>(S x).u) (List.range' 0 j) (λ_=>true) ⟨T,F⟩).F (NX j) (S j) (NX (j+1)):=by
  intro j hj;obtain ⟨s,r1,r2⟩:=cnd j (ops[j]'(by omega)) (eP j hj)
  have:S j=s:=by simp only[S,Kj,r1];rfl
  rw[this];exact r2
 have aJF:∀d j,j+d<=l0.length->NX j<=NX (j+d):=by
  intro d;induction d with
  |zero=>intro j _;exact dg _
  |succ d ih=>intro j hj;exact jf (ih j (by omega)) ((hS (j+d) (by omega)).UY)
 have PM:∀j k,j<=k->k<=l0.length->NX j<=NX k:=λj k h1 h2=>by
  have:=aJF (k-j) j (by omega)
  rwa[show j+(k-j)=k by omega] at this
 have xX:∀i j,i<j->j<l0.length->S i∈out.drop (out.length-j):=by
  intro i j CC hj;have hi:i<out.reverse.length:=by simp;omega
  have e:out.drop (out.length-j)=(out.reverse.take j).reverse:=by
   rw[List.take_reverse];simp
  rw[e,List.mem_reverse,List.mem_take_iff_getElem];refine ⟨i,by simp;omega,?_⟩
  simp only[S,Kj,dJ hi,xn]
 have axD:∀i j,i<j->j<l0.length->i∈mm ops ops.size j\/(rO (S j).m i=false/\Qs (S i).rc (S j).rc/\∀p r,ops[i]? =some p->ops[j]? =some r->we ops.toList p r=true):=by
  intro i j CC hj;have ci:=hS i (by omega)
  have cj:=hS j hj;by_cases ha:i∈mm ops ops.size j
  ·exact .inl ha
  ·have hb:rO (S j).m i=false:=by
    cases hb:rO (S j).m i with
    |false=>rfl
    |true=>exact absurd (G2 _ _ _ (by omega) i (cj.mm i hb)) ha
   refine .inr ⟨hb,?_,λp r hp hr=> ?_⟩
   ·rcases cj.ind (S i) (xX i j CC hj) with h|h
    ·rw[ci.rci,hb] at h;simp at h
    ·exact h
   ·rcases Io ops.toList 0 0 [] hs (by simp) (by simp) (λp hp=>by simp at hp) j (qF _) (by omega) i CC p r hp hr with h|h
    ·exact absurd (G2 _ _ _ (by omega) i h) ha
    ·exact h
 have aun:∀j,l0.length<=j->S j=default:=by
  intro j hj;show out.reverse.getD j default=default;rw[Kj,xt (by simp;omega)]
  rfl
 have uq:∀(g':Gh) x,(x<base\/nx'<=x)->(∀y,g'.Z y≠g.Z y->∃k,k<l0.length/\(S k).newp y)->g'.Z x=g.Z x:=by
  intro g' x hx hy;by_cases he:g'.Z x=g.Z x
  ·exact he
  ·exfalso;obtain ⟨i,hi,hn⟩:=hy x he;have ci:=hS i hi;have hbi:=ci.base;have hm0:=PM 0 i (by omega) (by omega)
   have hm1:=PM (i+1) l0.length (by omega) (dg _)
   have hm2:=ci.UY;rw[n0] at hm0;rw[n1] at hm1;cases xi:(S i).rc.call with
   |false=>obtain ⟨_,_,_,_,_,e1⟩:=ci.HE xi;have:=e1 x hn;omega
   |true=>obtain ⟨_,_,_,_,e1⟩:=ci.cal xi;have:=e1 x hn;omega
 have hmm:=PM 0 l0.length (by omega) (dg _)
 rw[n0,n1] at hmm;refine alv (S:=λi=>l0.length<=i) (s0:=⟨T,F⟩) (U:=λx=>(S x).u) (need:=λi=>(S i).need) (frp:=λi=>(S i).frp) (newp:=λi=>(S i).newp) Br (λi hi zO=>⟨(hS i (by omega)).dst,(hS i (by omega)).step ro⟩) (λj hj=> ?_) ?_ hE dY hr ?_ ?_ ?_
 ·by_cases hjn:l0.length<=j
  ·rcases Dt with he|⟨he,h1,h2,_⟩
   ·omega
   ·have e:j=l0.length:=by omega
    subst e;exact ⟨h1,λi CC=>.inl (h2 i CC)⟩
  have hj0:=hj;have hj:j<l0.length:=by omega
  refine ⟨λi hi=> ?_,λi CC=> ?_⟩
  ·rw[Wm (nS hj0)] at hi;exact (hS j hj).lt i hi
  rcases axD i j CC hj with h|⟨hb,hI,Ey⟩
  ·exact .inl h
  ·have sX:i<l0.length:=by omega
   have hi0:i<ops.size:=by omega
   have ci:=hS i sX;have cj:=hS j hj;have hbi:=ci.base;have hbj:=cj.base;obtain ⟨t1,t2,t3⟩:=afy (Ey ops[i] ops[j] (nS hi0) (nS hj0));refine .inr ⟨λt ht o ho=> ?_,λt ht o ho=> ?_,λt ht=> ?_,λx hx=> ?_,λx hx=> ?_,λx hx=> ?_⟩
   ·rw[nS hj0] at ho;cases ho;exact t1 t (by rw[<-ci.dst];exact ht)
   ·rw[nS hi0] at ho;cases ho;exact t2 t (by rw[<-cj.dst];exact ht)
   ·rw[cj.dst];exact t3 t (by rw[<-ci.dst];exact ht)
   ·cases hd:(S j).u.D x with
    |false=>rfl
    |true=>
     exfalso;rcases (ci.D x).1 hx with h1|h1<;>rcases (cj.D x).1 hd with h2|h2
     ·exact hI.b3 x h1 h2
     ·rcases hI.a4 x h1 with h|h<;>omega
     ·rcases hI.a2 x h2 with h|h<;>omega
     ·cases xi:(S i).rc.call with
      |false=>
       obtain ⟨e1,e2,_⟩:=ci.HE xi;cases hcj:(S j).rc.call with
       |false=>obtain ⟨e3,e4,_⟩:=cj.HE hcj;omega
       |true=>obtain ⟨e3,e4,_⟩:=cj.cal hcj;omega
      |true=>
       obtain ⟨e1,e2,_⟩:=ci.cal xi;obtain ⟨e3,_⟩:=hI.c1 xi;obtain ⟨e4,e5,_⟩:=cj.HE e3;omega
   ·cases hd:(S i).u.D x with
    |false=>rfl
    |true=>
     exfalso;cases hcj:(S j).rc.call with
     |false=>
      obtain ⟨_,_,_,e,_⟩:=cj.HE hcj;rcases (ci.D x).1 hd with h1|h1
      ·exact hI.b2 x (e x hx) h1
      ·rcases hI.a1 x (e x hx) with h|h<;>omega
     |true=>
      obtain ⟨_,_,e,_⟩:=cj.cal hcj;obtain ⟨k1,k2⟩:=hI.c2 hcj;obtain ⟨e1,e2,_⟩:=ci.HE k1;rcases (ci.D x).1 hd with h1|h1
      ·rw[k2] at h1;simp at h1
      ·exact (e x hx).2 (S i) (xX i j CC hj) (by rw[ci.rci];exact hb) (by omega)
   ·cases hd:(S j).u.D x with
    |false=>rfl
    |true=>
     exfalso;cases xi:(S i).rc.call with
     |false=>
      obtain ⟨_,_,_,e,_⟩:=ci.HE xi;rcases (cj.D x).1 hd with h1|h1
      ·exact hI.b1 x (e x hx) h1
      ·rcases hI.a3 x (e x hx) with h|h<;>omega
     |true=>
      obtain ⟨_,_,e,_⟩:=ci.cal xi;obtain ⟨k1,k2⟩:=hI.c1 xi;obtain ⟨e1,e2,_⟩:=cj.HE k1;rcases (cj.D x).1 hd with h1|h1
      ·rw[k2] at h1;simp at h1
      ·exact ci.bd x (e x hx).1 ⟨by omega,by omega⟩
 ·intro i k hi hk cY x hx hn;by_cases wB:l0.length<=i
  ·have hx:(S i).frp x:=hx;rw[aun i wB] at hx;exact hx.elim
  by_cases EF:l0.length<=k
  ·have hn:(S k).newp x:=hn;rw[aun k EF] at hn;exact hn.elim
  have hi:i<l0.length:=by omega
  have hk:k<l0.length:=by omega
  have ci:=hS i hi;have ck:=hS k hk;have hbi:=ci.base;have hbk:=ck.base;cases xi:(S i).rc.call with
  |false=>
   obtain ⟨_,_,_,_,e1,_⟩:=ci.HE xi;have:=e1 x hx;cases EH:(S k).rc.call with
   |false=>obtain ⟨_,_,_,_,_,e2⟩:=ck.HE EH;have:=e2 x hn;omega
   |true=>obtain ⟨_,_,_,_,e2⟩:=ck.cal EH;have:=e2 x hn;omega
  |true=>
   obtain ⟨_,_,_,e1,_⟩:=ci.cal xi;have h1:=e1 x hx;cases EH:(S k).rc.call with
   |false=>obtain ⟨_,_,_,_,_,e2⟩:=ck.HE EH;have:=e2 x hn;omega
   |true=>
    obtain ⟨_,_,_,_,e2⟩:=ck.cal EH;have h2:=e2 x hn;rcases Nat.lt_or_gt_of_ne cY with cV|hgt
    ·rcases axD i k cV hk with h|⟨_,hI,_⟩
     ·exact h
     ·have:=(hI.c1 xi).1;rw[EH] at this;simp at this
    ·have:=PM (k+1) i (by omega) (by omega)
     omega
 ·intro i hi x hx;by_cases wB:l0.length<=i
  ·have hx:(S i).frp x:=hx;rw[aun i wB] at hx;exact hx.elim
  have hi:i<l0.length:=by omega
  have ci:=hS i hi;have hbi:=ci.base;cases xi:(S i).rc.call with
  |false=>obtain ⟨_,_,_,_,e1,_⟩:=ci.HE xi;exact l6 x (by have:=e1 x hx;omega)
  |true=>obtain ⟨_,_,_,e1,_⟩:=ci.cal xi;exact l6 x (by have:=e1 x hx;omega)
 ·intro i hi hSi;rcases Dt with he|⟨he,_,h2,h3⟩
  ·have hSi:l0.length<=i:=hSi;omega
  ·have hSi:l0.length<=i:=hSi;have e:i=l0.length:=by omega
   subst e;refine ⟨he,h2,λg1 a1 w1 K q1 q2 q3 q4 q5 q6=> ?_⟩
   have Vb:(⟨T',F'⟩:DS)=eR (λx=>(S x).u) (List.range' 0 l0.length) (λ_=>true) ⟨T,F⟩:=fin
   rw[<-Vb] at q2 q3 q4;exact h3 g1 a1 w1 K q1 q2 q3 q4 q5 (λx hx=>uq g1 x (.inl hx) q6) (λx hx=>by rw[uq g1 x (.inr hx) q6];exact l6 x (by omega))
 ·intro zO g' a' w' h1 h2 h3 h4 h5;have he:l0.length=ops.size:=by
   rcases Dt with he|⟨he,_⟩
   ·exact he
   ·exact absurd (dg _) (zO l0.length (by omega))
  have Vb:(⟨T',F'⟩:DS)=eR (λx=>(S x).u) (List.range' 0 ops.size) (λ_=>true) ⟨T,F⟩:=by rw[<-he];exact fin
  rw[<-Vb] at h1 h2 h3;have h5':∀y,g'.Z y≠g.Z y->∃k,k<l0.length/\(S k).newp y:=by
   intro y hy;apply nu;intro hc;exact hy (h5 y (λi hi hn=>hc ⟨i,by omega,hn⟩))
  exact hq he g' a' w' h1 h2 h3 h4 (λx hx=>uq g' x (.inl hx) h5') (λx hx=>by rw[uq g' x (.inr hx) h5'];exact l6 x (by omega))
end
section
variable {E:Env} {g:Gh} {f:Hf} {w:World} {T:Tf}
variable {a:SV}
def tJ (f:Hf) (new:Nat) (us:dN):Prop:=∀u∈us,u.1=new\/f u.1≠none
def keys_nil:tJ f new []:=λu hu=>by simp at hu
def qf {o:Option SO}:tJ f new [(new,o)]:=λu hu=>by simp at hu;subst hu;exact .inl rfl
def xR {id:Nat} {o:Option SO} (h:f id≠none):tJ f new [(id,o)]:=λu hu=>by simp at hu;subst hu;exact .inr h
def afv (h:rX E f t v a=some us):tJ f new us:=by
 obtain ⟨q,h1,h⟩:=aq h;obtain ⟨i,xs,p,_,_,hp,h⟩:=pY h;obtain ⟨_,h⟩:=aV h;cases h;exact xR (by rw[kU hp];simp)
def VW {k:SV} (h:vh E f t x k v=some us):tJ f new us:=by
 obtain ⟨id,_,h⟩:=aq h;obtain ⟨i,_,h⟩:=aq h;obtain ⟨q,_,h⟩:=aq h;obtain ⟨ik,p,_,hp,h⟩:=bp h;obtain ⟨_,h⟩:=aV h;obtain ⟨r,_,h⟩:=aq h;cases h;exact xR (by rw[yJ hp];simp)
def acq (h:nK E f new t s x=some (v,us)):tJ f new us:=by
 obtain ⟨i,_,h⟩:=aq h;obtain ⟨e,_,h⟩:=aq h;obtain ⟨ie,_,h⟩:=aq (show az (E.ty.get e) _=some (v,us) from h);obtain ⟨_,h⟩:=aV h;obtain ⟨q,_,h⟩:=aq h;obtain ⟨_,h⟩:=aV h;rw[bG] at h;split at h
 ·obtain ⟨_,h⟩:=aV h;cases h;exact keys_nil
 ·cases s with
  |dD=>cases (show some (SV.sl new 0 q.1 (.u e),[(new,some (SO.cells e q.2))])=some (v,us) from h);exact qf
  |sl id off n cap=>
   obtain ⟨_,h⟩:=aV (show aP (Nat.ble n 1000000) (aP (Xm n q.1 cap) (az (mf f id off (Nat.mul n ie.size)) λold=>wk new e (Nat.add n q.1) (old++q.2) []) (bU (nk (f id)) (mf f id off (Nat.mul n ie.size)) λp old=>Qj new e ie.size id off n cap q.1 q.2 p old)) none=some (v,us) from h)
   rw[bG] at h;split at h
   ·obtain ⟨old,_,h⟩:=aq h;cases h;exact qf
   ·obtain ⟨p,old,hp,_,h⟩:=bp h;have hf:f id≠none:=by rw[kU hp];simp
    cases cap with
    |k c=>
     have h:aP (Nat.ble (Nat.add n q.1) c) (aP (Nat.ble (Nat.add off (Nat.mul (Nat.add n q.1) ie.size)) p.2.length) (some (SV.sl id off (Nat.add n q.1) (.k c),[(id,some (SO.cells p.1 (eI p.2 (Nat.add off (Nat.mul n ie.size)) q.2)))])) none)
      (wk new e (Nat.add n q.1) (old++q.2) [])=some (v,us):=h
     rw[bG] at h;split at h
     ·obtain ⟨_,h⟩:=aV h;cases h;exact xR hf
     ·cases h;exact qf
    |u e0=>
     obtain ⟨_,h⟩:=aV (show aP (Nat.ble (Nat.add off (Nat.mul n ie.size)) p.2.length&&Nat.beq e p.1) (wk new e (Nat.add n q.1) (old++q.2) [(id,none)]) none=some (v,us) from h);cases h;intro u hu;simp at hu;rcases hu with rfl|rfl
     ·exact .inr hf
     ·exact .inl rfl
  |_=>cases h
def jZ {r:ee} (h:same r=some (v,us)):tJ f new us:=by
 obtain ⟨z,_,h⟩:=aq h;cases h;exact keys_nil
def aaG {op:Op} (ho:qQ E op T f new=some (v,us)):tJ f new us:=by
 cases op with
 |move x=>
  obtain ⟨y,hy,ho⟩:=aq (show az (cD T x) (λv=>some (v,([]:dN)))=some (v,us) from ho)
  cases ho;exact keys_nil
 |assign x=>
  obtain ⟨y,hy,ho⟩:=aq (show az (cD T x) (λv=>some (v,([]:dN)))=some (v,us) from ho)
  cases ho;exact keys_nil
 |pick c x y=>
  obtain ⟨cv,hc,ho⟩:=aq (show az (cD T c) (λv=>az (oT v) λb=>one T (aP b x y) λv=>some (v,([]:dN)))=some (v,us) from ho)
  obtain ⟨b,hb,ho⟩:=aq ho;obtain ⟨z,hz,ho⟩:=aq ho;cases ho;exact keys_nil
 |alloc e=>
  obtain ⟨i,hi,ho⟩:=aq (show az (E.ty.get e) (λi=>some (SV.ptr new 0,[(new,some (SO.cells e i.zero))]))=some (v,us) from ho)
  cases ho;exact qf
 |box e x=>
  obtain ⟨y,hy,ho⟩:=aq (show az (cD T x) (Xe new e)=some (v,us) from ho);obtain ⟨cs,hc,ho⟩:=aq ho;cases ho;exact qf
 |build t parts=>
  obtain ⟨gZ,hpc,ho⟩:=aq (show az (kr T parts.toList) (λgZ=>same (EU E t gZ))=some (v,us) from ho)
  exact jZ ho
 |buildSlice t len parts=>
  obtain ⟨gZ,hpc,ho⟩:=aq (show az (kr T parts.toList) (λgZ=>tj E new t len gZ)=some (v,us) from ho)
  obtain ⟨i,hi,ho⟩:=aq ho;obtain ⟨e,he,ho⟩:=aq ho;obtain ⟨ie,hie,ho⟩:=aq ho;obtain ⟨hc,ho⟩:=aV ho;obtain ⟨cs,hf,ho⟩:=aq ho;cases ho;exact qf
 |insert t m k x=>
  obtain ⟨y1,y2,h1,h2,ho⟩:=bp (show bU (cD T m) (cD T k) (λa b=>one T x λc=>unit (vh E f t a b c))=some (v,us) from ho)
  obtain ⟨y3,h3,ho⟩:=aq ho;obtain ⟨us',hu,ho⟩:=aq ho;cases ho;exact VW hu
 |mapUpdate t m k x=>
  obtain ⟨y1,y2,h1,h2,ho⟩:=bp (show bU (cD T m) (cD T k) (λa b=>one T x λc=>unit (vh E f t a b c))=some (v,us) from ho)
  obtain ⟨y3,h3,ho⟩:=aq ho;obtain ⟨us',hu,ho⟩:=aq ho;cases ho;exact VW hu
 |load t x=>
  obtain ⟨y,hy,ho⟩:=aq (show az (cD T x) (λv=>same (oW E f t v))=some (v,us) from ho)
  exact jZ ho
 |store t x y=>
  obtain ⟨y1,y2,h1,h2,ho⟩:=bp (show bU (cD T x) (cD T y) (λa v=>unit (rX E f t v a))=some (v,us) from ho)
  obtain ⟨us',hu,ho⟩:=aq ho;cases ho;exact afv hu
 |nilCheck x=>
  obtain ⟨y,hy,ho⟩:=aq (show az (cD T x) (λv=>same (Pm v))=some (v,us) from ho)
  exact jZ ho
 |binOp op t x y yt=>
  obtain ⟨y1,y2,h1,h2,ho⟩:=bp (show bU (cD T x) (cD T y) (λv u=>same (JE E op t x y v u))=some (v,us) from ho)
  exact jZ ho
 |unOp op t x=>
  obtain ⟨y,hy,ho⟩:=aq (show az (cD T x) (λv=>same (unA op v))=some (v,us) from ho)
  exact jZ ho
 |convert s d x=>
  obtain ⟨y,hy,ho⟩:=aq (show az (cD T x) (λv=>same (LJ E s d v))=some (v,us) from ho)
  exact jZ ho
 |makeFunc fn first eG=>
  obtain ⟨jn,ho⟩:=aV (show aP (UU fn) (bU (fT T first.toList) (fT T eG.toList) λl m=>some (SV.fn fn l m,([]:dN))) none=some (v,us) from ho)
  obtain ⟨l,m,h1,h2,ho⟩:=bp ho;cases ho;exact keys_nil
 |makeMap t r=>
  cases r with
  |none=>cases (show some (SV.mp new,[(new,some (SO.map [] 0))])=some (v,us) from ho);exact qf
  |some x=>
   obtain ⟨i,y,hi,hy,ho⟩:=bp (show bU (E.ty.get t) (cD T x) (λi v=>bU (Bh i.desc) (kY v) λ_ _=>Po new)=some (v,us) from ho)
   obtain ⟨q,n,hq,I5,ho⟩:=bp ho;cases ho;exact qf
 |makeSlice t l c=>
  obtain ⟨y1,y2,h1,h2,ho⟩:=bp (show bU (cD T l) (cD T c) (λu v=>bU (kY u) (kY v) (Be E new t))=some (v,us) from ho)
  obtain ⟨n1,n2,k1,k2,ho⟩:=bp ho;obtain ⟨i,hi,ho⟩:=aq ho;obtain ⟨e,he,ho⟩:=aq ho;obtain ⟨ie,hie,ho⟩:=aq ho;obtain ⟨hc,ho⟩:=aV ho;cases ho;exact qf
 |slice t x lo hi mx=>
  obtain ⟨y,hy,ho⟩:=aq (show az (cD T x) (λv=>rP (j0 T lo) (j0 T hi) (j0 T mx) λl u m=>same (A4 E t v l u m))=some (v,us) from ho)
  obtain ⟨l,u,m,h1,h2,h3,ho⟩:=pY ho;exact jZ ho
 |fieldAddr s x k=>
  obtain ⟨y,hy,ho⟩:=aq (show az (cD T x) (oo E s k)=some (v,us) from ho);obtain ⟨i,p,hi,hp,ho⟩:=bp ho;obtain ⟨fs,Ja,ho⟩:=aq ho;obtain ⟨fl,yV,ho⟩:=aq ho;obtain ⟨fi,hfi,ho⟩:=aq ho;obtain ⟨hc,ho⟩:=aV ho;cases ho;exact keys_nil
 |field t x k=>
  obtain ⟨y,hy,ho⟩:=aq (show az (cD T x) (xN E t k)=some (v,us) from ho);obtain ⟨i,cs,hi,hp,ho⟩:=bp ho;obtain ⟨fs,Ja,ho⟩:=aq ho;obtain ⟨fl,yV,ho⟩:=aq ho;obtain ⟨fi,hfi,ho⟩:=aq ho;exact jZ ho
 |indexAddr t x ix=>
  obtain ⟨y1,y2,h1,h2,ho⟩:=bp (show bU (cD T x) (cD T ix) (λv u=>az (kY u) λk=>same (og E t v k))=some (v,us) from ho)
  obtain ⟨n,I5,ho⟩:=aq ho;exact jZ ho
 |index t x ix=>
  obtain ⟨y1,y2,h1,h2,ho⟩:=bp (show bU (cD T x) (cD T ix) (λv u=>az (kY u) λk=>vM E t k v)=some (v,us) from ho)
  obtain ⟨n,I5,ho⟩:=aq ho;obtain ⟨i,hi,ho⟩:=aq ho;generalize i.desc=D at ho;cases D with
  |string=>
   obtain ⟨s,hs,ho⟩:=aq (show az (strOf y1) (λs=>az (s.data.toList[n]?) λb=>some (SV.int .u8 (.lit (.ofNat b.toNat)),([]:dN)))=some (v,us) from ho)
   obtain ⟨b,hb,ho⟩:=aq ho;cases ho;exact keys_nil
  |array m e=>
   obtain ⟨cs,ie,Jd,hie,ho⟩:=bp (show bU (G4 y1) (E.ty.get e) (λcs ie=>aP (Nat.ble (Nat.succ n) m) (same (ia ie cs (Nat.mul n ie.size))) none)=some (v,us) from ho)
   obtain ⟨hc,ho⟩:=aV ho;exact jZ ho
  |_=>cases ho
 |lookup t x k ok=>
  obtain ⟨y1,y2,h1,h2,ho⟩:=bp (show bU (cD T x) (cD T k) (λa b=>same (sF E f t a b ok))=some (v,us) from ho)
  exact jZ ho
 |range t x=>
  obtain ⟨y,hy,ho⟩:=aq (show az (cD T x) (vL E f new t)=some (v,us) from ho);obtain ⟨i,hi,ho⟩:=aq ho;obtain ⟨q,hq,ho⟩:=aq ho;cases ho;exact qf
 |next it tu=>
  obtain ⟨y,hy,ho⟩:=aq (show az (cD T it) (yH f tu)=some (v,us) from ho);obtain ⟨hs,ho⟩:=aV ho;obtain ⟨id,iI,ho⟩:=aq ho;obtain ⟨p,hp,ho⟩:=aq ho;have ho:some (xO id p)=some (v,us):=ho;unfold xO at ho;rw[bG] at ho;split at ho
  ·cases ho;exact xR (by rw[PB hp];simp)
  ·cases ho;exact keys_nil
 |extract x i=>
  obtain ⟨y,hy,ho⟩:=aq (show az (cD T x) (λv=>az (Oq v) λvs=>same (vs[i]?))=some (v,us) from ho)
  obtain ⟨vs,wA,ho⟩:=aq ho;exact jZ ho
 |call c=>
  have ho:rZ E T f new c=some (v,us):=ho;unfold rZ at ho;split at ho
  ·rename_i b hb;obtain ⟨aa,has,ho⟩:=aq ho;cases b with
   |len=>
    obtain ⟨x,t,h1,h2,ho⟩:=bp (show bU aa.head? c.argTypes.toList.head? (λx t=>aP (Nat.beq aa.length 1) (az (E.ty.get t) λi=>same (xQ i.desc x f)) none)=some (v,us) from ho)
    obtain ⟨hl,ho⟩:=aV ho;obtain ⟨i,hi,ho⟩:=aq ho;exact jZ ho
   |append=>
    obtain ⟨p,q,h1,h2,ho⟩:=bp (show bU (uB aa) (uB c.argTypes.toList) (λp q=>az (E.ty.get q.2) λi=>aP (Iw i.desc) (nK E f new q.1 p.1 p.2) none)=some (v,us) from ho)
    obtain ⟨i,hi,ho⟩:=aq ho;obtain ⟨hr,ho⟩:=aV ho;exact acq ho
   |min=>
    obtain ⟨p,h1,ho⟩:=aq (show az (uB aa) (λp=>same (IL E false p.1 p.2))=some (v,us) from ho)
    exact jZ ho
   |max=>
    obtain ⟨p,h1,ho⟩:=aq (show az (uB aa) (λp=>same (IL E true p.1 p.2))=some (v,us) from ho)
    exact jZ ho
   |_=>cases ho
  ·cases ho
 |_=>cases ho
end
section
variable {E:Env} {g:Gh} {f:Hf} {w:World}
variable {nt:Nat} {D:Nat->Bool} {T:Tf}
def Pv (F:Fence) (n:Nat) (P:Program) (c:Code) (Q:Exit->Act->World->Prop) (a:Act) (w:World):Prop:=
 ∀(b:Frame) (k:List Item) (cs:List Frame),b.roundOf=F.round->F.fn b.fn->F.room (cs.length+1+n)->
  ∃e a' w',Q e a' w'/\ArrivesIn (Machine.fenced P F) P (lone (b.atR a (.code c:: .inLoop c::k)) cs w) b k cs e a' w'
def wpX (F:Fence) (n:Nat) (P:Program) (c:Code) (Q:Exit->Act->World->Prop) (a:Act) (w:World):Prop:=
 match c with
 | .loop b=>Pv F n P b Q a w
 |c=>c.wpIn F n P Q a w
inductive ExR (g:Gh):Ex->Exit->Prop
 |normal:ExR g .normal .normal
 |exit (id:_):ExR g (.exit id) (.exit id)
 |ret:ExR g .ret .ret
 |fR {v u:_} (h:VR g u v):ExR g (.fR v) (.panic [{v:=u,recovered:=false}])
inductive Marks (g:Gh):List Dm->List Deferred->Prop
 |nil:Marks g [] []
 |mark {d mk r o ds:_} (h:g.Z d=some (r,o)) (ht:Marks g mk ds):Marks g (.mark d::mk) ({target:=.collected r,args:= #[]}::ds)
 |fn {k aa ca mk ds:_} {us cs:hY} (h1:j6 g us.toList aa) (h2:j6 g cs.toList ca) (ht:Marks g mk ds):Marks g (.fn k aa ca::mk) ({target:=.fn (.func k) cs,args:=us}::ds)
def Marks.mono {g:Gh} (hle:g.le g'):∀{mk:List Dm} {ds:List Deferred},Marks g mk ds->Marks g' mk ds
 |_,_,.nil=>.nil
 |_,_,.mark h ht=>.mark (hle.Z _ _ h) (ht.mono hle)
 |_,_,.fn h1 h2 ht=>.fn (h1.mono hle) (h2.mono hle) (ht.mono hle)
def Bd (h:Hs):Prop:=∀x,h.nx<=x->h.hp.get x=none
structure p9 (h h':Hs):Prop where
 nx:h.nx<=h'.nx
 bd:Bd h'
 lg:∀x,x<h.nx->x∉h'.lg->h'.hp.get x=h.hp.get x
 sub:∀x∈h.lg,x∈h'.lg
 dead:∀x,x<h.nx->h.hp.get x=none->h'.hp.get x=none
def p9.refl {h:Hs} (hb:Bd h):p9 h h:=⟨dg _,hb,λ_ _ _=>rfl,λ_ h=>h,λ_ _ h=>h⟩
def p9.trans {a b c:Hs} (h:p9 a b) (k:p9 b c):p9 a c:=
 ⟨jf h.nx k.nx,k.bd,λx hx hn=>(k.lg x (my hx h.nx) hn).trans (h.lg x hx (λhc=>hn (k.sub x hc))),λx hx=>k.sub x (h.sub x hx),λx hx hn=>k.dead x (my hx h.nx) (h.dead x hx hn)⟩
def oU (h:Hs) (mk mk':List Dm):Prop:=mk.length<=mk'.length/\∀x,Dm.mark x∈mk'->Dm.mark x∈mk\/h.nx<=x
def oU.refl (h:Hs) (mk:List Dm):oU h mk mk:=⟨dg _,λ_ hx=>.inl hx⟩
def oU.trans {mk IK mk2:List Dm} (f1:h.nx<=h1.nx) (l1:oU h mk IK) (l2:oU h1 IK mk2):oU h mk mk2:=
 ⟨jf l1.1 l2.1,λx hx=>(l2.2 x hx).elim (l1.2 x) λhx=>.inr (jf f1 hx)⟩
def amr (nt:Nat) (g:Gh) (h:Hs) (w:World) (Q:Exit->Act->World->Prop) (o:Oc):Prop:=
 ∀g' a' w' x,ExR g' o.e x->FR g' nt o.tm.get a'.tmps->HR g' o.h.hp.get w'->Fr g h.hp.get w g' o.h.hp.get w'->Marks g' o.dm a'.defers->(∀x,o.h.nx<=x->g'.Z x=none)->(∀x,x<h.nx->g'.Z x=g.Z x)->Q x a' w'
def kj (E:Env) (nt:Nat) (c:Code) (tm:de) (mk:List Dm) (h:Hs) (l:List Oc):Prop:=
 l≠ []/\(∀o∈l,p9 h o.h/\oU h mk o.dm)/\
 ∀(ro:bP) (m:Nat) (g:Gh) (a:Act) (w:World) (Q:Exit->Act->World->Prop),codeOk c=true->(ro=none\/∀o∈l,o.dm.length=mk.length)->dV E g->FR g nt tm.get a.tmps->HR g h.hp.get w->Marks g mk a.defers->(∀x,h.nx<=x->g.Z x=none)->
  (∀o∈l,amr nt g h w Q o)->wpX (ot ro) m E.P c Q a w
def OpsS (E:Env) (nt:Nat) (ops:dE) (l:dd) (tm:de) (mk:List Dm) (h:Hs) (r:List Oc):Prop:=
 r≠ []/\(∀o∈r,p9 h o.h/\oU h mk o.dm)/\
 ∀(ro:bP) (m:Nat) (g:Gh) (a:Act) (w:World) (Q:Exit->Act->World->Prop),(ro=none\/∀o∈r,o.dm.length=mk.length)->dV E g->FR g nt tm.get a.tmps->HR g h.hp.get w->Marks g mk a.defers->(∀x,h.nx<=x->g.Z x=none)->
  (∀o∈r,amr nt g h w Q o)->wpOpsIn (ot ro) m E.P ops Q (List.range' (ops.size-l.length) l.length) a w
structure FacD (base i W:Nat) (h h':Hs):Prop where
 nx:h.nx<=h'.nx
 bd:Bd h'
 lg:∀x,x<h.nx->¬(base+i<=x/\x<base+W)->x∉h'.lg->h'.hp.get x=h.hp.get x
 sub:∀x∈h.lg,x∈h'.lg
 dead:∀x,x<h.nx->¬(base+i<=x/\x<base+W)->h.hp.get x=none->h'.hp.get x=none
def Sound (E:Env):lH->Out->Prop
 | .code nt c tm mk h,.db l=>Bd h->kj E nt c tm mk h l
 | .ops nt all l tm mk h,.db r=>∀ops:dE,ops.toList=all->ops.toList.drop (ops.size-l.length)=l->Bd h->OpsS E nt ops l tm mk h r
 | .draw nt W all base i M prev l tm h,.st w5 h'=>∀ops:dE,ops.toList=all->W=ops.size->ops.toList.drop i=l->base+W<=h.nx->Bd h->(∀x,h.hp.get x≠none->¬(base+i<=x/\x<base+W))->JS ops W M i->(∀p∈prev,p.call=false->p.hi=p.lo+1/\p.lo<base+W)->
   ∀ps:List St,ps.map (·.rc)=prev->FacD base i W h h'/\∃out,DT E nt W ops base i ps l tm.get h.hp.get h.nx w5.get h'.hp.get h'.nx out
 | .call fv aa h,.ir l=>Bd h->l≠ []/\(∀r∈l,p9 h r.h)/\yf E fv aa h.hp.get h.nx l
 |_,_=>True
structure BP (w w':World):Prop where
 os:w'.os=w.os
 tape:w'.tape=w.tape
 output:w'.output=w.output
 size:w.heap.size<=w'.heap.size
 heap:∀b,b<w.heap.size->w'.heap[b]? =w.heap[b]?
def N2 (P:Program) (k:FuncId):Prop:=∃fn,P.funcs[k]? =some fn/\fn.body.isSome=true/\fn.name≠ "runtime.NumGoroutine"
def JV (P:Program) (k:FuncId) (v:SV):Prop:=
 N2 P k/\∀m w,CallsIn Fence.wide m P k #[] w λe w'=>∃r,e= .returned r/\(∀g,VR g r v)/\BP w w'
structure Wr (w w':World) (b:Nat) (e:TypeId) (iV:hY):Prop where
 heap:w'.heap[b]? =some (.cells iV e (0,0))
 size:w'.heap.size=w.heap.size
 HF:∀k,k≠b->w'.heap[k]? =w.heap[k]?
 os:w'.os=w.os
 tape:w'.tape=w.tape
 output:w'.output=w.output
structure Nw (w w':World) (e:TypeId) (iV:hY):Prop where
 heap:w'.heap=w.heap.push (.cells iV e (0,0))
 os:w'.os=w.os
 tape:w'.tape=w.tape
 output:w'.output=w.output
def amP (P:Program) (k:FuncId) (sz:Nat):Prop:=
 N2 P k/\∀(m:Nat) (w:World) (b off n c i j:Nat) (cur:hY) (e:TypeId),w.heap[b]? =some (.cells cur e (0,0))->off+n*sz<=cur.size->(∀t,t<n*sz->∀v,cur[off+t]? =some v->v.oneCell'=true)->i<j->j<=n->n<=c->
  CallsIn Fence.wide m P k #[.slice (some ⟨b,off,none⟩) n c,.int .i64 i,.int .i64 j] w λr w'=>r= .returned (.slice (some ⟨b,off,none⟩) (n-(j-i)) c)/\∃iV,Wr w w' b e iV/\iV.size=cur.size/\
   (∀t,(t<off+i*sz\/off+n*sz<=t)->iV[t]? =cur[t]?)/\(∀t,t<n*sz-j*sz->iV[off+i*sz+t]? =cur[off+j*sz+t]?)/\∀t,t<j*sz-i*sz->∃v,iV[off+i*sz+(n*sz-j*sz)+t]? =some v/\v.oneCell'=true
def ayN (P:Program) (k:FuncId) (e:TypeId) (sz:Nat):Prop:=
 N2 P k/\∀(m:Nat) (w:World) (b off n c i vb jq q vc:Nat) (cur GW:hY) (ev:TypeId),w.heap[b]? =some (.cells cur e (0,0))->w.heap[vb]? =some (.cells GW ev (0,0))->vb≠b->off+c*sz<=cur.size->jq+q*sz<=GW.size->
  (∀t,t<n*sz->∀v,cur[off+t]? =some v->v.oneCell'=true)->(∀t,t<q*sz->∀v,GW[jq+t]? =some v->v.oneCell'=true)->n<=c->n<=1000000->0<q->q<=1000000->i<=n->
  CallsIn Fence.wide m P k #[.slice (some ⟨b,off,none⟩) n c,.int .i64 i,.slice (some ⟨vb,jq,none⟩) q vc] w λr w'=>∃(b' o' c':Nat) (iV:hY),r= .returned (.slice (some ⟨b',o',none⟩) (n+q) c')/\n+q<=c'/\o'+c'*sz<=iV.size/\
   (∀t,t<(n+q)*sz->iV[o'+t]? =(zp ((cur.toList.drop off).take (n*sz)) (i*sz) ((GW.toList.drop jq).take (q*sz)))[t]?)/\((b'=b/\o'=off/\Wr w w' b e iV)\/(b'=w.heap.size/\o'=0/\Nw w w' e iV))
def Qr (P:Program) (k:FuncId) (z:Bool):Prop:=
 N2 P k/\(∀(m:Nat) (w:World) (p:Option Addr) (c:Nat),CallsIn Fence.wide m P k #[.slice p 0 c] w λr w'=>r= .returned (aP z (.tuple #[]) (.slice p 0 c))/\w'.heap=w.heap/\w'.os=w.os/\w'.tape=w.tape/\w'.output=w.output)/\
  ∀(m:Nat) (w:World) (b off c:Nat) (xs:List Int) (cur:hY) (e:TypeId),w.heap[b]? =some (.cells cur e (0,0))->0<xs.length->xs.length<=4294967295->xs.length<=c->(∀t x,xs[t]? =some x->cur[off+t]? =some (.int .i64 x))->
   CallsIn Fence.wide m P k #[.slice (some ⟨b,off,none⟩) xs.length c] w λr w'=>r= .returned (aP z (.tuple #[]) (.slice (some ⟨b,off,none⟩) (kT xs).length c))/\∃w1 iV,Wr w w1 b e iV/\BP w1 w'/\iV.size=cur.size/\
    (∀t,(t<off\/off+xs.length<=t)->iV[t]? =cur[t]?)/\∀t x,(Ae z xs)[t]? =some x->iV[off+t]? =some (.int .i64 x)
def Ap (E:Env) (k c:Nat):Prop:=(1048576<=c->Qr E.P k (Nat.beq c 1048576))/\(c<1048576->∀ie,E.ty.get (c / 2)=some ie->(c % 2=0->amP E.P k ie.size)/\(c % 2≠0->ayN E.P k (c / 2) ie.size))
structure B9 (E:Env):Prop where
 fn:∀k fn,E.fn.get k=some fn->E.P.funcs[k]? =some fn/\Xl fn=true
 ext:∀k fn,E.fn.get k=some fn->fn.body=none->(fn.name== "internal/bytealg.abigen_runtime_cmpstring")=true->Extern.findNext fn=none/\Extern.find fn=some Extern.BytealgCompare.compare
 mix:E.P.follows .mixedOrders=true
 done:∀k v,xZ E k []=some v->JV E.P k v
 prim:∀k c,wi k E.v8=some c->Ap E k c
def alW {a b:Out} (h:acr a b= .db r):∃x y,a= .db x/\b= .db y/\r=x++y:=by
 cases a<;>cases b<;>first|(cases h;done)|(cases h;exact ⟨_,_,rfl,rfl,rfl⟩)
def arN {a b:Out} {r:List Rs} (h:acr a b= .ir r):∃x y,a= .ir x/\b= .ir y/\r=x++y:=by
 cases a<;>cases b<;>first|(cases h;done)|(cases h;exact ⟨_,_,rfl,rfl,rfl⟩)
def uf {J:Type} {k:J->Out}:∀{l:List J} {r:List Oc},wL k l= .db r->l≠ []/\(∀o∈l,∃r',k o= .db r'/\∀x∈r',x∈r)/\∀x∈r,∃o∈l,∃r',k o= .db r'/\x∈r'
 | [],r,h=>by cases h
 | [o],r,h=>by
  have h:k o= .db r:=h;refine ⟨by simp,λo' ho=> ?_,λx hx=>⟨o,by simp,r,h,hx⟩⟩
  obtain rfl:=ez.1 ho;exact ⟨r,h,λ_ hx=>hx⟩
 |o::o'::l,r,h=>by
  obtain ⟨x,y,h1,h2,rfl⟩:=alW (show acr (k o) (wL k (o'::l))= .db r from h);obtain ⟨_,q1,q2⟩:=uf h2;refine ⟨by simp,λz hz=> ?_,λz hz=> ?_⟩
  ·rcases cH.1 hz with rfl|hz
   ·exact ⟨x,h1,λa ha=>by simp[ha]⟩
   ·obtain ⟨r',e1,e2⟩:=q1 z hz;exact ⟨r',e1,λa ha=>by simp[e2 a ha]⟩
  ·rcases eO.1 hz with hz|hz
   ·exact ⟨o,by simp,x,h1,hz⟩
   ·obtain ⟨a,ha,r',e1,e2⟩:=q2 z hz;exact ⟨a,fM _ ha,r',e1,e2⟩
def JC {J:Type} {k:J->Out}:∀{l:List J} {r:List Rs},wL k l= .ir r->l≠ []/\(∀o∈l,∃r',k o= .ir r'/\∀x∈r',x∈r)/\∀x∈r,∃o∈l,∃r',k o= .ir r'/\x∈r'
 | [],r,h=>by cases h
 | [o],r,h=>by
  have h:k o= .ir r:=h;refine ⟨by simp,λo' ho=> ?_,λx hx=>⟨o,by simp,r,h,hx⟩⟩
  obtain rfl:=ez.1 ho;exact ⟨r,h,λ_ hx=>hx⟩
 |o::o'::l,r,h=>by
  obtain ⟨x,y,h1,h2,rfl⟩:=arN (show acr (k o) (wL k (o'::l))= .ir r from h);obtain ⟨_,q1,q2⟩:=JC h2;refine ⟨by simp,λz hz=> ?_,λz hz=> ?_⟩
  ·rcases cH.1 hz with rfl|hz
   ·exact ⟨x,h1,λa ha=>by simp[ha]⟩
   ·obtain ⟨r',e1,e2⟩:=q1 z hz;exact ⟨r',e1,λa ha=>by simp[e2 a ha]⟩
  ·rcases eO.1 hz with hz|hz
   ·exact ⟨o,by simp,x,h1,hz⟩
   ·obtain ⟨a,ha,r',e1,e2⟩:=q2 z hz;exact ⟨a,fM _ ha,r',e1,e2⟩
def Bf {r:Out} {k:Ex->de->List Dm->Hs->Out} {x:List Oc} (h:IF r k= .db x):∃l,r= .db l/\wL (λo:Oc=>k o.e o.tm o.dm o.h) l= .db x:=by
 cases r<;>first|(cases h;done)|exact ⟨_,rfl,h⟩
def afM {r:Out} {k:Ex->de->List Dm->Hs->Out} {x:List Rs} (h:IF r k= .ir x):∃l,r= .db l/\wL (λo:Oc=>k o.e o.tm o.dm o.h) l= .ir x:=by
 cases r<;>first|(cases h;done)|exact ⟨_,rfl,h⟩
def ajW {r:Out} {k:SV->Hs->Out} {x:List Oc} (h:aag r k kp= .db x):∃l,r= .ir l/\wL (λr:Rs=>aP r.fR (kp r.v r.h) (k r.v r.h)) l= .db x:=by
 cases r<;>first|(cases h;done)|exact ⟨_,rfl,h⟩
def aoQ {r:Out} {k:SV->Hs->Out} {x:List Rs} (h:aag r k kp= .ir x):∃l,r= .ir l/\wL (λr:Rs=>aP r.fR (kp r.v r.h) (k r.v r.h)) l= .ir x:=by
 cases r<;>first|(cases h;done)|exact ⟨_,rfl,h⟩
def YG:∀(us:dN) (h:Hs),(∀x∈h.lg,x∈(h.lQ us).lg)/\∀u∈us,u.1∈(h.lQ us).lg
 | [],h=>⟨λ_ hx=>hx,λu hu=>by simp at hu⟩
 |u::us,h=>by
  obtain ⟨h1,h2⟩:=YG us (h.up u);refine ⟨λx hx=>h1 x (fM _ hx),λv hv=> ?_⟩
  rcases cH.1 hv with rfl|hv
  ·exact h1 v.1 (by simp[Hs.up])
  ·exact h2 v hv
def ahU (h:Hs) (us:dN):(h.fin us).hp.get=gx h.hp.get us:=by
 cases us with
 |nil=>rfl
 |cons u us=>exact Ku (u::us) h
def mh {x:Nat} (h:x∉us.map (·.1)) (F:Hf):gx F us x=F x:=by rw[AS us F F x,aM h]
def ahV (hb:Bd h) (hk:tJ h.hp.get h.nx us):p9 h (h.fin us):=by
 cases us with
 |nil=>exact p9.refl hb
 |cons u us=>
  have e:h.fin (u::us)=(h.lQ (u::us)).bump:=rfl;have hn:(h.lQ (u::us)).nx=h.nx:=H7 _ _;have hg:(h.lQ (u::us)).hp.get=gx h.hp.get (u::us):=Ku _ _;have cV:∀v∈u::us,v.1<=h.nx:=λv hv=>by
   rcases hk v hv with h1|h1
   ·omega
   ·by_cases hl:h.nx<=v.1
    ·exact absurd (hb _ hl) h1
    ·omega
  obtain ⟨l1,l2⟩:=YG (u::us) h;refine ⟨?_,λx hx=> ?_,λx hx hl=> ?_,λx hx=>l1 x hx,λx hx hl=> ?_⟩
  ·rw[e];show h.nx<=(h.lQ (u::us)).nx+1;omega
  ·rw[e] at hx ⊢;have hx:(h.lQ (u::us)).nx+1<=x:=hx;show (h.lQ (u::us)).hp.get x=none;rw[hg,mh (λhc=>by obtain ⟨v,hv,rfl⟩:=cP.1 hc;have:=cV v hv;omega)]
   exact hb x (by omega)
  ·rw[e] at hl ⊢;show (h.lQ (u::us)).hp.get x=_;rw[hg,mh (λhc=>by obtain ⟨v,hv,rfl⟩:=cP.1 hc;exact hl (l2 v hv))]
  ·rw[e];show (h.lQ (u::us)).hp.get x=_;rw[hg,mh (λhc=>by
    obtain ⟨v,hv,rfl⟩:=cP.1 hc;rcases hk v hv with h1|h1
    ·omega
    ·exact h1 hl)]
   exact hl
def aaB {ops:dE} (h:ops.toList.drop (ops.size-(o::l).length)=o::l):ops[ops.size-(o::l).length]? =some o/\ops.toList.drop (ops.size-l.length)=l/\ops.size-l.length=ops.size-(o::l).length+1:=by
 have hi:ops.size-(o::l).length<ops.toList.length:=by
  by_cases hl:ops.size-(o::l).length<ops.toList.length
  ·exact hl
  ·rw[po (by omega)] at h;simp at h
 have hlen:(o::l).length<=ops.size:=by
  have:=bM List.length h;simp at this ⊢;omega
 rw[qE hi] at h;obtain ⟨h1,h2⟩:=Ol h;have e:ops.size-l.length=ops.size-(o::l).length+1:=by simp at hlen ⊢;omega
 refine ⟨?_,by rw[e];exact h2,e⟩
 have:ops.toList[ops.size-(o::l).length]? =some o:=by rw[dJ hi,h1]
 simpa using this
def Gj {mk:List Dm} (W:List (de×List Dm×Hs)) (P:List Oc) (Gz:∀(ops:dE) (i:Nat),ops.toList=all->ops[i]? =some o->Bd h->∀(ro:bP) (m:Nat) (g:Gh) (a:Act) (w:World) (K:Act->World->Prop) (Q:Exit->Act->World->Prop),(ro=none\/∀y∈W,y.2.1.length=mk.length)->dV E g->FR g nt tm.get a.tmps->HR g h.hp.get w->Marks g mk a.defers->(∀x,h.nx<=x->g.Z x=none)->
   (∀y∈W,∀g' a' w',FR g' nt y.1.get a'.tmps->HR g' y.2.2.hp.get w'->Fr g h.hp.get w g' y.2.2.hp.get w'->Marks g' y.2.1 a'.defers->(∀x,y.2.2.nx<=x->g'.Z x=none)->(∀x,x<h.nx->g'.Z x=g.Z x)->K a' w')->(∀o∈P,amr nt g h w Q o)->wpOpIn (ot ro) m E.P ops Q i K a w) (abz:Bd h->(∀y∈W,p9 h y.2.2/\oU h mk y.2.1)/\∀o∈P,p9 h o.h/\oU h mk o.dm) (hP:∀o∈P,o∈r) (cY:∀ops:dE,ops.toList=all->ops.toList.drop (ops.size-l.length)=l->Bd h->r≠ []) (il:∀o∈r,o∈P\/∃y∈W,∃r',Sound E (.ops nt all l y.1 y.2.1 y.2.2) (.db r')/\o∈r') (ih:∀y∈W,∃r',Sound E (.ops nt all l y.1 y.2.1 y.2.2) (.db r')/\∀o∈r',o∈r):Sound E (.ops nt all (o::l) tm mk h) (.db r):=by
 intro ops he hd eV;obtain ⟨hi,hd',hidx⟩:=aaB hd;obtain ⟨fW,fP⟩:=abz eV;refine ⟨cY ops he hd' eV,λo ho=> ?_,λro m g a w Q ij hE dY hr vQ eQ hk=> ?_⟩
 ·rcases il o ho with hp|⟨y,hy,r',hs,uK⟩
  ·exact fP o hp
  ·obtain ⟨_,f1,_⟩:=hs ops he hd' (fW y hy).1.bd;exact ⟨(fW y hy).1.trans (f1 o uK).1,oU.trans (fW y hy).1.nx (fW y hy).2 (f1 o uK).2⟩
 ·rw[kq,yz,wpOpsIn_cons];refine Gz ops _ he hi eV ro m g a w _ Q (ij.imp_right λij y hy=> ?_) hE dY hr vQ eQ (λy hy g' a' w' q1 q2 q3 q4 q5 q6=> ?_) (λo ho=>hk o (hP o ho))
  ·obtain ⟨r',hs,uK⟩:=ih y hy;obtain ⟨ND,f1,_⟩:=hs ops he hd' (fW y hy).1.bd;obtain ⟨o',EC⟩:=mG _ ND;have h1:=(fW y hy).2.1;have h2:=(f1 o' EC).2.1;have h3:=ij o' (uK o' EC);omega
  ·obtain ⟨r',hs,uK⟩:=ih y hy;obtain ⟨ND,f1,k1⟩:=hs ops he hd' (fW y hy).1.bd;have:=k1 ro m g' a' w' Q (ij.imp_right λij o' EC=>by
    obtain ⟨o2,ho2⟩:=mG _ ND;have h1:=(fW y hy).2.1;have h2:=(f1 o' EC).2.1;have h3:=ij o' (uK o' EC);omega) (hE.mono q3.le) q1 q2 q4 q5 (λo' EC g2 a2 w2 x s0 s1 s2 s3 s4 s5 s6=>hk o' (uK o' EC) g2 a2 w2 x s0 s1 s2 (q3.trans s3) s4 s5 (λx hx=>by
     rw[s6 x (my hx (fW y hy).1.nx),q6 x hx]))
   rw[hidx] at this;exact this
def aaA {mk:List Dm} (nG:∀(ops:dE) (i:Nat),ops.toList=all->ops[i]? =some o->Bd h->∀ro,ve E ro nt ops i o tm.get need h.hp.get frp newp v D H') (htm:D1.get=jg tm.get o.dst v) (hh:Bd h->h1.hp.get=kP D H' h.hp.get) (hfrp:∀x,frp x->h.nx<=x) (l6:∀x,newp x->h.nx<=x/\x<h1.nx) (abz:Bd h->p9 h h1) (ih:Sound E (.ops nt all l D1 mk h1) out):Sound E (.ops nt all (o::l) tm mk h) out:=by
 cases out with
 |db r=>
  by_cases cY:r= []
  ·intro ops he hd eV;obtain ⟨_,hd',_⟩:=aaB hd;exact absurd cY (ih ops he hd' (abz eV).bd).1
  refine Gj [(D1,mk,h1)] [] (λops i he hi eV ro m g a w K Q ij hE dY hr vQ eQ hk _=> ?_) (λeV=>⟨λy hy=> ?_,λo ho=>by simp at ho⟩) (λo ho=>by simp at ho) (λ_ _ _ _=>cY) (λo ho=>.inr ⟨(D1,mk,h1),by simp,r,ih,ho⟩) (λy hy=> ?_)
  ·refine nG ops i he hi eV ro m g h.hp.get tm.get a w K Q hE dY hr (λ_ _=>rfl) (λ_ _=>rfl) (λx hx=>eQ x (hfrp x hx)) (λr w' g' q1 q2 q3 q4=> ?_)
   rw[<-htm] at q1;rw[<-hh eV] at q2 q3;have CD:=(abz eV).nx;exact hk (D1,mk,h1) (by simp) g' (a.put o.dst r) w' q1 q2 q3 (by rw[put_defers];exact vQ.mono q3.le) (λx hx=>by
    have hx:h1.nx<=x:=hx;rw[q4 x (λhn=>by have:=l6 x hn;omega)]
    exact eQ x (by omega)) (λx hx=>q4 x (λhn=>by have:=l6 x hn;omega))
  ·obtain rfl:=ez.1 hy;exact ⟨abz eV,oU.refl _ _⟩
  ·obtain rfl:=ez.1 hy;exact ⟨r,ih,λ_ h=>h⟩
 |_=>trivial
def uc (us:dN) (new:Nat):Nat->Bool:=λx=>decide (x∈us.map (·.1)\/x=new)
def aBA {mk:List Dm} (hw:gq all o tm.get=some true) (hd:kZ nt o.dst=true) (ho:qQ E o.op tm.get h.hp.get h.nx=some (v,us)) (xe:∀c,o.op≠ .defer c) (ih:Sound E (.ops nt all l (iU tm o.dst v) mk (h.fin us)) out):Sound E (.ops nt all (o::l) tm mk h) out:=by
 refine aaA (need:=λx=>x∈py o.op tm.get) (frp:=λx=>x=h.nx) (newp:=λx=>x=h.nx/\us≠ []) (v:=v) (D:=uc us h.nx) (H':=gx h.hp.get us) (λops i he hi eV ro=> ?_) (ti _ _ _) (λeV=> ?_) (λx hx=>by omega) (λx hx=> ?_) (λeV=>ahV eV (aaG ho)) ih
 ·subst he;exact Dg hi hw hd ho (eV _ (dg _)) (λx=>by simp[uc]) xe
 ·rw[ahU];funext x;unfold kP uc;by_cases h1:x∈us.map (·.1)
  ·rw[aH (by simp only[jW];exact .inl h1)]
  ·rw[mh h1];split<;>rfl
 ·obtain ⟨rfl,cY⟩:=hx;refine ⟨dg _,?_⟩;cases us with
  |nil=>exact absurd rfl cY
  |cons u us=>
   show h.nx<(h.lQ (u::us)).nx+1;rw[H7];omega
def atl {mk:List Dm} (hw:gq all o tm.get=some false) (hd:kZ nt o.dst=true) (ih:Sound E (.ops nt all l (iU tm o.dst (.cS [])) mk h) out):Sound E (.ops nt all (o::l) tm mk h) out:=by
 refine aaA (need:=λ_=>False) (frp:=λx=>x=h.nx) (newp:=λ_=>False) (v:=.cS []) (D:=λx=>decide (x=h.nx)) (H':=h.hp.get) (λops i he hi eV ro=> ?_) (ti _ _ _) (λeV=> ?_) (λx hx=>by omega) (λx hx=>hx.elim) (λeV=>p9.refl eV) ih
 ·subst he;exact step_skip hi hw hd (eV _ (dg _)) (λx=>by simp)
 ·funext x;unfold kP;split<;>rfl
def M0 {op:Op} {c:Call} (h:wM op=some c):op= .call c/\isValue c.callee=true:=by
 cases op<;>first|(cases h;done)|skip
 rename_i c';have h:aP (isValue c'.callee) (some c') none=some c:=h;obtain ⟨h1,h2⟩:=aV h;cases h2;exact ⟨rfl,h1⟩
def GU {op:Op} {r:SV×dN} (h:qQ E op T f new=some r):∀c,op≠ .defer c:=by
 intro c e;subst e;cases h
end
section
variable {E:Env} {g:Gh} {f:Hf} {w:World}
variable {nt since:Nat} {a:Act} {Q:Exit->Act->World->Prop}
def aap {l:Nat} {o o':SO} (hb:Bd h) (hl:h.hp.get l=some o):p9 h (h.put l o'):=by
 have cV:l<h.nx:=by
  by_cases hc:h.nx<=l
  ·rw[hb l hc] at hl;simp at hl
  ·omega
 have hg:∀x,(h.put l o').hp.get x=if x=l then some o' else h.hp.get x:=λx=>Tr.pB _ _ _ _
 refine ⟨dg _,λx hx=> ?_,λx hx hn=> ?_,λx hx=>fM _ hx,λx hx hn=> ?_⟩
 ·have hx:h.nx<=x:=hx;rw[hg,aM (by omega)];exact hb x hx
 ·have hn:x∉l::h.lg:=hn;rw[hg,aM (λe=>hn (by simp[e]))]
 ·rw[hg,aM (λe=>by subst e;rw[hl] at hn;simp at hn)];exact hn
def atd (h:Hs) (l:Nat) (o:SO):(h.put l o).hp.get=jk h.hp.get (l,some o):=funext λx=>Tr.pB _ _ _ _
def aaz {mk IK:List Dm} (hd:kZ nt o.dst=true) (vQ:oU h mk IK) (Gz:∀(ops:dE) (i:Nat),ops.toList=all->ops[i]? =some o->∀(ro:bP) (m:Nat) (g:Gh) (a:Act) (w:World) (K:Act->World->Prop) (Q:Exit->Act->World->Prop),(ro=none\/IK.length=mk.length)->dV E g->FR g nt tm.get a.tmps->HR g h.hp.get w->Marks g mk a.defers->
   (∀a' u,VR g u v->a'.tmps=(a.put o.dst u).tmps->Marks g IK a'.defers->K a' w)->wpOpIn (ot ro) m E.P ops Q i K a w) (ih:Sound E (.ops nt all l (iU tm o.dst v) IK h) (.db r)):Sound E (.ops nt all (o::l) tm mk h) (.db r):=by
 by_cases cY:r= []
 ·intro ops he hd eV;obtain ⟨_,hd',_⟩:=aaB hd;exact absurd cY (ih ops he hd' eV).1
 refine Gj [(iU tm o.dst v,IK,h)] [] (λops i he hi eV ro m g a w K Q ij hE dY hr hmk' eQ hk _=> ?_) (λeV=>⟨λy hy=> ?_,λo ho=>by simp at ho⟩) (λo ho=>by simp at ho) (λ_ _ _ _=>cY) (λo' ho=>.inr ⟨(iU tm o.dst v,IK,h),by simp,r,ih,ho⟩) (λy hy=> ?_)
 ·refine Gz ops i he hi ro m g a w K Q (ij.imp_right λhh=>hh (iU tm o.dst v,IK,h) (by simp)) hE dY hr hmk' (λa' u hu ha hm=> ?_)
  refine hk (iU tm o.dst v,IK,h) (by simp) g a' w ?_ hr (Fr.refl _ _ _) hm eQ (λ_ _=>rfl)
  rw[ti,ha];exact dY.put hd hu
 ·obtain rfl:=ez.1 hy;exact ⟨p9.refl eV,vQ⟩
 ·obtain rfl:=ez.1 hy;exact ⟨r,ih,λ_ h=>h⟩
def afN {op:Op} {x:Operand×Bool} (h:Pn op=some x):(op= .next x.1 false/\x.2=false)\/(op= .entry x.1/\x.2=true):=by
 cases op<;>first|(cases h;done)|skip
 ·rename_i it tu;have h:aP tu none (some (it,false))=some x:=h;cases tu with
  |true=>cases h
  |false=>cases h;exact .inl ⟨rfl,rfl⟩
 ·cases h;exact .inr ⟨rfl,rfl⟩
def Dd {tm:Tf} {ops:dE} (dY:FR g nt tm a.tmps) (hw:gq ops.toList o tm=some true):Region.wanted o (yielded ops a.tmps)=true:=yg dY hw
def akm {ops:dE} {m:Nat} (hi:ops[i]? =some o) (hw:Region.wanted o (yielded ops a.tmps)=true) (h:o.uponIn (ot ro) m E.P a K Q ((o.semAt (ot ro).round a.eval).run E.P w)):wpOpIn (ot ro) m E.P ops Q i K a w:=by
 unfold wpOpIn;rw[hi];simp only;rw[aH hw];exact ⟨Ao E.P w,h⟩
def Wd (x:Nat):∀(l:bq),Gn x l=true↔x∈l
 | []=>by simp[Gn]
 |y::l=>by
  unfold Gn;rw[bG,beq_eq];by_cases h:x=y
  ·simp[h]
  ·simp only[h,aX,aC,aA,cH,false_or];exact Wd x l
def Py {seen:bq} {sa:Array Nat} (hs:sa.toList=seen):∀{ms:List MapEntry} {es:je},iD g ms es->iD g (ms.filter λe=> !sa.contains e.born) (Gs seen es)
 |_,_,.nil=>.nil
 |_,_,.cons (m:=m) (x:=x) (ms:=ms) (xs:=xs) hd ht=>by
  have ih:=Py hs ht;have hc:sa.contains m.born=Gn x.2.2 seen:=by
   rw[ly,Wd,Array.contains_iff_mem,<-Array.mem_toList_iff,hs,hd.2.2]
  unfold Gs at ih ⊢;rw[mz,mz,hc];cases Gn x.2.2 seen with
  |true=>exact ih
  |false=>exact .cons hd ih
def iD.aBE (h:iD g ms es):ms= []↔es= []:=by cases h<;>simp
def iD.mem (h:iD g ms es):∀m∈ms,∃x∈es,amO g m x:=by
 intro m hm;induction h with
 |nil=>simp at hm
 |cons hd ht ih=>
  rcases cH.1 hm with rfl|hm
  ·exact ⟨_,by simp,hd⟩
  ·obtain ⟨x,hx,h⟩:=ih hm;exact ⟨x,fM _ hx,h⟩
def MQ (hs:sa.toList=seen) {ms:Array MapEntry} (h:iD g ms.toList es):iD g (leftOf ms sa).toList (Gs seen es):=by
 have:=Py hs h;unfold leftOf;rw[Array.toList_filter];exact this
def HV {id:Nat} (h:xm y=some id):y= .ptr id 0:=by
 obtain ⟨q,h1,h2⟩:=aq h;obtain ⟨h3,h4⟩:=aV h2;cases h4;have:=(beq_iff _ _).1 h3;obtain rfl:=od h1;rw[this]
def akB {last c:Nat} (h:iterM since seen last c es=true):(∀e∈es,e.2.2<since)/\since<=last:=by
 unfold iterM at h;rw[bF] at h;refine ⟨λe he=> ?_,(bV _ _).1 h.2⟩
 exact (bV _ _).1 (iT.1 h.1 e he)
def atm (jD:∀j,Sound E j (rec j)) {mk:List Dm} {x:Operand} {id:Nat} (hw:gq all o tm.get=some true) (hd:kZ nt o.dst=true) (eP:o.op= .next x false) (hx:cD tm.get x=some y) (hy:xm y=some id) (fA:xC rec nt all l tm mk h o.dst id= .db r):Sound E (.ops nt all (o::l) tm mk h) (.db r):=by
 obtain rfl:=HV hy;have over:(∀(g:Gh) (w:World),HR g h.hp.get w->∀b c,g.Z id=some (b,c)->c=0/\(Instr.next (.pointer (some ⟨b,0,none⟩)) false o.type).run E.P w= .ok (.tuple #[.bool false]) w)->
   Sound E (.ops nt all l (iU tm o.dst (.cS [.bool false])) mk h) (.db r)->Sound E (.ops nt all (o::l) tm mk h) (.db r):=by
  intro ln ih;refine aaz hd (oU.refl _ _) (λops i he hi ro m g a w K Q ij hE dY hr vQ hk=> ?_) ih
  subst he;have hu:=om dY hx;generalize hue:a.eval x=u at hu;cases hu with
  | @ptr _ _ b c hρ=>
  obtain ⟨rfl,hn⟩:=ln g w hr b c hρ;refine akm hi (Dd dY hw) ?_;rw[Oper.semAt_eq _ _ _ (λc' h=>by rw[eP] at h;cases h)]
  have hex:(execOp a.eval o).run E.P w= .ok (.value (.tuple #[.bool false])) w:=by
   simp only[execOp,eP,hue,mZ,Sem.run_bind,hn,Result.andThen_ok,Sem.run_pure]
  rw[hex];exact hk _ _ (.cS (.cons (.bool false) .nil)) rfl (by rw[put_defers];exact vQ)
 unfold xC at fA;split at fA
 ·rename_i s q t iI;have ih:=jD (.ops nt all l (iU tm o.dst (.cS [.bool false])) mk h);rw[show rec (.ops nt all l (iU tm o.dst (.cS [.bool false])) mk h)= .db r from fA] at ih;refine over (λg w hr b c hρ=> ?_) ih
  obtain ⟨_,rfl,bm,sa,h1,h2,h3⟩:=hr.at iI hρ;have h3:bm=none:=h3;subst h3;refine ⟨rfl,?_⟩;simp[Instr.next,getObj,Sem.run,h1]
 ·rename_i m0 since seen last iI;split at fA;rotate_left
  ·cases fA
  rename_i es c0 auh;rw[bG] at fA;split at fA;rotate_left
  ·cases fA
  rename_i hit;obtain ⟨hold,Ey⟩:=akB hit;unfold agm at fA;have model:∀(g:Gh) (w:World),HR g h.hp.get w->∀b c,g.Z id=some (b,c)->c=0/\∃(bm y:Nat) (sa:Array Nat) (ms:Array MapEntry),g.Z m0=some (bm,y)/\sa.toList=seen/\w.heap[b]? =some (.mapIter (some bm) since sa last)/\w.heap[bm]? =some (.map ms c0)/\iD g ms.toList es/\∀z∈ms.toList,z.born<since:=by
   intro g w hr b c hρ;obtain ⟨_,rfl,bm,sa,h1,h2,h3⟩:=hr.at iI hρ;obtain ⟨bm',y,rfl,h4⟩:=h3;obtain ⟨_,ms,m1,m2⟩:=hr.at auh h4;refine ⟨rfl,bm',y,sa,ms,h4,h2,h1,m1,m2,λz hz=> ?_⟩
   obtain ⟨e,he,h5⟩:=m2.mem z hz;rw[h5.2.2];exact hold e he
  cases hle:Gs seen es with
  |nil=>
   rw[hle] at fA;have ih:=jD (.ops nt all l (iU tm o.dst (.cS [.bool false])) mk h);rw[show rec (.ops nt all l (iU tm o.dst (.cS [.bool false])) mk h)= .db r from fA] at ih;refine over (λg w hr b c hρ=> ?_) ih
   obtain ⟨rfl,bm,y,sa,ms,q1,q2,q3,q4,q5,q6⟩:=model g w hr b c hρ;refine ⟨rfl,?_⟩;have ur:=MQ q2 q5;rw[hle] at ur;rcases run_next_at (P:=E.P) w o.type b bm since last sa ms c0 q3 q4 q6 Ey with ⟨_,hn⟩|⟨e,he,_⟩
   ·exact hn
   ·have:(leftOf ms sa).toList= []:=ur.aBE.2 rfl;rw[this] at he;simp at he
  |cons e0 l0=>
   rw[hle] at fA;have fA:wL (λe=>uY rec nt all l tm mk o.dst (.cS [.bool true,e.1,e.2.1]) (h.put id (.mapIter (some m0) since (seen++ [e.2.2]) c0))) (e0::l0)= .db r:=fA
   rw[<-hle] at fA;obtain ⟨cY,q1,q2⟩:=uf fA;have hrne:∀ops:dE,ops.toList=all->ops.toList.drop (ops.size-l.length)=l->Bd h->r≠ []:=by
    intro ops auc akV eV hr0;subst hr0;obtain ⟨r',h1,h2⟩:=q1 e0 (by rw[hle];simp)
    have hs:=jD (.ops nt all l (iU tm o.dst (.cS [.bool true,e0.1,e0.2.1])) mk (h.put id (.mapIter (some m0) since (seen++ [e0.2.2]) c0)));rw[show rec (.ops nt all l (iU tm o.dst (.cS [.bool true,e0.1,e0.2.1])) mk (h.put id (.mapIter (some m0) since (seen++ [e0.2.2]) c0)))= .db r' from h1] at hs;obtain ⟨ND,_⟩:=hs ops auc akV (aap eV iI).bd;obtain ⟨z,hz⟩:=mG _ ND;have:=h2 z hz;simp at this
   refine Gj ((Gs seen es).map λe=>(iU tm o.dst (.cS [.bool true,e.1,e.2.1]),mk,h.put id (.mapIter (some m0) since (seen++ [e.2.2]) c0))) [] (λops i he hi eV ro m g a w K Q ij hE dY hr vQ eQ hk _=> ?_) (λeV=>⟨λy hy=> ?_,λo ho=>by simp at ho⟩) (λo ho=>by simp at ho) hrne (λoc ho=> ?_) (λy hy=> ?_)
   ·subst he;have hu:=om dY hx;generalize hue:a.eval x=u at hu;cases hu with
    | @ptr _ _ b c hρ=>
    obtain ⟨rfl,bm,y,sa,ms,p1,p2,p3,p4,p5,p6⟩:=model g w hr b c hρ;have ur:=MQ p2 p5;rcases run_next_at (P:=E.P) w o.type b bm since last sa ms c0 p3 p4 p6 Ey with ⟨h0,_⟩|⟨e,he,w1,hw1,hn⟩
    ·have:(leftOf ms sa).toList= []:=sq (by simpa using h0)
     rw[this,hle] at ur;cases ur
    obtain ⟨x0,hx0,aul⟩:=ur.mem e he;refine akm hi (Dd dY hw) ?_;rw[Oper.semAt_eq _ _ _ (λc' h=>by rw[eP] at h;cases h)]
    have hex:(execOp a.eval o).run E.P w= .ok (.value (.tuple #[.bool true,e.key,e.val])) (ChangeMaps.setBlock w1 b (.mapIter (some bm) since (sa.push e.born) c0)):=by
     simp only[execOp,eP,hue,mZ,Sem.run_bind,hn,Result.andThen_ok,Sem.run_pure]
    rw[hex];have Lx:w1.heap=w.heap/\w1.os=w.os/\w1.tape=w.tape/\w1.output=w.output:=by
     rcases hw1 with rfl|rfl
     ·exact ⟨rfl,rfl,rfl,rfl⟩
     ·exact ⟨rfl,rfl,rfl,rfl⟩
    have hb:b<w.heap.size:=(hr.at iI hρ).1;obtain ⟨t1,t2⟩:=HR.write hr (o':=.mapIter (some m0) since (seen++ [x0.2.2]) c0) (w':=ChangeMaps.setBlock w1 b (.mapIter (some bm) since (sa.push e.born) c0)) iI hρ (by simp[ChangeMaps.setBlock,Lx.1]) (λk hk=>by simp[ChangeMaps.setBlock,Lx.1,Array.getElem?_setIfInBounds_ne (DK hk)])
     ⟨rfl,some bm,sa.push e.born,by simp[ChangeMaps.setBlock,Lx.1,hb],by rw[Array.toList_push,p2,aul.2.2],bm,y,rfl,p1⟩ Lx.2.1 Lx.2.2.1 Lx.2.2.2
    rw[<-atd] at t1 t2;refine hk (iU tm o.dst (.cS [.bool true,x0.1,x0.2.1]),mk,h.put id (.mapIter (some m0) since (seen++ [x0.2.2]) c0)) (cP.2 ⟨x0,hx0,rfl⟩) g (a.put o.dst (.tuple #[.bool true,e.key,e.val])) _ ?_ t1 t2 (by rw[put_defers];exact vQ) eQ (λ_ _=>rfl)
    rw[ti];exact dY.put hd (.cS (.cons (.bool true) (.cons aul.1 (.cons aul.2.1 .nil))))
   ·obtain ⟨e,he,rfl⟩:=cP.1 hy;exact ⟨aap eV iI,oU.refl _ _⟩
   ·obtain ⟨e,he,r',h1,h2⟩:=q2 oc ho;refine .inr ⟨(iU tm o.dst (.cS [.bool true,e.1,e.2.1]),mk,h.put id (.mapIter (some m0) since (seen++ [e.2.2]) c0)),cP.2 ⟨e,he,rfl⟩,r',?_,h2⟩;have ih:=jD (.ops nt all l (iU tm o.dst (.cS [.bool true,e.1,e.2.1])) mk (h.put id (.mapIter (some m0) since (seen++ [e.2.2]) c0)));rw[show rec (.ops nt all l (iU tm o.dst (.cS [.bool true,e.1,e.2.1])) mk (h.put id (.mapIter (some m0) since (seen++ [e.2.2]) c0)))= .db r' from h1] at ih;exact ih
   ·obtain ⟨e,he,rfl⟩:=cP.1 hy;obtain ⟨r',h1,h2⟩:=q1 e he;refine ⟨r',?_,h2⟩;have ih:=jD (.ops nt all l (iU tm o.dst (.cS [.bool true,e.1,e.2.1])) mk (h.put id (.mapIter (some m0) since (seen++ [e.2.2]) c0)));rw[show rec (.ops nt all l (iU tm o.dst (.cS [.bool true,e.1,e.2.1])) mk (h.put id (.mapIter (some m0) since (seen++ [e.2.2]) c0)))= .db r' from h1] at ih;exact ih
 ·cases fA
def PX {b:Nat}:∀{ms:List MapEntry} {es:je},iD g ms es->∀{v:SV},Xn b es=some v->∃e,ms.find? (·.born==b)=some e/\VR g (.tuple #[e.key,e.val]) v
 |_,_,.nil,v,h=>by cases h
 |_,_,.cons (m:=m) (x:=x) (ms:=ms) (xs:=es) hd ht,v,h=>by
  unfold Xn at h;rw[bG] at h;split at h
  ·rename_i hb;have hb:=(beq_iff _ _).1 hb;cases h;refine ⟨m,by simp[hd.2.2,hb],.cS (.cons hd.1 (.cons hd.2.1 .nil))⟩
  ·rename_i hb;have hb:¬x.2.2=b:=λe=>hb ((beq_iff _ _).2 e)
   obtain ⟨e,h1,h2⟩:=PX ht h;refine ⟨e,?_,h2⟩;rw[List.find?_cons];have:(m.born==b)=false:=by rw[hd.2.2];simpa using hb
   rw[this];exact h1
def PA:∀{l:bq} {b:Nat},akx l=some b->l.getLast? =some b
 | [],b,h=>by cases h
 | [a],b,h=>by cases h;rfl
 |a::c::l,b,h=>by
  have:=PA (l:=c::l) h;rw[List.getLast?_cons_cons];exact this
def apq {mk:List Dm} {x:Operand} {id:Nat} (hw:gq all o tm.get=some true) (hd:kZ nt o.dst=true) (eP:o.op= .entry x) (hx:cD tm.get x=some y) (hy:xm y=some id) (hv:EO h.hp.get id=some v) (ih:Sound E (.ops nt all l (iU tm o.dst v) mk h) (.db r)):Sound E (.ops nt all (o::l) tm mk h) (.db r):=by
 obtain rfl:=HV hy;refine aaz hd (oU.refl _ _) (λops i he hi ro m g a w K Q ij hE dY hr vQ hk=> ?_) ih
 subst he;have hu:=om dY hx;generalize hue:a.eval x=u at hu;cases hu with
 | @ptr _ _ b c hρ=>
 unfold EO at hv;split at hv;rotate_left
 ·cases hv
 rename_i m0 since seen last iI;split at hv;rotate_left
 ·cases hv
 rename_i es c0 auh;obtain ⟨hc,qX⟩:=aV hv;have hc:=(beq_iff _ _).1 hc;subst hc;obtain ⟨bo,h1,h2⟩:=aq qX;obtain ⟨_,rfl,bm,sa,q1,q2,q3⟩:=hr.at iI hρ;obtain ⟨bm',y',rfl,q4⟩:=q3;obtain ⟨_,ms,m1,m2⟩:=hr.at auh q4;obtain ⟨e,e1,e2⟩:=PX m2 h2;have aS:sa.back? =some bo:=by rw[<-Array.getLast?_toList,q2];exact PA h1
 refine akm hi (Dd dY hw) ?_;rw[Oper.semAt_eq _ _ _ (λc' h=>by rw[eP] at h;cases h)]
 have hf:ms.find? (·.born==bo)=some e:=by rw[<-Array.find?_toList];exact e1
 have hn:(Instr.entry (.pointer (some ⟨b,0,none⟩))).run E.P w= .ok (.tuple #[e.key,e.val]) w:=by
  simp only[Instr.entry,getObj,Sem.run_bind,Sem.run,q1,m1,Result.andThen,aS,jN,aC,aA,hf];rfl
 have hex:(execOp a.eval o).run E.P w= .ok (.value (.tuple #[e.key,e.val])) w:=by
  simp only[execOp,eP,hue,mZ,Sem.run_bind,hn,Result.andThen_ok,Sem.run_pure]
 rw[hex];exact hk _ _ e2 rfl (by rw[put_defers];exact vQ)
def atn (jD:∀j,Sound E j (rec j)) {c:Call} {mk:List Dm} (hw:gq all o tm.get=some true) (hd:kZ nt o.dst=true) (eP:o.op= .call c) (hc:sI tm.get c.callee=some fv) (has:fT tm.get c.args.toList=some aa) (hs:Sound E (.call fv aa h) (.ir rs)) (fA:wL (λx:Rs=>aP x.fR (.db [⟨.fR x.v,tm,mk,x.h⟩]) (uY rec nt all l tm mk o.dst x.v x.h)) rs= .db r):Sound E (.ops nt all (o::l) tm mk h) (.db r):=by
 have hs:Bd h->rs≠ []/\(∀r∈rs,p9 h r.h)/\yf E fv aa h.hp.get h.nx rs:=hs;obtain ⟨cY,q1,q2⟩:=uf fA;have way:∀x∈rs,(x.fR=true/\(⟨.fR x.v,tm,mk,x.h⟩:Oc)∈r)\/(x.fR=false/\∃r',Sound E (.ops nt all l (iU tm o.dst x.v) mk x.h) (.db r')/\∀z∈r',z∈r):=by
  intro x hx;obtain ⟨r',h1,h2⟩:=q1 x hx;cases hp:x.fR with
  |true=>
   rw[hp] at h1;cases (show Out.db [⟨.fR x.v,tm,mk,x.h⟩]= .db r' from h1);exact .inl ⟨rfl,h2 _ (by simp)⟩
  |false=>
   rw[hp] at h1;have ih:=jD (.ops nt all l (iU tm o.dst x.v) mk x.h);rw[show rec (.ops nt all l (iU tm o.dst x.v) mk x.h)= .db r' from h1] at ih;exact .inr ⟨rfl,r',ih,h2⟩
 refine Gj ((rs.filter λx=> !x.fR).map λx=>(iU tm o.dst x.v,mk,x.h)) ((rs.filter λx=>x.fR).map λx=>⟨.fR x.v,tm,mk,x.h⟩) (λops i he hi eV ro m g a w K Q ij hE dY hr vQ eQ hk hP=> ?_) (λeV=>⟨λy hy=> ?_,λo ho=> ?_⟩) (λo ho=> ?_) (λops auc akV eV hr0=> ?_) (λoc ho=> ?_) (λy hy=> ?_)
 ·subst he;refine ahB (g:=g) (H:=h.hp.get) (nx:=h.nx) hi hw eP hc has dY (λ_ _=>rfl) (λu us hu jG=>(hs eV).2.2 (m-1) g w u us hE hr eQ hu jG) ?_
  rintro e w' ⟨x,hx,u,g',rfl,h1,h2,h3,h4,h5⟩;refine ⟨x.fR,u,rfl,λhp=> ?_,λhp=> ?_⟩
  ·refine hk (iU tm o.dst x.v,mk,x.h) (cP.2 ⟨x,lr.2 ⟨hx,by simp[hp]⟩,rfl⟩) g' _ w' ?_ h2 h3 (by rw[put_defers];exact vQ.mono h3.le) h5 h4
   rw[ti];exact (dY.mono h3.le).put hd h1
  ·exact hP ⟨.fR x.v,tm,mk,x.h⟩ (cP.2 ⟨x,lr.2 ⟨hx,hp⟩,rfl⟩) g' a w' _ (.fR h1) (dY.mono h3.le) h2 h3 (vQ.mono h3.le) h5 h4
 ·obtain ⟨x,hx,rfl⟩:=cP.1 hy;exact ⟨(hs eV).2.1 x (lr.1 hx).1,oU.refl _ _⟩
 ·obtain ⟨x,hx,rfl⟩:=cP.1 ho;exact ⟨(hs eV).2.1 x (lr.1 hx).1,oU.refl _ _⟩
 ·obtain ⟨x,hx,rfl⟩:=cP.1 ho;obtain ⟨I0,cX⟩:=lr.1 hx;rcases way x I0 with ⟨_,h1⟩|⟨h1,_⟩
  ·exact h1
  ·rw[h1] at cX;simp at cX
 ·subst hr0;obtain ⟨x,hx⟩:=mG _ cY;rcases way x hx with ⟨_,h1⟩|⟨_,r',h1,h2⟩
  ·simp at h1
  ·obtain ⟨ND,_⟩:=h1 ops auc akV ((hs eV).2.1 x hx).bd;obtain ⟨z,hz⟩:=mG _ ND;have:=h2 z hz;simp at this
 ·obtain ⟨x,hx,r',h1,h2⟩:=q2 oc ho;cases hp:x.fR with
  |true=>
   rw[hp] at h1;cases (show Out.db [⟨.fR x.v,tm,mk,x.h⟩]= .db r' from h1);obtain rfl:=ez.1 h2;exact .inl (cP.2 ⟨x,lr.2 ⟨hx,hp⟩,rfl⟩)
  |false=>
   rw[hp] at h1;have ih:=jD (.ops nt all l (iU tm o.dst x.v) mk x.h);rw[show rec (.ops nt all l (iU tm o.dst x.v) mk x.h)= .db r' from h1] at ih;exact .inr ⟨(iU tm o.dst x.v,mk,x.h),cP.2 ⟨x,lr.2 ⟨hx,by simp[hp]⟩,rfl⟩,r',ih,h2⟩
 ·obtain ⟨x,hx,rfl⟩:=cP.1 hy;obtain ⟨I0,cX⟩:=lr.1 hx;rcases way x I0 with ⟨h1,_⟩|⟨_,h1⟩
  ·rw[h1] at cX;simp at cX
  ·exact h1
def aqT {k:SV->Hs->Out} (hg:goK rec h fo ao k kp= .db r):∃fv aa rs,fo=some fv/\ao=some aa/\rec (.call fv aa h)= .ir rs/\wL (λx:Rs=>aP x.fR (kp x.v x.h) (k x.v x.h)) rs= .db r:=by
 cases fo with
 |none=>cases hg
 |some fv=>
  cases ao with
  |none=>cases hg
  |some aa=>
   obtain ⟨rs,h1,h2⟩:=ajW (show aag (rec (.call fv aa h)) k kp= .db r from hg);exact ⟨fv,aa,rs,rfl,rfl,h1,h2⟩
def SN (jD:∀j,Sound E j (rec j)) (nt:Nat) (all l:dd) (tm:de) (mk:List Dm) (h:Hs):Sound E (.ops nt all l tm mk h) (agl E rec nt all l tm mk h):=by
 cases l with
 |nil=>
  intro ops he hd eV;refine ⟨by simp,λo ho=> ?_,λro m g a w Q ij hE dY hr vQ eQ hk=> ?_⟩
  ·obtain rfl:=ez.1 ho;exact ⟨p9.refl eV,oU.refl _ _⟩
  ·simp only[Ay,List.range'_zero];exact hk ⟨.normal,tm,mk,h⟩ (by simp) g a w _ .normal dY hr (Fr.refl _ _ _) vQ eQ (λ_ _=>rfl)
 |cons o l=>
  show Sound E _ (aP (kZ nt o.dst) (ajj E rec nt all l tm mk h o (gq all o tm.get)) (.fail ""));rw[bG];split;rotate_left
  ·trivial
  rename_i hd;unfold ajj;cases hw:gq all o tm.get with
  |none=>trivial
  |some wb=>
   show Sound E _ (aP wb (doK E rec nt all l tm mk h o (wM o.op)) (uY rec nt all l tm mk o.dst (.cS []) h));cases wb with
   |false=>exact atl hw hd (jD _)
   |true=>
    show Sound E _ (doK E rec nt all l tm mk h o (wM o.op));unfold doK;cases hc:wM o.op with
    |some c=>
     obtain ⟨eP,_⟩:=M0 hc;show Sound E _ (goK rec h (sI tm.get c.callee) (fT tm.get c.args.toList) (uY rec nt all l tm mk o.dst) λv h=>.code (.fR v) tm mk h)
     cases hg:goK rec h (sI tm.get c.callee) (fT tm.get c.args.toList) (uY rec nt all l tm mk o.dst) λv h=>.code (.fR v) tm mk h with
     |db r=>
      obtain ⟨fv,aa,rs,h1,h2,h3,h4⟩:=aqT hg;have hs:=jD (.call fv aa h);rw[h3] at hs;exact atn jD hw hd eP h1 h2 hs h4
     |_=>trivial
    |none=>
     show Sound E _ (ajV E rec nt all l tm mk h o (Pn o.op));unfold ajV;cases eQ:Pn o.op with
     |some x=>
      show Sound E _ (akC rec nt all l tm mk h o.dst x.2 (cD tm.get x.1));unfold akC;cases hb:az (cD tm.get x.1) xm with
      |none=>trivial
      |some id=>
       obtain ⟨y,h1,h2⟩:=aq hb;show Sound E _ (aP x.2 (P2 rec nt all l tm mk h o.dst (EO h.hp.get id)) (xC rec nt all l tm mk h o.dst id));rcases afN eQ with ⟨eP,cX⟩|⟨eP,cX⟩
       ·rw[cX];show Sound E _ (xC rec nt all l tm mk h o.dst id);cases hr:xC rec nt all l tm mk h o.dst id with
        |db r=>exact atm jD hw hd eP h1 h2 hr
        |_=>trivial
       ·rw[cX];show Sound E _ (P2 rec nt all l tm mk h o.dst (EO h.hp.get id));unfold P2;cases hv:EO h.hp.get id with
        |none=>trivial
        |some v=>
         show Sound E _ (rec (.ops nt all l (iU tm o.dst v) mk h));have ih:=jD (.ops nt all l (iU tm o.dst v) mk h);cases hr:rec (.ops nt all l (iU tm o.dst v) mk h) with
         |db r=>rw[hr] at ih;exact apq hw hd eP h1 h2 hv ih
         |_=>trivial
     |none=>
      show Sound E _ (asx rec nt all l tm mk h o (qQ E o.op tm.get h.hp.get h.nx));unfold asx;cases ho:qQ E o.op tm.get h.hp.get h.nx with
      |none=>trivial
      |some r=>exact aBA hw hd ho (GU ho) (jD _)
end
section
variable {E:Env} {g:Gh} {f:Hf} {w:World}
variable {nt W base:Nat} {T:Tf} {H2:Hf} {D:Nat->Bool} {c:Call} {h2:Hs} {Q:Out->Prop}
def ve.aFc {all:dE} (h:ve E ro nt all i o T need H frp newp v D H') (he:∀x,need x->H x=H2 x):
  ve E ro nt all i o T need H2 frp newp v D H':=
 λm g f T1 a w K Q hE dY hr hT hn hf hk=>h m g f T1 a w K Q hE dY hr hT (λx hx=>(hn x hx).trans (he x hx).symm) hf hk
def drop_cons {ops:dE} (h:ops.toList.drop i=o::l):ops[i]? =some o/\ops.toList.drop (i+1)=l/\i<ops.size:=by
 have hi:i<ops.toList.length:=by
  by_cases hl:i<ops.toList.length
  ·exact hl
  ·rw[po (by omega)] at h;simp at h
 rw[qE hi] at h;obtain ⟨h1,h2⟩:=Ol h;have:ops.toList[i]? =some o:=by rw[dJ hi,h1]
 exact ⟨by simpa using this,h2,by simpa using hi⟩
def Nr {new x:Nat}:∀{us:dN},x∈zd new us↔(x∈us.map (·.1)/\x≠new)
 | []=>by simp[zd]
 |u::us=>by
  unfold zd;rw[bG,beq_eq];by_cases h:u.1=new
  ·simp only[h,aU,aB,iZ,cH];rw[Nr (us:=us)];constructor
   ·rintro ⟨h1,h2⟩;exact ⟨.inr h1,h2⟩
   ·rintro ⟨h1|h1,h2⟩
    ·exact absurd h1 h2
    ·exact ⟨h1,h2⟩
  ·simp only[h,aX,aC,aA,iZ,cH];rw[Nr (us:=us)];constructor
   ·rintro (h1|⟨h1,h2⟩)
    ·subst h1;exact ⟨.inl rfl,h⟩
    ·exact ⟨.inr h1,h2⟩
   ·rintro ⟨h1|h1,h2⟩
    ·exact .inl h1
    ·exact .inr ⟨h1,h2⟩
def oq {n x:Nat}:∀{l acc:bq},x∈below n l acc↔(x∈l/\x<n)\/x∈acc
 | [],acc=>by simp[below]
 |y::l,acc=>by
  unfold below;rw[bG,ble_eq];by_cases h:y+1<=n
  ·simp only[h,aU,aB];rw[oq (l:=l)];simp only[cH];constructor
   ·rintro (⟨h1,h2⟩|h1|h1)
    ·exact .inl ⟨.inr h1,h2⟩
    ·subst h1;exact .inl ⟨.inl rfl,h⟩
    ·exact .inr h1
   ·rintro (⟨h1|h1,h2⟩|h1)
    ·exact .inr (.inl h1)
    ·exact .inl ⟨h1,h2⟩
    ·exact .inr (.inr h1)
  ·simp only[show Nat.succ y<=n↔y+1<=n from Iff.rfl,h,aX,aC,aA];rw[oq (l:=l)];simp only[cH];constructor
   ·rintro (⟨h1,h2⟩|h1)
    ·exact .inl ⟨.inr h1,h2⟩
    ·exact .inr h1
   ·rintro (⟨h1|h1,h2⟩|h1)
    ·subst h1;omega
    ·exact .inl ⟨h1,h2⟩
    ·exact .inr h1
def Hid (m:Nat) (prev:List Rc) (x:Nat):Prop:=∃p∈prev,rO m p.i=false/\p.lo=x
def nM {m:Nat}:∀(prev:List Rc) (hp:Hp) (x:Nat),(Hid m prev x->(wC m prev hp).get x=none)/\(¬Hid m prev x->(wC m prev hp).get x=hp.get x)
 | [],hp,x=>⟨λ⟨p,hp,_⟩=>by simp at hp,λ_=>rfl⟩
 |q::ps,hp,x=>by
  unfold wC;rw[bG];cases hb:rO m q.i with
  |true=>
   rw[aH rfl];obtain ⟨h1,h2⟩:=nM ps hp x;have:Hid m (q::ps) x↔Hid m ps x:=by
    constructor
    ·rintro ⟨p,h,h3,h4⟩;rcases cH.1 h with rfl|h
     ·rw[hb] at h3;simp at h3
     ·exact ⟨p,h,h3,h4⟩
    ·rintro ⟨p,h,h3,h4⟩;exact ⟨p,by simp[h],h3,h4⟩
   exact ⟨λh=>h1 (this.1 h),λh=>h2 (λh'=>h (this.2 h'))⟩
  |false=>
   rw[aM (by simp)]
   obtain ⟨h1,h2⟩:=nM ps (hp.set q.lo none) x;refine ⟨λ⟨p,h,h3,h4⟩=> ?_,λh=> ?_⟩
   ·by_cases hh:Hid m ps x
    ·exact h1 hh
    ·rw[h2 hh,Tr.pB];rcases cH.1 h with rfl|h
     ·rw[aH h4.symm]
     ·exact absurd ⟨p,h,h3,h4⟩ hh
   ·rw[h2 (λ⟨p,h',h3,h4⟩=>h ⟨p,by simp[h'],h3,h4⟩),Tr.pB,aM (λe=>h ⟨q,by simp,hb,e.symm⟩)]
def zU {m:Nat} {old:Hp}:∀(prev:List Rc) (hp:Hp) (x:Nat),(Hid m prev x->(pH m old prev hp).get x=old.get x)/\(¬Hid m prev x->(pH m old prev hp).get x=hp.get x)
 | [],hp,x=>⟨λ⟨p,hp,_⟩=>by simp at hp,λ_=>rfl⟩
 |q::ps,hp,x=>by
  unfold pH;rw[bG];cases hb:rO m q.i with
  |true=>
   rw[aH rfl];obtain ⟨h1,h2⟩:=zU (old:=old) ps hp x;have:Hid m (q::ps) x↔Hid m ps x:=by
    constructor
    ·rintro ⟨p,h,h3,h4⟩;rcases cH.1 h with rfl|h
     ·rw[hb] at h3;simp at h3
     ·exact ⟨p,h,h3,h4⟩
    ·rintro ⟨p,h,h3,h4⟩;exact ⟨p,by simp[h],h3,h4⟩
   exact ⟨λh=>h1 (this.1 h),λh=>h2 (λh'=>h (this.2 h'))⟩
  |false=>
   rw[aM (by simp)]
   obtain ⟨h1,h2⟩:=zU (old:=old) ps (hp.set q.lo (old.get q.lo)) x;refine ⟨λ⟨p,h,h3,h4⟩=> ?_,λh=> ?_⟩
   ·by_cases hh:Hid m ps x
    ·exact h1 hh
    ·rw[h2 hh,Tr.pB];rcases cH.1 h with rfl|h
     ·rw[aH h4.symm,h4]
     ·exact absurd ⟨p,h,h3,h4⟩ hh
   ·rw[h2 (λ⟨p,h',h3,h4⟩=>h ⟨p,by simp[h'],h3,h4⟩),Tr.pB,aM (λe=>h ⟨q,by simp,hb,e.symm⟩)]
def Jv {r:Rc} (m:Nat) (hc:∀(ops:dE),ops.toList=all->W=ops.size->ops[i]? =some o->i<W->base+W<=h.nx->Bd h->(∀x,h.hp.get x≠none->¬(base+i<=x/\x<base+W))->(∀x,rO m x=true->x∈mm ops (i+1) i)->(∀p∈prev,p.call=false->p.hi=p.lo+1/\p.lo<base+W)->
   ∀ps:List St,ps.map (·.rc)=prev->∃s:St,s.rc=r/\Cnd E nt W ops base i ps o tm.get h.hp.get h.nx s h1.nx/\D1.get=jg tm.get s.u.dst s.u.v/\h1.hp.get=kP s.u.D s.u.H h.hp.get/\
    (∀x∈h.lg,x∈h1.lg)/\(∀x,x<h.nx->¬(base+i<=x/\x<base+W)->x∉h1.lg->h1.hp.get x=h.hp.get x)/\(∀x,x<h.nx->¬(base+i<=x/\x<base+W)->h.hp.get x=none->h1.hp.get x=none)/\Bd h1/\
    (∀x,h1.hp.get x≠none->¬(base+(i+1)<=x/\x<base+W))/\(r.call=false->r.hi=r.lo+1/\r.lo<base+W)) (hm:m=Nat.mod (nU W M (l8 o)) (Nat.pow 2 W)) (ih:Sound E (.draw nt W all base (i+1) (Nat.lor M (Nat.shiftLeft m (Nat.mul i W))) (r::prev) l D1 h1) out):Sound E (.draw nt W all base i M prev (o::l) tm h) out:=by
 cases out with
 |st w5 h'=>
  intro ops he hW hd hb eV fA hinv hpr ps HK;obtain ⟨hi,hd',cV⟩:=drop_cons hd;obtain ⟨m1,m2⟩:=We hi hinv;obtain ⟨s,hr,abA,htm,hh,f1,f2,f3,f4,f5,f6⟩:=hc ops he hW hi (by omega) hb eV fA (λx hx=>(m1 x (by rw[<-hm];exact (acj _ _).1 hx)).2) hpr ps HK
  obtain ⟨k1,out,k2⟩:=ih ops he hW hd' (jf hb abA.UY) f4 f5 (by rw[hm];exact m2) (λp hp=>by
   rcases cH.1 hp with rfl|hp
   ·exact f6
   ·exact hpr p hp) (s::ps) (by simp[hr,HK])
  refine ⟨⟨jf abA.UY k1.nx,k1.bd,λx hx hn hl=> ?_,λx hx=>k1.sub x (f1 x hx),λx hx hn hl=> ?_⟩,out,?_⟩
  ·have I0:x<h1.nx:=my hx abA.UY;rw[k1.lg x I0 (λhc=>hn ⟨by omega,hc.2⟩) hl]
   exact f2 x hx hn (λhc=>hl (k1.sub x hc))
  ·have I0:x<h1.nx:=my hx abA.UY;exact k1.dead x I0 (λhc=>hn ⟨by omega,hc.2⟩) (f3 x hx hn hl)
  ·rw[htm,hh] at k2;exact .cons abA k2
 |_=>trivial
def abi {m:Nat} {r:Rc} (h:qh m r prev=true) {ps:List St} (HK:ps.map (·.rc)=prev):∀p∈ps,rO m p.rc.i=true\/Qs p.rc r:=by
 intro p hp;have xX:p.rc∈prev:=by rw[<-HK];exact cP.2 ⟨p,hp,rfl⟩
 rcases uZ h p.rc xX with h1|h1
 ·exact .inl h1
 ·exact .inr (MV h1)
def auX (m:Nat) (hm:m=Nat.mod (nU W M (l8 o)) (Nat.pow 2 W)) (cV:C0 i (l8 o)=true) (hw:gq all o tm.get=some true) (hd:kZ nt o.dst=true) (ho:qQ E o.op tm.get h.hp.get (base+i)=some (v,us)) (xe:∀c,o.op≠ .defer c) (Va:qh m ⟨i,false,py o.op tm.get,zd (base+i) us,base+i,base+i+1⟩ prev=true) (ih:Sound E (.draw nt W all base (i+1) (Nat.lor M (Nat.shiftLeft m (Nat.mul i W))) (⟨i,false,py o.op tm.get,zd (base+i) us,base+i,base+i+1⟩::prev) l (iU tm o.dst v) (h.lQ us)) out):
  Sound E (.draw nt W all base i M prev (o::l) tm h) out:=by
 refine Jv m (λops he hW hi hiW hb eV fA abC hpr ps HK=> ?_) hm ih
 have eQ:(h.lQ us).nx=h.nx:=H7 _ _;have hg:(h.lQ us).hp.get=gx h.hp.get us:=Ku _ _;obtain ⟨l1,l2⟩:=YG us h;have hk:=aaG ho;have akR:h.hp.get (base+i)=none:=by
  cases hx:h.hp.get (base+i) with
  |none=>rfl
  |some o'=>exact absurd ⟨dg _,by omega⟩ (fA (base+i) (by rw[hx];simp))
 have IW:∀x,x∈us.map (·.1)->x=base+i\/(h.hp.get x≠none/\x<h.nx):=by
  intro x hx;obtain ⟨u,hu,rfl⟩:=cP.1 hx;rcases hk u hu with h1|h1
  ·exact .inl h1
  ·refine .inr ⟨h1,?_⟩;by_cases hl:h.nx<=u.1
   ·exact absurd (eV _ hl) h1
   ·omega
 have hlow:base+i<h.nx:=by omega
 refine ⟨⟨⟨o.dst,v,uc us (base+i),gx h.hp.get us⟩,⟨i,false,py o.op tm.get,zd (base+i) us,base+i,base+i+1⟩,m,λx=>x∈py o.op tm.get,λx=>x=base+i,λx=>x=base+i/\us≠ []⟩,rfl,?_,ti _ _ _,?_,l1,λx hx hn hl=> ?_,λx hx hn hl=> ?_,λx hx=> ?_,λx hx=> ?_,λ_=>⟨rfl,by show base+i<base+W;omega⟩⟩
 ·refine ⟨rfl,λro=> ?_,CZ cV,abC,rfl,abi Va HK,λx=> ?_,λ_=>⟨rfl,rfl,by rw[eQ],λx hx=>hx,λx hx=>hx,λx hx=>hx.1⟩,(λhc=>by cases hc),by rw[eQ];exact dg _,fA,hb⟩
  ·subst he;exact Dg hi hw hd ho akR (λx=>by simp[uc]) xe
  ·show uc us (base+i) x=true↔(x∈zd (base+i) us\/(base+i<=x/\x<base+i+1));rw[Nr];simp only[uc,jW];constructor
   ·rintro (h1|h1)
    ·by_cases e:x=base+i
     ·exact .inr ⟨by omega,by omega⟩
     ·exact .inl ⟨h1,e⟩
    ·exact .inr ⟨by omega,by omega⟩
   ·rintro (⟨h1,_⟩|⟨h1,h2⟩)
    ·exact .inl h1
    ·exact .inr (by omega)
 ·rw[hg];funext x;show gx h.hp.get us x=kP (uc us (base+i)) (gx h.hp.get us) h.hp.get x;unfold kP uc;by_cases h1:x∈us.map (·.1)
  ·rw[aH (by simp only[jW];exact .inl h1)]
  ·rw[mh h1];split<;>rfl
 ·rw[hg,mh (λhc=>by obtain ⟨u,hu,rfl⟩:=cP.1 hc;exact hl (l2 u hu))]
 ·rw[hg,mh (λhc=>by
   rcases IW x hc with h1|h1
   ·exact hn ⟨by omega,by omega⟩
   ·exact h1.1 hl)]
  exact hl
 ·rw[eQ] at hx;rw[hg,mh (λhc=>by rcases IW x hc with h1|h1<;>omega)]
  exact eV x hx
 ·intro xj;by_cases hc:x∈us.map (·.1)
  ·rcases IW x hc with h1|h1
   ·omega
   ·exact fA x h1.1 ⟨by omega,xj.2⟩
  ·rw[hg,mh hc] at hx;exact fA x hx ⟨by omega,xj.2⟩
def are (m:Nat) (hm:m=Nat.mod (nU W M (l8 o)) (Nat.pow 2 W)) (cV:C0 i (l8 o)=true) (hw:gq all o tm.get=some false) (hd:kZ nt o.dst=true) (Va:qh m ⟨i,false,[],[],base+i,base+i+1⟩ prev=true) (ih:Sound E (.draw nt W all base (i+1) (Nat.lor M (Nat.shiftLeft m (Nat.mul i W))) (⟨i,false,[],[],base+i,base+i+1⟩::prev) l (iU tm o.dst (.cS [])) h) out):
  Sound E (.draw nt W all base i M prev (o::l) tm h) out:=by
 refine Jv m (λops he hW hi hiW hb eV fA abC hpr ps HK=> ?_) hm ih
 have akR:h.hp.get (base+i)=none:=by
  cases hx:h.hp.get (base+i) with
  |none=>rfl
  |some o'=>exact absurd ⟨dg _,by omega⟩ (fA (base+i) (by rw[hx];simp))
 refine ⟨⟨⟨o.dst,.cS [],λx=>decide (x=base+i),h.hp.get⟩,⟨i,false,[],[],base+i,base+i+1⟩,m,λ_=>False,λx=>x=base+i,λ_=>False⟩,rfl,?_,ti _ _ _,?_,λx hx=>hx,λx _ _ _=>rfl,λx _ _ hl=>hl,eV,λx hx xj=>fA x hx ⟨by omega,xj.2⟩,λ_=>⟨rfl,by show base+i<base+W;omega⟩⟩
 ·refine ⟨rfl,λro=> ?_,CZ cV,abC,rfl,abi Va HK,λx=> ?_,λ_=>⟨rfl,rfl,rfl,λx hx=>hx.elim,λx hx=>hx,λx hx=>hx.elim⟩,(λhc=>by cases hc),dg _,fA,hb⟩
  ·subst he;exact step_skip hi hw hd akR (λx=>by simp)
  ·show decide (x=base+i)=true↔(x∈([]:bq)\/(base+i<=x/\x<base+i+1));simp;omega
 ·funext x;unfold kP;split<;>rfl
def arf (m:Nat) (hm:m=Nat.mod (nU W M (l8 o)) (Nat.pow 2 W)) (cV:C0 i (l8 o)=true) (hw:gq all o tm.get=some true) (hd:kZ nt o.dst=true) (eP:o.op= .call c) (hc:sI tm.get c.callee=some fv) (has:fT tm.get c.args.toList=some aa) (hs:Sound E (.call fv aa ⟨wC m prev h.hp,h.nx,[]⟩) (.res v h2)) (Va:qh m ⟨i,true,[],below h.nx h2.lg [],h.nx,h2.nx⟩ prev=true) (ih:Sound E (.draw nt W all base (i+1) (Nat.lor M (Nat.shiftLeft m (Nat.mul i W))) (⟨i,true,[],below h.nx h2.lg [],h.nx,h2.nx⟩::prev) l (iU tm o.dst v) ⟨pH m h.hp prev h2.hp,h2.nx,below h.nx h2.lg h.lg⟩) out):
  Sound E (.draw nt W all base i M prev (o::l) tm h) out:=by
 refine Jv m (λops he hW hi hiW hb eV fA abC hpr ps HK=> ?_) hm ih
 have hbm:Bd ⟨wC m prev h.hp,h.nx,[]⟩:=by
  intro x hx;show (wC m prev h.hp).get x=none;by_cases hh:Hid m prev x
  ·exact (nM prev h.hp x).1 hh
  ·rw[(nM prev h.hp x).2 hh];exact eV x hx
 obtain ⟨_,fac,Iu⟩:=(show Bd ⟨wC m prev h.hp,h.nx,[]⟩->_ from hs) hbm;have fac:p9 ⟨wC m prev h.hp,h.nx,[]⟩ h2:=fac ⟨false,v,h2⟩ (by simp)
 have Iu:=yf.one Iu;have fnx:h.nx<=h2.nx:=fac.nx;have hHid:∀x,Hid m prev x->x<base+W/\x∉h2.lg:=by
  rintro x ⟨p,hp,Jh,rfl⟩;rcases uZ Va p hp with h1|h1
  ·rw[Jh] at h1;simp at h1
  ·have hI:=MV h1;obtain ⟨c1,c2⟩:=hI.c2 rfl;obtain ⟨e1,e2⟩:=hpr p hp c1;refine ⟨e2,λhl=> ?_⟩
   have:=hI.a2 p.lo (oq.2 (.inl ⟨hl,by omega⟩))
   omega
 have PN:∀x,(pH m h.hp prev h2.hp).get x=if x∈h2.lg/\x<h.nx\/h.nx<=x/\x<h2.nx then h2.hp.get x else h.hp.get x:=by
  intro x;by_cases hh:Hid m prev x
  ·obtain ⟨q1,q2⟩:=hHid x hh;rw[(zU prev h2.hp x).1 hh,aM (by rintro (⟨h1,_⟩|⟨h1,_⟩);exact q2 h1;omega)]
  ·rw[(zU prev h2.hp x).2 hh];split
   ·rfl
   ·rename_i hn;by_cases hx:x<h.nx
    ·have:=fac.lg x hx (λhl=>hn (.inl ⟨hl,hx⟩))
     rw[this];exact (nM prev h.hp x).2 hh
    ·rw[fac.bd x (by
      by_cases cX:x<h2.nx
      ·exact absurd (.inr ⟨by omega,cX⟩) hn
      ·show h2.nx<=x;omega),eV x (by omega)]
 have axF:∀x,x<h.nx->h.hp.get x=none->h2.hp.get x=none:=by
  intro x hx hn;refine fac.dead x hx ?_;show (wC m prev h.hp).get x=none;by_cases hh:Hid m prev x
  ·exact (nM prev h.hp x).1 hh
  ·rw[(nM prev h.hp x).2 hh];exact hn
 refine ⟨⟨⟨o.dst,v,λx=>decide (x∈h2.lg/\x<h.nx\/h.nx<=x/\x<h2.nx),h2.hp.get⟩,⟨i,true,[],below h.nx h2.lg [],h.nx,h2.nx⟩,m,λx=>(wC m prev h.hp).get x≠none,λx=>h.nx<=x,λx=>h.nx<=x/\x<h2.nx⟩,rfl,?_,ti _ _ _,?_,λx hx=>oq.2 (.inr hx),λx hx hn hl=> ?_,λx hx hn hl=> ?_,λx hx=> ?_,λx hx=> ?_,λhc=>by cases hc⟩
 ·refine ⟨rfl,λro=> ?_,CZ cV,abC,rfl,abi Va HK,λx=> ?_,(λhc=>by cases hc),λ_=>⟨rfl,rfl,λx hx=>⟨?_,λp hp hbp hxe=> ?_⟩,λx hx=>hx,λx hx=>hx⟩,fnx,fA,hb⟩
  ·subst he;refine ve.aFc (VY (D:=λx=>decide (x∈h2.lg/\x<h.nx\/h.nx<=x/\x<h2.nx)) hi hw hd eP hc has Iu (λx hx hl=> ?_) (λx hx hl=> ?_)) (λx hx=> ?_)
   ·have hn:¬(x∈h2.lg/\x<h.nx\/h.nx<=x/\x<h2.nx):=by simpa using hx
    exact fac.lg x hl (λhc=>hn (.inl ⟨hc,hl⟩))
   ·have hn:¬(x∈h2.lg/\x<h.nx\/h.nx<=x/\x<h2.nx):=by simpa using hx
    refine fac.bd x ?_;by_cases cX:x<h2.nx
    ·exact absurd (.inr ⟨hl,cX⟩) hn
    ·omega
   ·by_cases hh:Hid m prev x
    ·exact absurd ((nM prev h.hp x).1 hh) hx
    ·exact (nM prev h.hp x).2 hh
  ·show decide (x∈h2.lg/\x<h.nx\/h.nx<=x/\x<h2.nx)=true↔(x∈below h.nx h2.lg []\/(h.nx<=x/\x<h2.nx));rw[oq];simp
  ·by_cases hh:Hid m prev x
   ·exact absurd ((nM prev h.hp x).1 hh) hx
   ·rw[<-(nM prev h.hp x).2 hh];exact hx
  ·have hh:Hid m prev x:=⟨p.rc,by rw[<-HK];exact cP.2 ⟨p,hp,rfl⟩,hbp,hxe.symm⟩
   exact hx ((nM prev h.hp x).1 hh)
 ·funext x;show (pH m h.hp prev h2.hp).get x=kP _ h2.hp.get h.hp.get x;rw[PN];unfold kP;simp only[jW]
 ·show (pH m h.hp prev h2.hp).get x=_;rw[PN,aM (by
   rintro (⟨h1,h3⟩|⟨h1,_⟩)
   ·exact hl (oq.2 (.inl ⟨h1,h3⟩))
   ·omega)]
 ·show (pH m h.hp prev h2.hp).get x=_;rw[PN];split
  ·exact axF x hx hl
  ·exact hl
 ·have hx:h2.nx<=x:=hx;show (pH m h.hp prev h2.hp).get x=_;rw[PN,aM (by omega)]
  exact eV x (by omega)
 ·intro xj;have hx:(pH m h.hp prev h2.hp).get x≠none:=hx;rw[PN] at hx;have aui:x<h.nx:=by omega
  have hn0:h.hp.get x=none:=by
   cases hq:h.hp.get x with
   |none=>rfl
   |some o'=>exact absurd ⟨by omega,xj.2⟩ (fA x (by rw[hq];simp))
  split at hx
  ·exact hx (axF x aui hn0)
  ·exact hx hn0
def auw {k:SV->Hs->Out} (hf:∀s,Q (.fail s)) (ht:∀a b c,Q (.SL a b c)) (hr:∀fv aa v h2,fo=some fv->ao=some aa->rec (.call fv aa h)= .res v h2->Q (k v h2)) (hp:∀fv aa v h2,fo=some fv->ao=some aa->rec (.call fv aa h)= .fR v h2->Q (kp v h2)):Q (auy rec h fo ao k kp):=by
 unfold auy;cases fo with
 |none=>exact hf _
 |some fv=>
  cases ao with
  |none=>exact hf _
  |some aa=>
   show Q (oneK (rec (.call fv aa h)) k kp);cases hrc:rec (.call fv aa h) with
   |ir l=>
    cases l with
    |nil=>exact hf _
    |cons r l=>
     cases l with
     |nil=>
      obtain ⟨fR,v,h2⟩:=r;cases fR with
      |false=>exact hr fv aa v h2 rfl rfl hrc
      |true=>exact hp fv aa v h2 rfl rfl hrc
     |cons _ _=>exact hf _
   |fail s=>exact hf _
   |SL a b c=>exact ht _ _ _
   |_=>exact hf _
def Ov (jD:∀j,Sound E j (rec j)) (nt W:Nat) (all:dd) (base i M:Nat) (prev:List Rc) (l:dd) (tm:de) (h:Hs):
  Sound E (.draw nt W all base i M prev l tm h) (YS E rec nt W all base i M prev l tm h):=by
 cases l with
 |nil=>
  intro ops he hW hd hb eV fA hinv hpr ps HK;exact ⟨⟨dg _,eV,λ_ _ _ _=>rfl,λ_ h=>h,λ_ _ _ h=>h⟩,ps,.nil⟩
 |cons o l=>
  show Sound E _ (aP (kZ nt o.dst && C0 i (l8 o)) (force (Nat.mod (nU W M (l8 o)) (Nat.pow 2 W)) λm=>ajk E rec nt W all base i M m prev l tm h o (gq all o tm.get)) (.fail ""))
  rw[bG];split;rotate_left
  ·trivial
  rename_i hd;rw[bF] at hd;obtain ⟨hd,cV⟩:=hd;rw[force_eq];generalize hm:Nat.mod (nU W M (l8 o)) (Nat.pow 2 W)=m;unfold ajk;have next:∀(r:Rc) (v:SV) (h1:Hs) (out:Out),Cr rec nt W all base i M m prev l tm o.dst r v h1=out->(∃s,out= .fail s)\/(qh m r prev=true/\out=rec (.draw nt W all base (i+1) (Nat.lor M (Nat.shiftLeft m (Nat.mul i W))) (r::prev) l (iU tm o.dst v) h1)):=by
   intro r v h1 out ho;unfold Cr at ho;rw[bG,force_eq] at ho;split at ho
   ·rename_i hi;exact .inr ⟨hi,ho.symm⟩
   ·exact .inl ⟨_,ho.symm⟩
  cases hw:gq all o tm.get with
  |none=>trivial
  |some wb=>
   show Sound E _ (aP wb (doD E rec nt W all base i M m prev l tm h o (wM o.op)) (Cr rec nt W all base i M m prev l tm o.dst ⟨i,false,[],[],Nat.add base i,Nat.add (Nat.add base i) 1⟩ (.cS []) h));cases wb with
   |false=>
    show Sound E _ (Cr rec nt W all base i M m prev l tm o.dst ⟨i,false,[],[],Nat.add base i,Nat.add (Nat.add base i) 1⟩ (.cS []) h);rcases next ⟨i,false,[],[],Nat.add base i,Nat.add (Nat.add base i) 1⟩ (.cS []) h _ rfl with ⟨s,hs⟩|⟨hi,hs⟩
    ·rw[hs];trivial
    ·rw[hs];exact are m hm.symm cV hw hd hi (jD _)
   |true=>
    show Sound E _ (doD E rec nt W all base i M m prev l tm h o (wM o.op));unfold doD;cases hc:wM o.op with
    |none=>
     show Sound E _ (asz rec nt W all base i M m prev l tm h o (qQ E o.op tm.get h.hp.get (Nat.add base i)));unfold asz;cases ho:qQ E o.op tm.get h.hp.get (Nat.add base i) with
     |none=>trivial
     |some r=>
      show Sound E _ (Cr rec nt W all base i M m prev l tm o.dst ⟨i,false,py o.op tm.get,zd (Nat.add base i) r.2,Nat.add base i,Nat.add (Nat.add base i) 1⟩ r.1 (h.lQ r.2));rcases next ⟨i,false,py o.op tm.get,zd (Nat.add base i) r.2,Nat.add base i,Nat.add (Nat.add base i) 1⟩ r.1 (h.lQ r.2) _ rfl with ⟨s,hs⟩|⟨hi,hs⟩
      ·rw[hs];trivial
      ·rw[hs];exact auX m hm.symm cV hw hd ho (GU ho) hi (jD _)
    |some c=>
     obtain ⟨eP,_⟩:=M0 hc;refine auw (Q:=Sound E _) (λ_=>trivial) (λ_ _ _=>trivial) (λfv aa v h2 h1 h3 h4=> ?_) (λfv aa v h2 h1 h3 h4=> ?_)
     ·have hs:=jD (.call fv aa ⟨wC m prev h.hp,h.nx,[]⟩);rw[h4] at hs;rcases next ⟨i,true,[],below h.nx h2.lg [],h.nx,h2.nx⟩ v ⟨pH m h.hp prev h2.hp,h2.nx,below h.nx h2.lg h.lg⟩ _ rfl with ⟨s,he⟩|⟨hi,he⟩
      ·rw[he];trivial
      ·rw[he];exact arf m hm.symm cV hw hd eP h1 h3 hs hi (jD _)
     ·trivial
end
section
section
variable {F:Fence} {n:Nat} {P:Program} {Q:Exit->Act->World->Prop} {a:Act} {w:World} {c:Code}
def zm (h:c.wpIn F n P (Exit.then (Pv F n P c Q) Q) a w):Pv F n P c Q a w:=by
 intro b k cs ij hb hr;obtain ⟨e,a₁,w₁,hq,ph⟩:=h b (.inLoop c::k) cs ij hb hr;cases e with
 |normal=>
  obtain ⟨e₂,a₂,w₂,aJE,aBT⟩:=hq b k cs ij hb hr;exact ⟨e₂,a₂,w₂,aJE,.of_steps (StepsIn.trans ph (.one (fenced_calm hb hr rfl) stepR_inLoop)) aBT⟩
 |exit id=>exact ⟨_,a₁,w₁,hq,.pass (x:=.inLoop c) rfl (λ_ _=>.inl (by simp)) ph⟩
 |goto l=>exact ⟨_,a₁,w₁,hq,.pass (x:=.inLoop c) rfl (λ_ _=>.inl (by simp)) ph⟩
 |ret=>exact ⟨_,a₁,w₁,hq,.pass (x:=.inLoop c) rfl (λ_ _=>.inl (by simp)) ph⟩
 |panic ch=>exact ⟨_,a₁,w₁,hq,.pass (x:=.inLoop c) rfl (λ_ _=>.inl (by simp)) ph⟩
 |outgrown=>exact ⟨_,a₁,w₁,hq,.pass (x:=.inLoop c) rfl (λ_ _=>.inl (by simp)) ph⟩
def SJ (h:Pv F n P c Q a w):(Code.loop c).wpIn F n P Q a w:=λb k cs ij hb hr=>
 let ⟨e,a',w',hq,ph⟩:=h b k cs ij hb hr
 ⟨e,a',w',hq,.of_steps (.one (fenced_calm hb hr rfl) stepR_loop) ph⟩
def nT (h:wpX F n P c Q a w):c.wpIn F n P Q a w:=by
 cases c<;>first|exact h|exact SJ h
end
variable {E:Env} {g:Gh} {f:Hf} {w:World}
def okL {a b:Code} (h:codeOk (.seq a b)=true):codeOk a=true:=by
 have h:(codeOk a&&codeOk b)=true:=h;rw[bF] at h;exact h.1
def okR {a b:Code} (h:codeOk (.seq a b)=true):codeOk b=true:=by
 have h:(codeOk a&&codeOk b)=true:=h;rw[bF] at h;exact h.2
def kj.seq {nt:Nat} {a b:Code} {mk:List Dm} (k1:kj E nt a tm mk h l1) (kin:∀o∈l1,(o.e= .normal/\∃r',kj E nt b o.tm o.dm o.h r'/\∀x∈r',x∈r)\/(o.e≠ .normal/\o∈r)) (atA:∀x∈r,∃o∈l1,(∃r',kj E nt b o.tm o.dm o.h r'/\x∈r')\/x=o):kj E nt (.seq a b) tm mk h r:=by
 obtain ⟨n1,f1,s1⟩:=k1;have cY:r≠ []:=by
  obtain ⟨o,ho⟩:=mG _ n1;rcases kin o ho with ⟨_,r',⟨n2,_⟩,h2⟩|⟨_,h2⟩
  ·obtain ⟨x,hx⟩:=mG _ n2;exact Av (h2 x hx)
  ·exact Av h2
 refine ⟨cY,λx hx=> ?_,λro m g ac w Q jn ij hE dY hr hm eQ hk=>wpIn_seq (nT ?_)⟩
 ·obtain ⟨o,ho,⟨r',⟨_,f2,_⟩,hx⟩|rfl⟩:=atA x hx
  ·exact ⟨(f1 o ho).1.trans (f2 x hx).1,oU.trans (f1 o ho).1.nx (f1 o ho).2 (f2 x hx).2⟩
  ·exact f1 x ho
 have hlen:∀o∈l1,ro=none\/o.dm.length=mk.length:=by
  intro o ho;rcases ij with ij|ij
  ·exact .inl ij
  ·refine .inr ?_;have h1:=(f1 o ho).2.1;rcases kin o ho with ⟨_,r',⟨n2,f2,_⟩,h2⟩|⟨_,h2⟩
   ·obtain ⟨x,hx⟩:=mG _ n2;have h3:=(f2 x hx).2.1;have h4:=ij x (h2 x hx);omega
   ·exact ij o h2
 refine s1 ro m g ac w _ (okL jn) (by
  by_cases h:ro=none
  ·exact .inl h
  ·exact .inr λo ho=>(hlen o ho).resolve_left h) hE dY hr hm eQ (λo ho g1 a1 w1 x q0 q1 q2 q3 q4 q5 q6=> ?_)
 rcases kin o ho with ⟨he,r',⟨n2,f2,s2⟩,h2⟩|⟨he,h2⟩
 ·rw[he] at q0;cases q0;refine nT (s2 ro m g1 a1 w1 Q (okR jn) (ij.imp_right λij z hz=> ?_) (hE.mono q3.le) q1 q2 q4 q5 (λz hz g2 a2 w2 x r0 r1 r2 r3 r4 r5 r6=>hk z (h2 z hz) g2 a2 w2 x r0 r1 r2 (q3.trans r3) r4 r5 (λy hy=>by rw[r6 y (my hy (f1 o ho).1.nx),q6 y hy])))
  have h1:=(f1 o ho).2.1;have h3:=(f2 z hz).2.1;have h4:=ij z (h2 z hz);omega
 ·have:=hk o h2 g1 a1 w1 x q0 q1 q2 q3 q4 q5 q6;generalize o.e=e at q0 he;cases q0 with
  |normal=>exact absurd rfl he
  |exit id=>exact this
  |ret=>exact this
  |fR hv=>exact this
def kj.loop {nt:Nat} {c:Code} {mk:List Dm} (k1:kj E nt c tm mk h l1) (kin:∀o∈l1,(o.e= .normal/\∃r',kj E nt (.loop c) o.tm o.dm o.h r'/\∀x∈r',x∈r)\/(o.e≠ .normal/\o∈r)) (atA:∀x∈r,∃o∈l1,(∃r',kj E nt (.loop c) o.tm o.dm o.h r'/\x∈r')\/x=o):kj E nt (.loop c) tm mk h r:=by
 obtain ⟨n1,f1,s1⟩:=k1;have cY:r≠ []:=by
  obtain ⟨o,ho⟩:=mG _ n1;rcases kin o ho with ⟨_,r',⟨n2,_⟩,h2⟩|⟨_,h2⟩
  ·obtain ⟨x,hx⟩:=mG _ n2;exact Av (h2 x hx)
  ·exact Av h2
 refine ⟨cY,λx hx=> ?_,λro m g ac w Q jn ij hE dY hr hm eQ hk=>zm (nT ?_)⟩
 ·obtain ⟨o,ho,⟨r',⟨_,f2,_⟩,hx⟩|rfl⟩:=atA x hx
  ·exact ⟨(f1 o ho).1.trans (f2 x hx).1,oU.trans (f1 o ho).1.nx (f1 o ho).2 (f2 x hx).2⟩
  ·exact f1 x ho
 have hlen:∀o∈l1,ro=none\/o.dm.length=mk.length:=by
  intro o ho;rcases ij with ij|ij
  ·exact .inl ij
  ·refine .inr ?_;have h1:=(f1 o ho).2.1;rcases kin o ho with ⟨_,r',⟨n2,f2,_⟩,h2⟩|⟨_,h2⟩
   ·obtain ⟨x,hx⟩:=mG _ n2;have h3:=(f2 x hx).2.1;have h4:=ij x (h2 x hx);omega
   ·exact ij o h2
 refine s1 ro m g ac w _ jn (by
  by_cases h:ro=none
  ·exact .inl h
  ·exact .inr λo ho=>(hlen o ho).resolve_left h) hE dY hr hm eQ (λo ho g1 a1 w1 x q0 q1 q2 q3 q4 q5 q6=> ?_)
 rcases kin o ho with ⟨he,r',⟨n2,f2,s2⟩,h2⟩|⟨he,h2⟩
 ·rw[he] at q0;cases q0;refine s2 ro m g1 a1 w1 Q jn (ij.imp_right λij z hz=> ?_) (hE.mono q3.le) q1 q2 q4 q5 (λz hz g2 a2 w2 x r0 r1 r2 r3 r4 r5 r6=>hk z (h2 z hz) g2 a2 w2 x r0 r1 r2 (q3.trans r3) r4 r5 (λy hy=>by rw[r6 y (my hy (f1 o ho).1.nx),q6 y hy]))
  have h1:=(f1 o ho).2.1;have h3:=(f2 z hz).2.1;have h4:=ij z (h2 z hz);omega
 ·have:=hk o h2 g1 a1 w1 x q0 q1 q2 q3 q4 q5 q6;generalize o.e=e at q0 he;cases q0 with
  |normal=>exact absurd rfl he
  |exit id=>exact this
  |ret=>exact this
  |fR hv=>exact this
def Pz (id i:Nat):leave id (.exit i)=if i=id then .normal else .exit i:=by
 show aP (Nat.beq i id) Ex.normal (.exit i)=_;rw[bG,beq_eq];by_cases h:i=id<;>simp[h]
def kj.block {nt id:Nat} {c:Code} {mk:List Dm} {l:List Oc} (k1:kj E nt c tm mk h l) (hr:∀x,x∈r↔∃o∈l,x=⟨leave id o.e,o.tm,o.dm,o.h⟩):kj E nt (.block id c) tm mk h r:=by
 obtain ⟨n1,f1,s1⟩:=k1;refine ⟨?_,λx hx=> ?_,λro m g a w Q jn ij hE dY hrr hm eQ hk=>wpIn_block (nT ?_)⟩
 ·obtain ⟨o,ho⟩:=mG _ n1;exact Av ((hr ⟨leave id o.e,o.tm,o.dm,o.h⟩).2 ⟨o,ho,rfl⟩)
 ·obtain ⟨o,ho,rfl⟩:=(hr x).1 hx;exact f1 o ho
 refine s1 ro m g a w _ jn (ij.imp_right λij o ho=>ij ⟨leave id o.e,o.tm,o.dm,o.h⟩ ((hr _).2 ⟨o,ho,rfl⟩)) hE dY hrr hm eQ (λo ho g1 a1 w1 x q0 q1 q2 q3 q4 q5 q6=> ?_)
 have key:∀y,ExR g1 (leave id o.e) y->Q y a1 w1:=λy hy=>hk ⟨leave id o.e,o.tm,o.dm,o.h⟩ ((hr _).2 ⟨o,ho,rfl⟩) g1 a1 w1 y hy q1 q2 q3 q4 q5 q6
 generalize he:o.e=e at q0 key;cases q0 with
 |normal=>exact key _ .normal
 |ret=>exact key _ .ret
 |fR hv=>exact key _ (.fR hv)
 |exit i=>
  rw[Pz] at key;show (if i=id then Q .normal a1 w1 else Q (.exit i) a1 w1)
  split
  ·rename_i hi;rw[aH hi] at key;exact key _ .normal
  ·rename_i hi;rw[aM hi] at key;exact key _ (.exit i)
def kj.calm {nt:Nat} {c:Code} {mk:List Dm} (x:Exit) (hx:∀g,ExR g e x) (hb:Bd h) (hw:∀(ro:bP) (m:Nat) (Q:Exit->Act->World->Prop) (a:Act) (w:World),Q x a w->wpX (ot ro) m E.P c Q a w):kj E nt c tm mk h [⟨e,tm,mk,h⟩]:=
 ⟨by simp,λo ho=>by
  obtain rfl:=ez.1 ho;exact ⟨p9.refl hb,oU.refl _ _⟩,λro m g a w Q _ _ hE dY hr hm eQ hk=>hw ro m Q a w (hk ⟨e,tm,mk,h⟩ (by simp) g a w x (hx g) dY hr (Fr.refl _ _ _) hm eQ λ_ _=>rfl)⟩
def kj.ops {nt id:Nat} {ops:dE} {mk:List Dm} (k:OpsS E nt ops ops.toList tm mk h r):kj E nt (.region id ops false) tm mk h r:=by
 obtain ⟨n1,f1,s1⟩:=k;refine ⟨n1,f1,λro m g a w Q jn ij hE dY hr hm eQ hk=>wpIn_region ?_⟩
 have:=s1 ro m g a w Q ij hE dY hr hm eQ hk;simpa[Og] using this
def kj.draw {nt id:Nat} {ops:dE} {mk:List Dm} {out:List St} (hf:FacD h.nx 0 ops.size ⟨h.hp,Nat.add h.nx ops.size,h.lg⟩ h1) (hd:DT E nt ops.size ops h.nx 0 [] ops.toList tm.get h.hp.get (Nat.add h.nx ops.size) D1.get h1.hp.get h1.nx out):kj E nt (.region id ops true) tm mk h [⟨.normal,D1,mk,h1⟩]:=by
 have hnx0:h.nx<=h1.nx:=jf (xw _ _) hf.nx;refine ⟨by simp,λo ho=> ?_,λro m g a w Q jn ij hE dY hr hm eQ hk=> ?_⟩
 ·obtain rfl:=ez.1 ho;exact ⟨⟨hnx0,hf.bd,λx hx hn=>hf.lg x (my hx (xw _ _)) (by omega) hn,hf.sub,λx hx hn=>hf.dead x (my hx (xw _ _)) (by omega) hn⟩,oU.refl _ _⟩
 exact afH (show AD ops.size ops.toList ops.toList 0 0 []=true from jn) hE.mix (kn (dg _)) hd (xw _ _) hE dY hr eQ (.inl (by simp)) (λ_ g1 a1 w1 q1 q2 q3 q4 q5 q6=>hk ⟨.normal,D1,mk,h1⟩ (by simp) g1 a1 w1 _ .normal q1 q2 q3 (by rw[q4];exact hm.mono q3.le) q6 q5)
def JS.zero (ops:dE) (W:Nat):JS ops W 0 0:=λp hp=>by simp at hp
def UP (h:Hs) (l:Nat) (o:SO):(h.put l o).hp.get=jk h.hp.get (l,some o):=funext λx=>Tr.pB _ _ _ _
end
section
variable {E:Env} {g:Gh} {f:Hf} {w:World}
variable {P:Program}
def Jk (h:Vc E x=true):∃k fi ca fn,x= .fn (.func k) fi ca/\E.fn.get k=some fn/\fn.body.isSome=true:=by
 cases x with
 |fn f fi ca=>
  cases f with
  |func k=>
   have h: @Option.rec Func (λ_=>Bool) false (λfn=>fn.body.isSome) (E.fn.get k)=true:=h
   cases hf:E.fn.get k with
   |none=>rw[hf] at h;cases h
   |some fn=>rw[hf] at h;exact ⟨k,fi,ca,fn,rfl,hf,h⟩
  |_=>cases h
 |_=>cases h
def pK (hf:P.funcs[k]? =some fn) (hb:fn.body.isSome=true) (args:hY) (w:World):
  ((callFunc k args).run P w= .ok .numGoroutine w/\fn.name= "runtime.NumGoroutine")\/(callFunc k args).run P w= .ok (.enter k args) w:=by
 have h2:fn.body≠none:=by cases hfb:fn.body<;>simp_all
 by_cases h:fn.name= "runtime.NumGoroutine"
 ·left;exact ⟨by simp[callFunc,hf,h,Sem.run],h⟩
 ·right;simp[callFunc,hf,h,h2,Sem.run]
def IH (k:FuncId) (fi ca us:hY) (w:World):(Deferred.ofValue (.func (.func k) fi ca) us).run P w= .ok {target:=.fn (.func k) ca,args:=fi++us} w:=rfl
def zZ {mk:List Dm} {k:de->List Dm->Hs->Out} (hs:seqE e tm mk h k= .db r):(e= .normal/\k tm mk h= .db r)\/(e≠ .normal/\r= [⟨e,tm,mk,h⟩]):=by
 cases e with
 |normal=>exact .inl ⟨rfl,hs⟩
 |exit id=>cases hs;exact .inr ⟨λe=>(by cases e),rfl⟩
 |ret=>cases hs;exact .inr ⟨λe=>(by cases e),rfl⟩
 |fR v=>cases hs;exact .inr ⟨λe=>(by cases e),rfl⟩
def Ox (hS:B9 E) (jD:∀j,Sound E j (rec j)) (nt:Nat) (c:Code) (tm:de) (mk:List Dm) (h:Hs):Sound E (.code nt c tm mk h) (ayv c E rec nt tm mk h):=by
 cases c with
 |skip=>exact λhb=>kj.calm .normal (λ_=>.normal) hb λro m Q a w hq=>wpIn_skip hq
 |ret=>exact λhb=>kj.calm .ret (λ_=>.ret) hb λro m Q a w hq=>wpIn_ret hq
 |exit id=>exact λhb=>kj.calm (.exit id) (λ_=>.exit id) hb λro m Q a w hq=>wpIn_exit hq
 |region id ops draw=>
  cases draw with
  |false=>
   show Sound E _ (rec (.ops nt ops.toList ops.toList tm mk h));have hs:=jD (.ops nt ops.toList ops.toList tm mk h);cases hr:rec (.ops nt ops.toList ops.toList tm mk h) with
   |db r=>
    rw[hr] at hs;intro hb;exact kj.ops (hs ops rfl (by simp) hb)
   |_=>trivial
  |true=>
   show Sound E _ (stK (rec (.draw nt ops.size ops.toList h.nx 0 0 [] ops.toList tm ⟨h.hp,Nat.add h.nx ops.size,h.lg⟩)) λw5 h'=>.code .normal w5 mk h')
   have hs:=jD (.draw nt ops.size ops.toList h.nx 0 0 [] ops.toList tm ⟨h.hp,Nat.add h.nx ops.size,h.lg⟩);cases hr:rec (.draw nt ops.size ops.toList h.nx 0 0 [] ops.toList tm ⟨h.hp,Nat.add h.nx ops.size,h.lg⟩) with
   |st D1 h1=>
    rw[hr] at hs;intro hb;obtain ⟨f1,out,hd⟩:=hs ops rfl rfl (by simp) (dg _) (λx hx=>hb x (jf (xw _ _) hx)) (λx hx hc=>hx (hb x (by omega))) (JS.zero _ _) (λp hp=>by simp at hp) [] rfl
    exact kj.draw f1 hd
   |_=>trivial
 |seq a b=>
  show Sound E _ (UE (rec (.code nt a tm mk h)) λw5 mk' h'=>rec (.code nt b w5 mk' h'))
  cases fA:UE (rec (.code nt a tm mk h)) λw5 mk' h'=>rec (.code nt b w5 mk' h') with
  |db r=>
   obtain ⟨l1,h1,h2⟩:=Bf fA;obtain ⟨_,q1,q2⟩:=uf h2;have hs:=jD (.code nt a tm mk h);rw[h1] at hs;intro hb;have k1:=hs hb;have sub:∀(o:Oc) r',o∈l1->rec (.code nt b o.tm o.dm o.h)= .db r'->kj E nt b o.tm o.dm o.h r':=λo r' ho jA=>by
    have:=jD (.code nt b o.tm o.dm o.h);rw[jA] at this;exact this (k1.2.1 o ho).1.bd
   refine k1.seq (λo ho=> ?_) (λx hx=> ?_)
   ·obtain ⟨r',e1,e2⟩:=q1 o ho;rcases zZ e1 with ⟨he,jA⟩|⟨he,rfl⟩
    ·exact .inl ⟨he,r',sub o r' ho jA,e2⟩
    ·exact .inr ⟨he,e2 _ (by simp)⟩
   ·obtain ⟨o,ho,r',e1,e2⟩:=q2 x hx;rcases zZ e1 with ⟨he,jA⟩|⟨he,rfl⟩
    ·exact ⟨o,ho,.inl ⟨r',sub o r' ho jA,e2⟩⟩
    ·exact ⟨o,ho,.inr (ez.1 e2)⟩
  |_=>trivial
 |cond c a b=>
  show Sound E _ (alB (cD tm.get c) (rec (.code nt a tm mk h)) (rec (.code nt b tm mk h)));unfold alB;cases hv:az (cD tm.get c) oT with
  |none=>trivial
  |some t=>
   obtain ⟨x,h1,h2⟩:=aq hv;obtain rfl:=uO h2;have hev:∀(g:Gh) (ac:Act),FR g nt tm.get ac.tmps->ac.eval c= .bool t:=λg ac dY=>by
    have:=om dY h1;generalize ac.eval c=u at this;cases this;rfl
   show Sound E _ (aP t (rec (.code nt a tm mk h)) (rec (.code nt b tm mk h)));cases t with
   |true=>
    show Sound E _ (rec (.code nt a tm mk h));have hs:=jD (.code nt a tm mk h);cases hr:rec (.code nt a tm mk h) with
    |db r=>
     rw[hr] at hs;intro hb;obtain ⟨n1,f1,s1⟩:=hs hb;exact ⟨n1,f1,λro m g ac w Q jn ij hE dY hrr hm eQ hk=>wpIn_cond_true (hev g ac dY) (nT (s1 ro m g ac w Q (okL jn) ij hE dY hrr hm eQ hk))⟩
    |_=>trivial
   |false=>
    show Sound E _ (rec (.code nt b tm mk h));have hs:=jD (.code nt b tm mk h);cases hr:rec (.code nt b tm mk h) with
    |db r=>
     rw[hr] at hs;intro hb;obtain ⟨n1,f1,s1⟩:=hs hb;exact ⟨n1,f1,λro m g ac w Q jn ij hE dY hrr hm eQ hk=>wpIn_cond_false (hev g ac dY) (nT (s1 ro m g ac w Q (okR jn) ij hE dY hrr hm eQ hk))⟩
    |_=>trivial
 |block id c=>
  show Sound E _ (aci id (rec (.code nt c tm mk h)));cases fA:aci id (rec (.code nt c tm mk h)) with
  |db r=>
   obtain ⟨l1,h1,h2⟩:=Bf fA;obtain ⟨_,q1,q2⟩:=uf h2;have hs:=jD (.code nt c tm mk h);rw[h1] at hs;intro hb;refine (hs hb).block (λx=>⟨λhx=> ?_,λ⟨o,ho,hx⟩=> ?_⟩)
   ·obtain ⟨o,ho,r',e1,e2⟩:=q2 x hx;cases e1;exact ⟨o,ho,ez.1 e2⟩
   ·obtain ⟨r',e1,e2⟩:=q1 o ho;cases e1;subst hx;exact e2 _ (by simp)
  |_=>trivial
 |loop c=>
  show Sound E _ (UE (rec (.code nt c tm mk h)) λw5 mk' h'=>rec (.code nt (.loop c) w5 mk' h'))
  cases fA:UE (rec (.code nt c tm mk h)) λw5 mk' h'=>rec (.code nt (.loop c) w5 mk' h') with
  |db r=>
   obtain ⟨l1,h1,h2⟩:=Bf fA;obtain ⟨_,q1,q2⟩:=uf h2;have hs:=jD (.code nt c tm mk h);rw[h1] at hs;intro hb;have k1:=hs hb;have sub:∀(o:Oc) r',o∈l1->rec (.code nt (.loop c) o.tm o.dm o.h)= .db r'->kj E nt (.loop c) o.tm o.dm o.h r':=λo r' ho jA=>by
    have:=jD (.code nt (.loop c) o.tm o.dm o.h);rw[jA] at this;exact this (k1.2.1 o ho).1.bd
   refine k1.loop (λo ho=> ?_) (λx hx=> ?_)
   ·obtain ⟨r',e1,e2⟩:=q1 o ho;rcases zZ e1 with ⟨he,jA⟩|⟨he,rfl⟩
    ·exact .inl ⟨he,r',sub o r' ho jA,e2⟩
    ·exact .inr ⟨he,e2 _ (by simp)⟩
   ·obtain ⟨o,ho,r',e1,e2⟩:=q2 x hx;rcases zZ e1 with ⟨he,jA⟩|⟨he,rfl⟩
    ·exact ⟨o,ho,.inl ⟨r',sub o r' ho jA,e2⟩⟩
    ·exact ⟨o,ho,.inr (ez.1 e2)⟩
  |_=>trivial
 |_=>trivial
end
section
variable {E:Env} {g:Gh} {f:Hf} {w:World}
variable {nt:Nat} {T:Tf} {a:Act}
def HR.grow (h:HR g f w) (mD:w.heap.size<=w'.heap.size) (hs:∀b,b<w.heap.size->w'.heap[b]? =w.heap[b]?):HR g f w':=
 ⟨λid o ho=>let ⟨b,c,q1,q2,q3⟩:=h.ob id o ho;⟨b,c,q1,my q2 mD,q3.mono (.refl _) q1 (hs b q2)⟩,h.inj⟩
def aah (a:Act):ResultVar->Go.Sem Value
 | .tmp t=>pure (a.tmps.getD t undef)
 | .cell k t=>do loadVar t (<-asAddr (a.tmps.getD k undef))
def afG (hE:dV E g) (h:HR g f w) (dY:FR g nt T a.tmps) (hx:OZ E T f rv=some x):∃v,(aah a rv).run E.P w= .ok v w/\VR g v x:=by
 cases rv with
 |tmp t=>exact ⟨_,rfl,dY.tm t x hx⟩
 |cell k t=>
  obtain ⟨y,hy,hl⟩:=aq (show az (T k) (oW E f t)=some x from hx);have hu:=dY.tm k y hy;obtain ⟨v,hv,hvr⟩:=Pw hE h hu hl;obtain ⟨q,h1,_⟩:=aq hl;obtain rfl:=od h1;refine ⟨v,?_,hvr⟩;generalize hz:a.tmps.getD k undef=z at hu hv;cases hu with
  |ptr hρ=>
   simp only[Instr.loadAt,Instr.sureAddr,Sem.run_bind,Sem.run_pure,Result.andThen_ok] at hv;simp only[aah,hz,asAddr,Sem.run_bind,Sem.run_pure,Result.andThen_ok];exact hv
def Iy (hE:dV E g) (h:HR g f w) {nt:Nat} {T:Tf} {a:Act} (dY:FR g nt T a.tmps):∀{rvs:List ResultVar} {xs:aY},sC E T f rvs=some xs->∃vs,(rvs.mapM (aah a)).run E.P w= .ok vs w/\j6 g vs xs
 | [],xs,hx=>by cases hx;exact ⟨[],by simp,.nil⟩
 |rv::rvs,xs,hx=>by
  obtain ⟨x,l,h1,h2,hx⟩:=bp (show bU (OZ E T f rv) (sC E T f rvs) (λv l=>some (v::l))=some xs from hx)
  cases hx;obtain ⟨v,pO,qX⟩:=afG hE h dY h1;obtain ⟨vs,hs1,hs2⟩:=Iy hE h dY h2;refine ⟨v::vs,?_,.cons qX hs2⟩;rw[SC];simp only[Sem.run_bind];rw[pO];simp only[Result.andThen_ok];rw[hs1];simp
def Ix (hE:dV E g) (h:HR g f w) (dY:FR g nt T a.tmps) (hx:sC E T f fn.results.toList=some xs):∃v,(results fn a.tmps).run E.P w= .ok v w/\VR g v (oneOf xs):=by
 obtain ⟨vs,h1,h2⟩:=Iy hE h dY hx;refine ⟨if h:vs.toArray.size=1 then vs.toArray[0] else .tuple vs.toArray,?_,?_⟩
 ·have e:∀f:ResultVar->Go.Sem Value,(∀x,f x=aah a x)->fn.results.mapM f=fn.results.mapM (aah a):=λf hf=>by rw[funext hf]
  unfold results;rw[e _ (λx=>by cases x<;>rfl)]
  rw[<-Array.toArray_toList (xs:=fn.results),List.mapM_toArray];simp only[Sem.run_bind,Sem.run_map];rw[h1];simp
 ·cases h2 with
  |nil=>exact .cS (by simpa using .nil)
  | @cons v x vs' xs' hv ht=>
   cases ht with
   |nil=>simpa[oneOf] using hv
   | @cons v2 x2 vs2 xs2 qX ht2=>
    have:¬(v::v2::vs2).toArray.size=1:=by simp
    rw[dif_neg this];exact .cS (by simpa using .cons hv (.cons qX ht2))
def Dh:∀(vs:aY) (i:Nat) (t:de) (j:Nat),(setArgs vs i t).get j=if i<=j/\j<i+vs.length then vs[j-i]? else t.get j
 | [],i,t,j=>by
  have:¬(i<=j/\j<i+([]:aY).length):=by simp
  rw[aM this];rfl
 |v::vs,i,t,j=>by
  have e:setArgs (v::vs) i t=setArgs vs (i+1) (t.set i (some v)):=rfl;rw[e,Dh vs (i+1) _ j,Tr.pB];by_cases h1:j=i
  ·subst h1;rw[aM (by omega),aH rfl,aH (by simp)]
   simp
  ·by_cases h2:i+1<=j/\j<i+1+vs.length
   ·rw[aH h2,aH (by simp;omega)]
    have:j-i=(j-(i+1))+1:=by omega
    rw[this,rU]
   ·rw[aM h2,aM h1,aM (by simp;omega)]
def FR.args {us:fq} (h:j6 g us aa) (hn:aa.length<=nt):FR g nt (setArgs aa 0 .nil).get (us.toArray++Array.replicate (nt-us.toArray.size) undef):=by
 have hl:=h.length;refine ⟨by simp;omega,λt x hx=> ?_⟩
 rw[Dh] at hx;split at hx
 ·rename_i hc;obtain ⟨v,h1,h2⟩:=h.get hx;have cV:t<us.length:=by omega
  have e:(us.toArray++Array.replicate (nt-us.toArray.size) undef).getD t undef=v:=by
   rw[ma,HX (by simpa using cV)]
   simp only[Nat.sub_zero] at h1;simp[h1]
  rw[e];exact h2
 ·cases hx
def oA.calls {fR:Bool} (h:oA E fR fv aa H nx v h'.hp.get h'.nx):yf E fv aa H nx [⟨fR,v,h'⟩]:=
 λm g w u us hE hr eQ hu jG=>(h m g w u us hE hr eQ hu jG).mono λe w' ⟨r,q1,g',q2,q3,q4,q5,q6⟩=>⟨_,ez.2 rfl,r,g',q1,q2,q3,q4,q5,q6⟩
def avm {r:Rs} (h1:Bd h->p9 h r.h/\oA E r.fR fv aa h.hp.get h.nx r.v r.h.hp.get r.h.nx):Sound E (.call fv aa h) (.ir [r]):=by
 intro hb;obtain ⟨q1,q2⟩:=h1 hb;refine ⟨by simp,λr' hr=> ?_,q2.calls⟩
 obtain rfl:=ez.1 hr;exact q1
def URel (g:Gh) (u:ee) (um:FrameMode):Prop:=
 match u with
 |none=>um= .returning
 |some v=>∃x,um= .panicking [{v:=x,recovered:=false}]/\VR g x v
end
section
variable {E:Env} {g:Gh} {f:Hf} {w:World}
def IT (hS:B9 E) (jD:∀j,Sound E j (rec j)):∀(mk:List Dm) (u:ee) (h:Hs) (l:List Rs),Ep E fn tm mk u h= .ir l->Bd h->l≠ []/\(∀r∈l,p9 h r.h)/\
  ∀(m nt:Nat) (g:Gh) (w:World) (a:Act) (ds:List Deferred) (um:FrameMode) (R:Ending->World->Prop),dV E g->FR g nt tm.get a.tmps->HR g h.hp.get w->Marks g mk ds->URel g u um->(∀x,h.nx<=x->g.Z x=none)->
   (∀r∈l,∀e w',Qp g h.hp.get w h.nx r e w'->R e w')->LeavesInM Fence.wide m E.P fn a.tmps R ds um w
 | [],u,h,l,fA,hb=>by
  have fA:auS E fn tm u h= .ir l:=fA;unfold auS at fA;cases u with
  |some v=>
   cases (show Out.ir [⟨true,v,h⟩]= .ir l from fA);refine ⟨by simp,λr hr=> ?_,λm nt g w a ds um R hE dY hr vQ hu eQ hk=> ?_⟩
   ·obtain rfl:=ez.1 hr;exact p9.refl hb
   ·cases vQ;obtain ⟨x,rfl,hx⟩:=hu;exact hk _ (ez.2 rfl) _ _ ⟨x,g,rfl,hx,hr,Fr.refl _ _ _,λ_ _=>rfl,eQ⟩
  |none=>
   have fA: @Option.rec aY (λ_=>Out) (.fail fn.name) (λvs=>.res (oneOf vs) h) (sC E tm.get h.hp.get fn.results.toList)= .ir l:=fA
   cases hv:sC E tm.get h.hp.get fn.results.toList with
   |none=>rw[hv] at fA;cases fA
   |some vs=>
    rw[hv] at fA;cases (show Out.ir [⟨false,oneOf vs,h⟩]= .ir l from fA);refine ⟨by simp,λr hr=> ?_,λm nt g w a ds um R hE dY hr vQ hu eQ hk=> ?_⟩
    ·obtain rfl:=ez.1 hr;exact p9.refl hb
    ·cases vQ;have hu:um= .returning:=hu;subst hu;obtain ⟨v,pO,qX⟩:=Ix hE hr dY hv;exact ⟨v,pO,hk _ (ez.2 rfl) _ _ ⟨v,g,rfl,qX,hr,Fr.refl _ _ _,λ_ _=>rfl,eQ⟩⟩
 |_::_,_,_,_,fA,_=>by cases fA
end
section
variable {E:Env} {g:Gh} {f:Hf} {w:World}
structure Weak (a j:Rs):Prop where
 fR:j.fR=a.fR
 v:j.v=a.v
 sub:∀x z,j.h.hp.get x=some z->a.h.hp.get x=some z
 nx:a.h.nx<=j.h.nx
def Weak.post {a j:Rs} (h:Weak a j) {e:Ending} (hp:Qp g H w nx a e w'):Qp g H w nx j e w':=by
 obtain ⟨u,g',h1,h2,h3,h4,h5,h6⟩:=hp;refine ⟨u,g',by rw[h.fR];exact h1,by rw[h.v];exact h2,h3.sub h.sub,⟨h4.os,h4.tape,h4.output,h4.size,h4.le,h4.old,λb hb ⟨id,o,c,q1,q2⟩=>h4.own b hb ⟨id,o,c,h.sub id o q1,q2⟩⟩,h5,λx hx=>h6 x (jf h.nx hx)⟩
def P7 {r:Out} {l:List Rs} (h:Xt nx lg r= .ir l):∃l',r= .ir l'/\(l'≠ [])/\(∀x∈l',(⟨x.fR,x.v,⟨x.h.hp,x.h.nx,below nx x.h.lg lg⟩⟩:Rs)∈l)/\∀y∈l,∃x∈l',y=⟨x.fR,x.v,⟨x.h.hp,x.h.nx,below nx x.h.lg lg⟩⟩:=by
 obtain ⟨l',h1,h2⟩:=aoQ h;obtain ⟨n1,q1,q2⟩:=JC h2;have one:∀(x:Rs) r',aP x.fR (Out.fR x.v ⟨x.h.hp,x.h.nx,below nx x.h.lg lg⟩) (.res x.v ⟨x.h.hp,x.h.nx,below nx x.h.lg lg⟩)= .ir r'->r'= [⟨x.fR,x.v,⟨x.h.hp,x.h.nx,below nx x.h.lg lg⟩⟩]:=by
  intro x r' hx;cases hp:x.fR with
  |false=>rw[hp] at hx;cases hx;rfl
  |true=>rw[hp] at hx;cases hx;rfl
 refine ⟨l',h1,n1,λx hx=> ?_,λy hy=> ?_⟩
 ·obtain ⟨r',e1,e2⟩:=q1 x hx;rw[one x r' e1] at e2;exact e2 _ (by simp)
 ·obtain ⟨x,hx,r',e1,e2⟩:=q2 y hy;rw[one x r' e1] at e2;exact ⟨x,hx,ez.1 e2⟩
def aqU (hS:B9 E) (jD:∀j,Sound E j (rec j)) {c:Code} {ca:aY} (sY:E.fn.get k=some fn) (oh:fn.body=some c) (I4:fn.name≠ "runtime.NumGoroutine") (hlen:(fi++aa++ca).length<=fn.ntmps):
  Sound E (.call (.fn (.func k) fi ca) aa h) (aaf E rec fn h.nx h.lg (rec (.code fn.ntmps c (setArgs (fi++aa++ca) 0 .nil) [] ⟨h.hp,h.nx,[]⟩))):=by
 cases fA:aaf E rec fn h.nx h.lg (rec (.code fn.ntmps c (setArgs (fi++aa++ca) 0 .nil) [] ⟨h.hp,h.nx,[]⟩)) with
 |ir l=>
  intro hb;unfold aaf at fA;obtain ⟨l1,h1,h2⟩:=afM fA;obtain ⟨_,q1,q2⟩:=JC h2;have hs:=jD (.code fn.ntmps c (setArgs (fi++aa++ca) 0 .nil) [] ⟨h.hp,h.nx,[]⟩);rw[h1] at hs;obtain ⟨n1,f1,s1⟩:=hs hb;have way:∀o∈l1,∃u l2,LG o.e=some u/\Ep E fn o.tm o.dm u o.h= .ir l2/\l2≠ []/\∀x∈l2,(⟨x.fR,x.v,⟨x.h.hp,x.h.nx,below h.nx x.h.lg h.lg⟩⟩:Rs)∈l:=by
   intro o ho;obtain ⟨r',e1,e2⟩:=q1 o ho;cases hu:LG o.e with
   |none=>rw[hu] at e1;cases e1
   |some u=>
    rw[hu] at e1;obtain ⟨l2,e3,e4,e5,_⟩:=P7 (show Xt h.nx h.lg (Ep E fn o.tm o.dm u o.h)= .ir r' from e1);exact ⟨u,l2,rfl,e3,e4,λx hx=>e2 _ (e5 x hx)⟩
  have back:∀y∈l,∃o∈l1,∃u l2,Ep E fn o.tm o.dm u o.h= .ir l2/\∃x∈l2,y=⟨x.fR,x.v,⟨x.h.hp,x.h.nx,below h.nx x.h.lg h.lg⟩⟩:=by
   intro y hy;obtain ⟨o,ho,r',e1,e2⟩:=q2 y hy;cases hu:LG o.e with
   |none=>rw[hu] at e1;cases e1
   |some u=>
    rw[hu] at e1;obtain ⟨l2,e3,e4,_,e5⟩:=P7 (show Xt h.nx h.lg (Ep E fn o.tm o.dm u o.h)= .ir r' from e1);obtain ⟨x,hx,e6⟩:=e5 y e2;exact ⟨o,ho,u,l2,e3,x,hx,e6⟩
  refine ⟨?_,λy hy=> ?_,λm g w u us hE hr eQ hu jG=> ?_⟩
  ·obtain ⟨o,ho⟩:=mG _ n1;obtain ⟨u,l2,_,_,e4,e5⟩:=way o ho;obtain ⟨x,hx⟩:=mG _ e4;exact Av (e5 x hx)
  ·obtain ⟨o,ho,u,l2,e3,x,hx,rfl⟩:=back y hy;obtain ⟨_,f2,_⟩:=IT hS jD _ _ _ _ e3 (f1 o ho).1.bd;have f3:=(f1 o ho).1.trans (f2 x hx);refine ⟨f3.nx,f3.bd,λz hz hn=>f3.lg z hz (λhc=>hn (oq.2 (.inl ⟨hc,hz⟩))),λz hz=>oq.2 (.inr hz),f3.dead⟩
  cases hu with
  | @fn _ first eG _ _ pO qX=>
  obtain ⟨hPf,jn⟩:=hS.fn k fn sY;have qz:j6 g (first.toList++us++eG.toList) (fi++aa++ca):=(pO.append jG).append qX
  have ph:first++us.toArray++eG=(first.toList++us++eG.toList).toArray:=by apply uC;simp
  have aue:codeOk c=true:=by
   have jn: @Option.rec Code (λ_=>Bool) true codeOk fn.body=true:=jn
   rw[oh] at jn;exact jn
  refine ⟨{target:=.fn (.func k) eG,args:=first++us.toArray},rfl,.inl ⟨k,first++us.toArray++eG,?_,?_⟩⟩
  ·show (callFunc k (first++us.toArray++eG)).run E.P w=_
   rcases pK hPf (by rw[oh];rfl) (first++us.toArray++eG) w with ⟨_,hc⟩|hc
   ·exact absurd hc I4
   ·exact hc
  rw[ph];refine callsIn_of_wp_marks (F:=Fence.wide) hPf oh trivial (nT (F:=ot none) ?_);refine s1 none m g {tmps:=_,defers:= []} w _ aue (.inl rfl) hE (FR.args qz hlen) hr .nil eQ (λo ho g1 a1 w1 x p0 p1 p2 p3 p4 p5 p6=> ?_)
  obtain ⟨uu,l2,Dt,hlv,_,il⟩:=way o ho;obtain ⟨_,f2,s2⟩:=IT hS jD _ _ _ _ hlv (f1 o ho).1.bd;have fin:∀um,URel g1 uu um->LeavesInM Fence.wide m E.P fn a1.tmps (λe w'=>∃r∈l,Qp g h.hp.get w h.nx r e w') a1.defers um w1:=by
   intro um hum;refine s2 m _ g1 w1 a1 a1.defers um _ (hE.mono p3.le) p1 p2 p4 hum p5 (λr hr e w' ⟨z,g',t1,t2,t3,t4,t5,t6⟩=> ?_)
   exact ⟨_,il r hr,z,g',t1,t2,t3,p3.trans t4,λy hy=>by rw[t5 y (my hy (f1 o ho).1.nx),p6 y hy],t6⟩
  generalize hoe:o.e=e at p0 Dt;cases p0 with
  |normal=>cases Dt;exact fin .returning rfl
  |ret=>cases Dt;exact fin .returning rfl
  |exit id=>cases Dt
  | @fR v z hv=>cases Dt;exact fin _ ⟨z,rfl,hv⟩
 |_=>trivial
def NR (h1:Bd h->p9 h h'/\oA E false fv aa h.hp.get h.nx v h'.hp.get h'.nx):Sound E (.call fv aa h) (.res v h'):=avm (r:=⟨false,v,h'⟩) h1
def ajx {g:Gh} {w:World} (hr:HR g h.hp.get w) (hs:BP w w'):HR g h.hp.get w'/\Fr g h.hp.get w g h.hp.get w':=
 ⟨hr.grow hs.size hs.heap,⟨hs.os,hs.tape,hs.output,hs.size,.refl _,λb hb _=>hs.heap b hb,λb hb hm=>hm⟩⟩
def GD {P:Program} (h:N2 P k) (args:hY) (w:World):(callFunc k args).run P w= .ok (.enter k args) w:=by
 obtain ⟨fn,h1,h2,h3⟩:=h;rcases pK h1 h2 args w with ⟨_,hc⟩|hc
 ·exact absurd hc h3
 ·exact hc
def ave {B C:Nat} (h1:A<=B) (h2:B<=C) (h3:C<=svs.length) (t:Nat):(zr A B C svs)[t]? =if t<A then svs[t]? else if t<A+(C-B) then svs[t+(B-A)]? else if t<C then some SV.undef else svs[t]? :=by
 have e:zr A B C svs=svs.take A++((svs.drop B).take (C-B)++(List.replicate (B-A) SV.undef++svs.drop C)):=rfl;rw[e,qD,dZ,fE (by omega)]
 by_cases q1:t<A
 ·rw[aH q1,aH q1,fa,aH q1]
 ·rw[aM q1,aM q1,qD,dZ,iE,fE (by omega)]
  by_cases q2:t<A+(C-B)
  ·rw[aH (by omega),aH q2,fa,aH (by omega),fc]
   congr 1;omega
  ·rw[aM (by omega),aM q2,qD,tQ]
   by_cases q3:t<C
   ·rw[aH (by omega),aH q3,List.getElem?_replicate,aH (by omega)]
   ·rw[aM (by omega),aM q3,fc]
    congr 1;omega
def avd {B C:Nat} (h1:A<=B) (h2:B<=C) (h3:C<=svs.length):(zr A B C svs).length=svs.length:=by
 show (svs.take A++((svs.drop B).take (C-B)++(List.replicate (B-A) SV.undef++svs.drop C))).length=_;simp;omega
def j6.three {us:fq} {z:SV} (h:j6 g us [x,y,z]):∃a b c,us= [a,b,c]/\VR g a x/\VR g b y/\VR g c z:=by
 cases h with|cons h1 ht=>cases ht with|cons h2 ht=>cases ht with|cons h3 ht=>cases ht;exact ⟨_,_,_,rfl,h1,h2,h3⟩
def Cells.at {id o:Nat} {e:TypeId} (h:Cells g w id b o e cs):∃cur:hY,w.heap[b]? =some (.cells cur e (0,0))/\o+g.lim id<=cur.size/\o+cs.length<=cur.size/\∀(t:Nat) (x:SV),cs[t]? =some x->∃v,cur[o+t]? =some v/\v.oneCell'=true/\VR g v x:=by
 obtain ⟨⟨cur,m1,m0,vs,m2,m3⟩,m4⟩:=h;refine ⟨cur,m1,m0,?_,λt x hx=> ?_⟩
 ·have hl:=m2.length;rcases Om cs.length with q|q
  ·omega
  ·have:=m3 (cs.length-1) _ (dJ (by omega))
   have:=(na.1 this).1;omega
 ·obtain ⟨v,v1,v2,v3⟩:=m2.get hx;exact ⟨v,m3 t v v1,v2,v3⟩
def gL.apu {o:Nat} (h4:∀(t:Nat) (x:SV),cs[t]? =some x->∃v,cur[o+t]? =some v/\v.oneCell'=true/\VR g v x):∃vs,gL g vs cs/\∀(j:Nat) (v:Value),vs[j]? =some v->cur[o+j]? =some v:=by
 refine ⟨(cur.toList.drop o).take cs.length,gL.mk ?_ λj v x hv hx=> ?_,λj v hv=> ?_⟩
 ·rcases Om cs.length with q|q
  ·rw[q];simp
  ·obtain ⟨v,a,_,_⟩:=h4 (cs.length-1) _ (dJ (by omega))
   have:=(na.1 a).1;simp;omega
 ·obtain ⟨v',a,b,c⟩:=h4 j x hx;have hj:=(cf.1 hx).1;rw[fa,aH hj,fc,lx,a] at hv;cases hv;exact ⟨b,c⟩
 ·rw[fa] at hv;split at hv
  ·rw[fc,lx] at hv;exact hv
  ·cases hv
def Cells.mk' {id o:Nat} {e:TypeId} (h1:w.heap[b]? =some (.cells cur e (0,0))) (h2:o+g.lim id<=cur.size) (h3:g.et id=e) (h4:∀(t:Nat) (x:SV),cs[t]? =some x->∃v,cur[o+t]? =some v/\v.oneCell'=true/\VR g v x):Cells g w id b o e cs:=by
 obtain ⟨vs,a,b⟩:=gL.apu h4;exact ⟨⟨cur,h1,h2,vs,a,b⟩,h3⟩
def PG:∀{l:aY} {xs:List Int},Lu l=some xs->l=mI xs
 | [],xs,h=>by cases h;rfl
 |v::l,xs,h=>by
  obtain ⟨x,r,h1,h2,h3⟩:=bp (show bU (akt v) (Lu l) (λx r=>some (x::r))=some xs from h)
  cases h3;rw[PG h2];unfold akt at h1;split at h1
  ·cases h1;rfl
  ·cases h1
def Jx:∀xs:List Int,(kT xs).length<=xs.length
 | []=>dg _
 | [x]=>dg _
 |x::y::l=>by
  have:=Jx (y::l);show (if x=y then kT (y::l) else x::kT (y::l)).length<=_
  split
  ·exact Nat.le_succ_of_le this
  ·exact Nat.succ_le_succ this
def abf (x:Int):∀ys:List Int,(zn x ys).length=ys.length+1
 | []=>rfl
 |y::ys=>by
  unfold zn;split
  ·rfl
  ·rw[kq,abf x ys];rfl
def V1:∀xs:List Int,(lI xs).length=xs.length
 | []=>rfl
 |x::xs=>by rw[lI,abf,V1 xs];rfl
def aqN (b:Bool) (xs:List Int):(Ae b xs).length=xs.length:=by
 cases b
 ·have:=Jx xs;show (kT xs++List.replicate (xs.length-(kT xs).length) 0).length=_;rw[gD,tQ];omega
 ·exact V1 xs
def j6.one {us:fq} (h:j6 g us [x]):∃a,us= [a]/\VR g a x:=by
 cases h with|cons h1 ht=>cases ht;exact ⟨_,rfl,h1⟩
def aqM {k:Nat} {z:Bool} (hP:Qr E.P k z) (h:HR g f w) {us:fq} (jG:j6 g us aa) {lQ:dN} (ho:PE z f aa=some (v,lQ)) (m:Nat):
  N2 E.P k/\CallsIn Fence.wide m E.P k us.toArray w λe w'=>∃r g',e= .returned r/\gV g f w v lQ new r g' w':=by
 obtain ⟨qo,h0,h1⟩:=hP;refine ⟨qo,?_⟩;unfold PE at ho;split at ho
 ·cases ho;obtain ⟨a,rfl,q⟩:=jG.one;cases q;refine CallsIn.mono (h0 m w none 0) ?_;rintro e w' ⟨rfl,e1,e2,e3,e4⟩;have hs:BP w w':=⟨e2,e3,e4,by rw[e1];exact dg _,λb _=>by rw[e1]⟩
  refine ⟨_,g,rfl,?_,h.grow hs.size hs.heap,⟨hs.os,hs.tape,hs.output,hs.size,.refl _,λb hb _=>hs.heap b hb,λb hb hm=>hm⟩,λ_ _=>rfl,λ_=>rfl⟩
  cases z
  ·exact .dD
  ·exact .cS .nil
 ·rename_i id off n cp;rw[bG] at ho;split at ho
  ·rename_i hn0;have hn0:n=0:=(beq_iff _ _).1 hn0;subst hn0;cases ho;obtain ⟨a,rfl,q⟩:=jG.one;cases q with
   | @sl _ _ _ b o c _ hρ uL jh vr=>
   refine CallsIn.mono (h0 m w (some ⟨b,o+off,none⟩) c) ?_;rintro e w' ⟨rfl,e1,e2,e3,e4⟩;have hs:BP w w':=⟨e2,e3,e4,by rw[e1];exact dg _,λb _=>by rw[e1]⟩
   refine ⟨_,g,rfl,?_,h.grow hs.size hs.heap,⟨hs.os,hs.tape,hs.output,hs.size,.refl _,λb hb _=>hs.heap b hb,λb hb hm=>hm⟩,λ_ _=>rfl,λ_=>rfl⟩
   cases z
   ·exact .sl hρ (qF _) jh vr
   ·exact .cS .nil
  obtain ⟨p,hp,ho⟩:=aq ho;obtain ⟨xs,hx,ho⟩:=aq ho;obtain ⟨hc,ho⟩:=aV ho;simp only[bF] at hc;obtain ⟨c0,c1,c2⟩:=hc;have c0:1<=n:=(bV _ _).1 c0;have c1:off+n<=p.2.length:=(bV _ _).1 c1;have c2:n<=4294967295:=(bV _ _).1 c2;cases ho;have hf:=kU hp;have hxs:=PG hx;have hn:xs.length=n:=by
   have:=bM List.length hxs;simp[mI] at this;omega
  subst hn;obtain ⟨a,rfl,q⟩:=jG.one;cases q with
  | @sl _ _ _ b o c _ hρ uL jh vr=>
  have o4:Cells g w id b o p.1 p.2:=(h.at hf hρ).2;obtain ⟨cur,m1,m0,ml,m2⟩:=o4.at;have mM:∀t x,xs[t]? =some x->p.2[off+t]? =some (.int .i64 (.lit x)):=λt x qW=>by
   have hl:=(cf.1 qW).1;have e:=bM (λl=>l[t]?) hxs
   rw[fa,aH hl,fc] at e;rw[e,mI,mH,qW];rfl
  refine CallsIn.mono (h1 m w b (o+off) c xs cur p.1 m1 (by omega) c2 uL λt x qW=> ?_) ?_
  ·obtain ⟨u,u1,_,u3⟩:=m2 _ _ (mM t x qW);cases u3 with|int _ _ e=>
   have e:_=x:=e;subst e;rw[fU];exact u1
  rintro e w' ⟨rfl,w1,iV,hw,hs,mD,r1,r2⟩;have hgl:=aqN z xs;have abB:Cells g w1 id b o p.1 (p.2.take off++(mI (Ae z xs)++p.2.drop (off+xs.length))):=Cells.mk' hw.heap (by rw[mD];exact m0) o4.et λt x qW=>by
   rw[qD,dZ,fE (by omega)] at qW
   split at qW
   ·rename_i ht;rw[fa,aH ht] at qW;rw[r1 (o+t) (.inl (by omega))];exact m2 t x qW
   ·rename_i ht;rw[qD,mI,nQ,hgl] at qW;split at qW
    ·rename_i ht2;rw[mH] at qW;cases hy:(Ae z xs)[t-off]? with
     |none=>rw[hy] at qW;cases qW
     |some y=>
      rw[hy] at qW;cases qW;have:=r2 _ _ hy;rw[show o+off+(t-off)=o+t by omega] at this
      exact ⟨_,this,rfl,.int _ _ rfl⟩
    ·rename_i ht2;rw[fc] at qW;rw[r1 (o+t) (.inr (by omega))]
     have:=m2 _ x qW;rw[show o+t=o+(off+xs.length+(t-off-xs.length)) by omega]
     exact this
  obtain ⟨t1,t2⟩:=h.write (o':=.cells p.1 _) hf hρ hw.size hw.HF abB hw.os hw.tape hw.output;have t3:=t1.grow hs.size hs.heap;refine ⟨_,g,rfl,?_,t3,?_,λ_ _=>rfl,λ_=>rfl⟩
  ·cases z
   ·have:=Jx xs;exact .sl hρ (by show (kT xs).length<=c;omega) jh vr
   ·exact .cS .nil
  ·exact t2.trans ⟨hs.os,hs.tape,hs.output,hs.size,.refl _,λb hb _=>hs.heap b hb,λb hb hm=>hm⟩
 ·cases ho
def V9 (hE:dV E g) {k c:Nat} (hP:Ap E k c) (h:HR g f w) (hn:g.Z new=none) {us:fq} (jG:j6 g us aa) {lQ:dN} (ho:qw E c f new aa=some (v,lQ)) (m:Nat):
  N2 E.P k/\CallsIn Fence.wide m E.P k us.toArray w λe w'=>∃r g',e= .returned r/\gV g f w v lQ new r g' w':=by
 unfold qw at ho;rw[bG] at ho;split at ho
 ·rename_i auq;exact aqM (hP.1 ((bV _ _).1 auq)) h jG ho m
 rename_i auq;obtain ⟨ie,hie,ho⟩:=aq ho;obtain ⟨hd,hi⟩:=hP.2 (by
  by_cases hc:c<1048576
  ·exact hc
  ·exact absurd ((bV _ _).2 (by omega)) auq) ie hie
 rw[bG] at ho;split at ho
 ·rename_i h0;obtain ⟨qo,hd⟩:=hd ((beq_iff _ _).1 h0);refine ⟨qo,?_⟩;unfold abX at ho;split at ho;rotate_left
  ·cases ho
  rename_i id off n cp a b _;obtain ⟨i,j,p,ha,hb,hp,ho⟩:=pY ho;obtain ⟨hc,ho⟩:=aV ho;simp only[bF] at hc;obtain ⟨c1,c2,c3⟩:=hc;have c1:i<j:=(bV _ _).1 c1;have c2:j<=n:=(bV _ _).1 c2;have c3:off+n*ie.size<=p.2.length:=(bV _ _).1 c3;cases ho;obtain rfl:=Ct ha;obtain rfl:=Ct hb;obtain ⟨x,y,z,rfl,q1,q2,q3⟩:=jG.three;have hf:=kU hp;cases q2 with|int _ _ e2=>cases q3 with|int _ _ e3=>
  have e2:_=(i:Int):=e2;have e3:_=(j:Int):=e3;subst e2;subst e3;cases q1 with
  | @sl _ _ _ b o c _ hρ uL jh vr=>
  have o4:Cells g w id b o p.1 p.2:=(h.at hf hρ).2;obtain ⟨cur,m1,m0,ml,m2⟩:=o4.at;have hA:i*ie.size<=j*ie.size:=kJ _ (by omega)
  have hB:j*ie.size<=n*ie.size:=kJ _ c2;refine CallsIn.mono (hd m w b (o+off) n c i j cur p.1 m1 (by omega) (λt ht u hu=> ?_) c1 c2 uL) ?_
  ·obtain ⟨u',u1,u2,_⟩:=m2 (off+t) _ (dJ (by omega))
   rw[<-fU,hu] at u1;cases u1;exact u2
  rintro e w' ⟨rfl,iV,hw,hs,r1,r2,r3⟩;have abB:Cells g w' id b o p.1 (zr (off+i*ie.size) (off+j*ie.size) (off+n*ie.size) p.2):=Cells.mk' hw.heap (by rw[hs];exact m0) o4.et λt x hx=>by
   rw[ave (by omega) (by omega) (by omega)] at hx
   split at hx
   ·rw[r1 (o+t) (.inl (by omega))];exact m2 t x hx
   ·split at hx
    ·have:=r2 (t-(off+i*ie.size)) (by omega)
     rw[show o+off+i*ie.size+(t-(off+i*ie.size))=o+t by omega,show o+off+j*ie.size+(t-(off+i*ie.size))=o+(t+(off+j*ie.size-(off+i*ie.size))) by omega] at this
     rw[this];exact m2 _ x hx
    ·split at hx
     ·cases hx;obtain ⟨u,u1,u2⟩:=r3 (t-(off+i*ie.size+(n*ie.size-j*ie.size))) (by omega)
      rw[show o+off+i*ie.size+(n*ie.size-j*ie.size)+(t-(off+i*ie.size+(n*ie.size-j*ie.size)))=o+t by omega] at u1
      exact ⟨u,u1,u2,.undef u⟩
     ·rw[r1 (o+t) (.inr (by omega))];exact m2 t x hx
  obtain ⟨t1,t2⟩:=h.write (o':=.cells p.1 _) hf hρ hw.size hw.HF abB hw.os hw.tape hw.output;exact ⟨_,g,rfl,.sl hρ (by show n-(j-i)<=c;omega) jh vr,t1,t2,λ_ _=>rfl,λ_=>rfl⟩
 ·rename_i h0;obtain ⟨qo,hi⟩:=hi (λe=>h0 ((beq_iff _ _).2 e))
  refine ⟨qo,?_⟩;unfold abd at ho;split at ho;rotate_left
  ·cases ho
  rename_i id off n cp a Cz vk q c2 _;obtain ⟨i,p,p2,ha,hp,hp2,ho⟩:=pY ho;obtain ⟨hc,ho⟩:=aV ho;simp only[bF] at hc;obtain ⟨c1,c3,c4,c5,c6,c7,c8,c9,c10⟩:=hc;have c1:i<=n:=(bV _ _).1 c1;have c3:1<=q:=(bV _ _).1 c3;have c4:n<=1000000:=(bV _ _).1 c4;have c5:q<=1000000:=(bV _ _).1 c5;have c6:id≠Cz:=λe=>by rw[(beq_iff _ _).2 e] at c6;cases c6
  have c7:p.1=Nat.div c 2:=(beq_iff _ _).1 c7;have c8:off+n*ie.size<=p.2.length:=(bV _ _).1 c8;have c9:vk+q*ie.size<=p2.2.length:=(bV _ _).1 c9;cases ho;obtain rfl:=Ct ha;obtain ⟨x,y,z,rfl,q1,q2,q3⟩:=jG.three;have hf:=kU hp;have hf2:=kU hp2;cases q2 with|int _ _ e2=>
  have e2:_=(i:Int):=e2;subst e2;cases q1 with
  | @sl _ _ _ b o cc _ hρ uL jh vr=>
  cases q3 with
  | @sl _ _ _ b2 o2 cc2 _ hρ2 hnc2 axI hlim2=>
  have o4:Cells g w id b o p.1 p.2:=(h.at hf hρ).2;have aET:Cells g w Cz b2 o2 p2.1 p2.2:=(h.at hf2 hρ2).2;obtain ⟨cur,m1,m0,ml,m2⟩:=o4.at;obtain ⟨aly,n1,n0,nl,n2⟩:=aET.at;have hbb:b2≠b:=λe=>c6 (h.inj id Cz _ _ b o o2 hf hf2 hρ (by rw[<-e];exact hρ2))
  have mq:o+off+cc*ie.size<=cur.size:=by
   cases cp with
   |k c0=>
    have:=jh c0 rfl;subst this;have:off+cc*ie.size<=p.2.length:=(bV _ _).1 c10;omega
   |u e0=>
    obtain ⟨l1,l2⟩:=vr e0 rfl;have:g.sz e0=ie.size:=by rw[<-l1,o4.et,c7];exact hE.size hie
    rw[this] at l2;omega
  refine CallsIn.mono (hi m w b (o+off) n cc i b2 (o2+vk) q cc2 cur aly p2.1 (by rw[m1,c7];rfl) n1 hbb mq (by omega) (λt ht u hu=> ?_) (λt ht u hu=> ?_) uL c4 c3 c5 c1) ?_
  ·obtain ⟨u',u1,u2,_⟩:=m2 (off+t) _ (dJ (by omega))
   rw[<-fU,hu] at u1;cases u1;exact u2
  ·obtain ⟨u',u1,u2,_⟩:=n2 (vk+t) _ (dJ (by omega))
   rw[<-fU,hu] at u1;cases u1;exact u2
  rintro e w' ⟨b',o',c',iV,rfl,hnc',hsz',mM,hw⟩;have hle:=Gh.Er (g:=g) (p:=(b',o')) (l:=c'*ie.size) (e:=Nat.div c 2) hn;have hxl:((p.2.drop off).take (n*ie.size)).length=n*ie.size:=by simp;omega
  have hyl:((p2.2.drop vk).take (q*ie.size)).length=q*ie.size:=by simp;omega
  have hXl:((cur.toList.drop (o+off)).take (n*ie.size)).length=n*ie.size:=by simp;omega
  have hYl:((aly.toList.drop (o2+vk)).take (q*ie.size)).length=q*ie.size:=by simp;omega
  have il:i*ie.size<=n*ie.size:=kJ _ c1;have axG:∀(t:Nat) (x:SV),(zp ((p.2.drop off).take (n*ie.size)) (i*ie.size) ((p2.2.drop vk).take (q*ie.size)))[t]? =some x->∃v,iV[o'+t]? =some v/\v.oneCell'=true/\VR g v x:=λt x hx=>by
   have hl:t<n*ie.size+q*ie.size:=by
    have:=(cf.1 hx).1;simp[zp] at this;omega
   rw[mM t (by rw[gA];exact hl)]
   show ∃v,((((cur.toList.drop (o+off)).take (n*ie.size)).take (i*ie.size))++(((aly.toList.drop (o2+vk)).take (q*ie.size))++(((cur.toList.drop (o+off)).take (n*ie.size)).drop (i*ie.size))))[t]? =some v/\_;have hx:((((p.2.drop off).take (n*ie.size)).take (i*ie.size))++(((p2.2.drop vk).take (q*ie.size))++(((p.2.drop off).take (n*ie.size)).drop (i*ie.size))))[t]? =some x:=hx;have src:∀s,s<n*ie.size->∀x,((p.2.drop off).take (n*ie.size))[s]? =some x->∃v,((cur.toList.drop (o+off)).take (n*ie.size))[s]? =some v/\v.oneCell'=true/\VR g v x:=λs hs x hx=>by
    rw[fa,aH hs,fc] at hx;obtain ⟨v,a,b,c⟩:=m2 _ x hx;exact ⟨v,by rw[fa,aH hs,fc,lx,fU];exact a,b,c⟩
   have src2:∀s,s<q*ie.size->∀x,((p2.2.drop vk).take (q*ie.size))[s]? =some x->∃v,((aly.toList.drop (o2+vk)).take (q*ie.size))[s]? =some v/\v.oneCell'=true/\VR g v x:=λs hs x hx=>by
    rw[fa,aH hs,fc] at hx;obtain ⟨v,a,b,c⟩:=n2 _ x hx;exact ⟨v,by rw[fa,aH hs,fc,lx,fU];exact a,b,c⟩
   rw[qD] at hx ⊢;rw[dZ,hxl,fE il] at hx;rw[dZ,hXl,fE il];by_cases q1:t<i*ie.size
   ·rw[aH q1,fa,aH q1] at hx;rw[aH q1,fa,aH q1];exact src t (by omega) x hx
   ·rw[aM q1,qD,hyl] at hx;rw[aM q1,qD,hYl];by_cases q2:t-i*ie.size<q*ie.size
    ·rw[aH q2] at hx;rw[aH q2];exact src2 _ q2 x hx
    ·rw[aM q2,fc] at hx;rw[aM q2,fc];exact src _ (by omega) x hx
  have uK:∀{h3:w'.heap[b']? =some (.cells iV (Nat.div c 2) (0,0))},OR (g.bind new (b',o') (c'*ie.size) (Nat.div c 2)) w' new b' o' (.cells (Nat.div c 2) (zp ((p.2.drop off).take (n*ie.size)) (i*ie.size) ((p2.2.drop vk).take (q*ie.size)))):=λ{h3}=>
   Cells.mk' h3 (by rw[Gh.yc];exact hsz') (Gh.AL _ _ _ _ _) λt x hx=>by
    obtain ⟨v,a,b,c⟩:=axG t x hx;exact ⟨v,a,b,c.mono hle⟩
  have NC:VR (g.bind new (b',o') (c'*ie.size) (Nat.div c 2)) (.slice (some ⟨b',o',none⟩) (n+q) c') (.sl new 0 (n+q) (.u (Nat.div c 2))):=
   .sl (id:=new) (off:=0) (o:=o') (b:=b') (cap:=.u (Nat.div c 2)) (Gh.jc _ _ _ _ _) hnc' (λk hk=>by cases hk) (λe' he=>by
    cases he;refine ⟨Gh.AL _ _ _ _ _,?_⟩;rw[Gh.yc];show 0+c'*g.sz (Nat.div c 2)<=_;rw[hE.size hie];omega)
  rcases hw with ⟨rfl,rfl,hw⟩|⟨rfl,rfl,hw⟩
  ·obtain ⟨t1,t2⟩:=h.rename (o':=.cells (Nat.div c 2) (zp ((p.2.drop off).take (n*ie.size)) (i*ie.size) ((p2.2.drop vk).take (q*ie.size)))) hn hf hρ hw.size hw.HF (uK (h3:=hw.heap)) hw.os hw.tape hw.output;exact ⟨_,_,rfl,NC,t1,t2,λk hk=>Gh.lG _ _ _ _ hk,λxW=>by cases xW⟩
  ·obtain ⟨k1,k2⟩:=h.kill id;obtain ⟨vs,a1,a2⟩:=gL.apu axG;have hw':w'=World.alloc {w' with heap:=w.heap} (.cells iV (Nat.div c 2)):=by
    show w'={w' with heap:=w.heap.push (.cells iV (c / 2) (0,0))}
    rw[<-hw.heap]
   exact ⟨_,_,rfl,(k1.row hn (w0:={w' with heap:=w.heap}) ⟨rfl,hw.os,hw.tape,hw.output⟩ hw' a1 (λj v hv=>by rw[<-cC j];exact a2 j v hv) (by omega) NC).kill h⟩
def akh {c:Nat} {lQ:dN} (ho:qw E c h.hp.get h.nx aa=some (v,lQ)):tJ h.hp.get h.nx lQ:=by
 unfold qw at ho;rw[bG] at ho;split at ho
 ·unfold PE at ho;split at ho
  ·cases ho;exact keys_nil
  ·rw[bG] at ho;split at ho
   ·cases ho;exact keys_nil
   ·obtain ⟨p,hp,ho⟩:=aq ho;obtain ⟨xs,hx,ho⟩:=aq ho;obtain ⟨hc,ho⟩:=aV ho;cases ho;exact xR (by rw[kU hp];simp)
  ·cases ho
 obtain ⟨ie,hie,ho⟩:=aq ho;rw[bG] at ho;split at ho
 ·unfold abX at ho;split at ho;rotate_left
  ·cases ho
  obtain ⟨i,j,p,ha,hb,hp,ho⟩:=pY ho;obtain ⟨hc,ho⟩:=aV ho;cases ho;exact xR (by rw[kU hp];simp)
 ·unfold abd at ho;split at ho;rotate_left
  ·cases ho
  obtain ⟨i,p,p2,ha,hp,hp2,ho⟩:=pY ho;obtain ⟨hc,ho⟩:=aV ho;cases ho;intro u hu;rcases cH.1 hu with rfl|hu
  ·exact .inr (by rw[kU hp];simp)
  ·rw[ez.1 hu];exact .inl rfl
def auC (hb:Bd h) (hk:tJ h.hp.get h.nx us):p9 h (ald h us):=by
 have f3:=ahV (h:=⟨h.hp,h.nx,[]⟩) (us:=us) hb hk;exact ⟨f3.nx,f3.bd,λz hz hn=>f3.lg z hz (λhc=>hn (oq.2 (.inl ⟨hc,hz⟩))),λz hz=>oq.2 (.inr hz),f3.dead⟩
def abO (h:Hs) (us:dN):(ald h us).hp.get=gx h.hp.get us:=ahU ⟨h.hp,h.nx,[]⟩ us
def akg (hS:B9 E) {ca:aY}:Sound E (.call (.fn (.func k) fi ca) aa h) (Li E k (fi++aa++ca) h):=by
 unfold Li;cases hc:wi k E.v8 with
 |none=>trivial
 |some c=>
  show Sound E _ (awK h (qw E c h.hp.get h.nx (fi++aa++ca)));cases ho:qw E c h.hp.get h.nx (fi++aa++ca) with
  |none=>trivial
  |some p=>
   obtain ⟨v,lQ⟩:=p;refine NR (λhb=>⟨auC hb (akh ho),λm g w u us hE hr eQ hu jG=> ?_⟩)
   cases hu with
   | @fn _ first eG _ _ pO qX=>
   have qz:j6 g (first.toList++us++eG.toList) (fi++aa++ca):=(pO.append jG).append qX
   have ph:first++us.toArray++eG=(first.toList++us++eG.toList).toArray:=by apply uC;simp
   obtain ⟨qo,PQ⟩:=V9 hE (hS.prim k c hc) hr (eQ h.nx (dg _)) qz ho m;refine ⟨{target:=.fn (.func k) eG,args:=first++us.toArray},rfl,.inl ⟨k,first++us.toArray++eG,GD qo _ w,?_⟩⟩
   rw[ph];refine CallsIn.mono PQ ?_;rintro e w' ⟨r,g',rfl,hp⟩;refine ⟨r,rfl,g',hp.val,by rw[abO];exact hp.hr,by rw[abO];exact hp.fr,λx hx=>hp.ro x (by omega),λx hx=> ?_⟩
   cases lQ with
   |nil=>rw[hp.nil rfl];exact eQ x hx
   |cons u lQ=>
    have hx:h.nx+1<=x:=by
     have e:(ald h (u::lQ)).nx=(Hs.lQ ⟨h.hp,h.nx,[]⟩ (u::lQ)).nx+1:=rfl;rw[e,H7] at hx;exact hx
    rw[hp.ro x (by omega)];exact eQ x (by omega)
def abN {l:aY} (h:xZ E k l=some v):l= []:=by
 cases l with
 |nil=>rfl
 |cons a l=>cases h
def alw (hS:B9 E) {ca:aY} (hd:xZ E k (fi++aa++ca)=some v):Sound E (.call (.fn (.func k) fi ca) aa h) (.res v h):=by
 refine NR (λhb=> ?_)
 have xW:=abN hd;obtain ⟨hfa,rfl⟩:=SA.1 xW;obtain ⟨rfl,rfl⟩:=SA.1 hfa;obtain ⟨qo,h4⟩:=hS.done k v hd;refine ⟨p9.refl hb,λm g w u us hE hr eQ hu jG=> ?_⟩
 cases hu with
 | @fn _ first eG _ _ pO qX=>
 have ef:first= #[]:=by
  generalize hz:first.toList=z at pO
  cases pO;simpa using hz
 have ec:eG= #[]:=by
  generalize hz:eG.toList=z at qX;cases qX;simpa using hz
 cases jG;subst ef;subst ec;refine ⟨{target:=.fn (.func k) #[],args:= #[]},rfl,.inl ⟨k,#[],GD qo #[] w,?_⟩⟩;refine CallsIn.mono (h4 m w) ?_;rintro e w' ⟨r,rfl,hv,hs⟩;obtain ⟨s1,s2⟩:=ajx hr hs;exact ⟨r,rfl,g,hv g,s1,s2,λ_ _=>rfl,eQ⟩
section
variable {τ:Nat->Nat} {D:Nat->Prop} [DecidablePred D] {S:bq}
end
structure acA (τ:Nat->Nat) (g g':Gh):Prop where
 η:g'.η=g.η
 sz:g'.sz=g.sz
 Z:∀id p,g.Z id=some p->g'.Z (τ id)=some p
 lim:∀id p,g.Z id=some p->g'.lim (τ id)=g.lim id
 et:∀id p,g.Z id=some p->g'.et (τ id)=g.et id
section
variable {τ:Nat->Nat}
mutual
def VR.push {g g':Gh} (hp:acA τ g g'):∀{v x},VR g v x->VR g' v (ajY τ x)
 |_,_,.bool b=>.bool b
 |_,_,.int k e h=>.int k e (by rw[hp.η];exact h)
 |_,_,.str s=>.str s
 |_,_,.ptr h=>.ptr (hp.Z _ _ h)
 |_,_,.qc=>.qc
 |_,_,.sl h hn hc hl=>.sl (hp.Z _ _ h) hn hc (λe he=>by rw[hp.sz,hp.et _ _ h,hp.lim _ _ h];exact hl e he)
 |_,_,.sle=>.sle
 |_,_,.dD=>.dD
 |_,_,.mp h=>.mp (hp.Z _ _ h)
 |_,_,.mn=>.mn
 |_,_,.fn h1 h2=>.fn (h1.push hp) (h2.push hp)
 |_,_,.pb=>.pb
 |_,_,.agg h=>.agg (h.push hp)
 |_,_,.cS h=>.cS (h.push hp)
 |_,_,.undef v=>.undef v
def j6.push {g g':Gh} (hp:acA τ g g'):∀{v x},j6 g v x->j6 g' v (Ck τ x)
 |_,_,.nil=>.nil
 |_,_,.cons h ht=>.cons (h.push hp) (ht.push hp)
def gL.push {g g':Gh} (hp:acA τ g g'):∀{v x},gL g v x->gL g' v (Ck τ x)
 |_,_,.nil=>.nil
 |_,_,.cons h1 h ht=>.cons h1 (h.push hp) (ht.push hp)
end
def iD.push {g:Gh} (hp:acA τ g g'):∀{ms:List MapEntry} {xs:je},iD g ms xs->iD g' ms (ajZ τ xs)
 |_,_,.nil=>.nil
 |_,_,.cons h ht=>.cons ⟨h.1.push hp,h.2.1.push hp,h.2.2⟩ (ht.push hp)
def OR.push {g:Gh} (hp:acA τ g g') {w:World} {id o:Nat} {x:SO} (hρ:g.Z id=some (b,o)) (h:OR g w id b o x) (hx:aED x=true):OR g' w (τ id) b o (renO τ x):=by
 cases x with
 |cells e cs=>
  obtain ⟨⟨cur,h1,h0,vs,h2,h3⟩,h4⟩:=h;exact ⟨⟨cur,h1,by rw[hp.lim _ _ hρ];exact h0,vs,h2.push hp,h3⟩,(hp.et _ _ hρ).trans h4⟩
 |map es c=>obtain ⟨ms,h1,h2⟩:=h;exact ⟨ms,h1,h2.push hp⟩
 |nA s pos=>cases hx
 |mapIter mp since seen last=>cases hx
 |dfr=>cases hx
 |ro cs=>cases hx
end
def JB (a b:ByteArray):Lib.compareBytes a.data.toList b.data.toList=ET a b:=by
 have key:∀(l m:List UInt8),Lib.compareBytes l m=if AK l m=true then -1 else if sj l m=true then 0 else 1:=by
  intro l;induction l with
  |nil=>intro m;cases m<;>simp[Lib.compareBytes,AK,sj]
  |cons x l ih=>
   intro m;cases m with
   |nil=>simp[Lib.compareBytes,AK,sj]
   |cons y m=>
    unfold Lib.compareBytes AK sj;rw[ih m,bG,bG,ble_eq,beq_eq];have h1:(x<y)↔x.toNat+1<=y.toNat:=by rw[UInt8.lt_iff_toNat_lt];omega
    have h2:(y<x)↔y.toNat<x.toNat:=UInt8.lt_iff_toNat_lt;by_cases hxy:x<y
    ·simp[hxy,h1.1 hxy]
    ·by_cases hyx:y<x
     ·have a1:¬(x.toNat+1<=y.toNat):=λh=>hxy (h1.2 h)
      have a2:¬(x.toNat=y.toNat):=λh=>by have:=h2.1 hyx;omega
      simp[hxy,hyx,a1,a2]
     ·have a1:¬(x.toNat+1<=y.toNat):=λh=>hxy (h1.2 h)
      have a3:¬(y.toNat<x.toNat):=λh=>hyx (h2.2 h)
      have a2:x.toNat=y.toNat:=by omega
      have a4:¬(y.toNat+1<=y.toNat):=by omega
      simp[hxy,hyx,a2,a4]
 rw[key];unfold ET;rw[bG,bG]
def aqX (hS:B9 E) {ca:aY} (sY:E.fn.get k=some fn) (oh:fn.body=none):Sound E (.call (.fn (.func k) fi ca) aa h) (auF fn (fi++aa++ca) h):=by
 generalize hl:fi++aa++ca=l;unfold auF;split;rotate_left
 ·trivial
 rename_i x y;split;rotate_left
 ·trivial
 rename_i s1 hs1;split;rotate_left
 ·trivial
 rename_i s2 hs2;obtain rfl:=mS hs1;obtain rfl:=mS hs2;rw[bG];split;rotate_left
 ·trivial
 rename_i PL;refine NR (λhb=>⟨p9.refl hb,λm g w u us hE hr eQ hu jG=> ?_⟩)
 cases hu with
 | @fn _ first eG _ _ pO qX=>
 have qz:j6 g (first.toList++us++eG.toList) [.str s1,.str s2]:=by rw[<-hl];exact (pO.append jG).append qX
 have ph:first++us.toArray++eG=(first.toList++us++eG.toList).toArray:=by apply uC;simp
 obtain ⟨v1,v2,e,h1,h2⟩:=DZ qz;rw[e] at ph;cases h1;cases h2;obtain ⟨e1,e2⟩:=hS.ext k fn sY oh PL;refine ⟨{target:=.fn (.func k) eG,args:=first++us.toArray},rfl,.inr (.inr ⟨.int .i64 (Lib.compareBytes s1.data.toList s2.data.toList),w,?_,_,rfl,g,.int _ _ ?_,hr,Fr.refl _ _ _,λ_ _=>rfl,eQ⟩)⟩
 ·show (callFunc k (first++us.toArray++eG)).run E.P w=_
  rw[ph,run_callFunc_extern (hS.fn k fn sY).1 (by
   have:fn.name= "internal/bytealg.abigen_runtime_cmpstring" :=by simpa using PL
   rw[this];decide) (by rw[oh];rfl) e1 e2,Lib.run_compareString]
  rfl
 ·rw[JB];rfl
def Oy (hS:B9 E) (jD:∀j,Sound E j (rec j)) (fv:SV) (aa:aY) (h:Hs):Sound E (.call fv aa h) (Qa fv E rec aa h):=by
 cases fv with
 |fn f fi ca=>
  cases f with
  |func k=>
   show Sound E _ (@Option.rec SV (λ_=>Out) (auz E rec k (E.fn.get k) (fi++aa++ca) h) (λv=>.res v h) (xZ E k (fi++aa++ca)))
   cases hd:xZ E k (fi++aa++ca) with
   |some v=>exact alw hS hd
   |none=>
    show Sound E _ (auz E rec k (E.fn.get k) (fi++aa++ca) h);cases sY:E.fn.get k with
    |none=>exact akg hS
    |some fn=>
     show Sound E _ (ach E rec k fn (fi++aa++ca) h);unfold ach;cases oh:fn.body with
     |none=>exact aqX hS sY oh
     |some c=>
      show Sound E _ (aP (Nat.ble (fi++aa++ca).length fn.ntmps) (aP (yM fn.name) (.fail "") (aaf E rec fn h.nx h.lg (rec (.code fn.ntmps c (setArgs (fi++aa++ca) 0 .nil) [] ⟨h.hp,h.nx,[]⟩)))) (.fail ""));rw[bG,bG];split;rotate_left
      ·trivial
      rename_i hlen;split
      ·trivial
      rename_i I4;exact aqU hS jD sY oh (λhc=>I4 (by rw[hc];decide)) ((bV _ _).1 hlen)
  |_=>trivial
 |_=>trivial
def V0 (hS:B9 E):∀(n:Nat) (j:lH),Sound E j (run E n j)
 |0,j=>by cases j<;>trivial
 |n+1,j=>by
  have ih:=V0 hS n;show Sound E j (step E (run E n) j);cases j with
  |code nt c tm mk h=>exact Ox hS ih nt c tm mk h
  |ops nt all l tm mk h=>exact SN ih nt all l tm mk h
  |draw nt W all base i M prev l tm h=>exact Ov ih nt W all base i M prev l tm h
  |call fv aa h=>exact Oy hS ih fv aa h
end
section
variable {E:Env} {g:Gh} {f:Hf} {w:World}
variable {n:Nat} {P:Program}
def auU (g:Gh) (w:World):HR g (Tr.nil:Hp).get w:=⟨λid o h=>(by cases h),λi j x y b c d h=>(by cases h)⟩
def ajK (hS:B9 E) {l:List Rs} (ln:run E n (.call (.fn (.func k) [] []) aa ⟨.nil,0,[]⟩)= .ir l) (qo:Vc E (.fn (.func k) [] [])=true) (hE:dV E g) (hρ:∀x,g.Z x=none) {us:fq} (jG:j6 g us aa) (m:Nat) (w:World):CallsIn Fence.wide m E.P k us.toArray w λe w'=>∃r∈l,∃u g',e=P4 r.fR u/\VR g' u r.v/\HR g' r.h.hp.get w'/\Fr g (λ_=>none) w g' r.h.hp.get w':=by
 have hs:=V0 hS n (.call (.fn (.func k) [] []) aa ⟨.nil,0,[]⟩);rw[ln] at hs;have hb:Bd ⟨.nil,0,[]⟩:=λx _=>rfl
 obtain ⟨_,_,Iu⟩:=(show Bd ⟨.nil,0,[]⟩->_ from hs) hb;obtain ⟨k',fi,ca,fn,e1,sY,oh⟩:=Jk qo;cases e1;obtain ⟨d,xh,HL⟩:=Iu m g w (.func (.func k) #[] #[]) us hE (auU g w) (λx _=>hρ x) (.fn .nil .nil) jG
 have hd:d={target:=.fn (.func k) #[],args:= #[]++us.toArray}:=by
  rw[IH] at xh;cases xh;rfl
 subst hd;have Ag:∀(args:hY) (w:World),(invoke (.fn (.func k) #[]) args).run E.P w=(callFunc k (args++ #[])).run E.P w:=λ_ _=>rfl
 rcases pK (hS.fn k fn sY).1 oh (#[]++us.toArray++ #[]) w with ⟨hc,_⟩|hc
 ·rcases HL with ⟨k',JF,q1,q2⟩|⟨l,k',t',JF,b',q1,_⟩|⟨r,w',q1,_⟩<;>(rw[Ag,hc] at q1;cases q1)
 ·rcases HL with ⟨k',JF,q1,q2⟩|⟨l,k',t',JF,b',q1,_⟩|⟨r,w',q1,_⟩
  ·rw[Ag,hc] at q1;cases q1;have e: #[]++us.toArray++ #[]=us.toArray:=by simp
   rw[e] at q2;refine CallsIn.mono q2 ?_;rintro e w' ⟨r,hr,u,g',rfl,h1,h2,h3,_,_⟩;exact ⟨r,hr,u,g',rfl,h1,h2,h3⟩
  ·rw[Ag,hc] at q1;cases q1
  ·rw[Ag,hc] at q1;cases q1
def gh0 (P:Program) (η:Nat->Int):Gh:=⟨η,P.cellsOf,λ_=>none,λ_=>0,λ_=>0,λ_=>none⟩
def Fr.old0 {g:Gh} {h':Hf} {w:World} (h:Fr g (λ_=>none) w g' h' w'):∀b,b<w.heap.size->w'.heap[b]? =w.heap[b]? :=
 λb hb=>h.old b hb (λ⟨id,o,c,h1,_⟩=>by cases h1)
def Fr.still {g:Gh} {h':Hf} {w:World} (h:Fr g (λ_=>none) w g' h' w'):BP w w':=⟨h.os,h.tape,h.output,h.size,h.old0⟩
def avt (o:Out):Bool:=match o with| .ir l=>l.all (λr=> !r.fR&&(match r.v with| .bool b=>b|_=>false))|_=>false
def ava (hS:B9 E) (hE:dV E (gh0 E.P λ_=>0)) (ln:avt (run E n (.call (.fn (.func k) [] []) [] ⟨.nil,0,[]⟩))=true) (qo:Vc E (.fn (.func k) [] [])=true) (I4:∀fn,E.fn.get k=some fn->yM fn.name=false):JV E.P k (.bool true):=by
 unfold avt at ln;split at ln
 ·rename_i l hl;obtain ⟨k',fi,ca,fn,e1,sY,oh⟩:=Jk qo;cases e1;refine ⟨⟨fn,(hS.fn k fn sY).1,oh,λhc=>by have:=I4 fn sY;rw[hc] at this;revert this;decide⟩,λm w=> ?_⟩
  refine CallsIn.mono (ajK hS hl qo hE (λ_=>rfl) .nil m w) ?_
  rintro e w' ⟨r,hr,u,g',rfl,h1,h2,h3⟩;have hb:=iT.1 ln r hr;rw[bF] at hb;obtain ⟨Jh,EI⟩:=hb;have hp:r.fR=false:=by simpa using Jh
  have hv:r.v= .bool true:=by
   split at EI
   ·rename_i e;rw[e,EI]
   ·cases EI
  rw[hp];rw[hv] at h1;refine ⟨u,rfl,λg=> ?_,h3.still⟩
  cases h1;exact .bool true
 ·cases ln
def p7 {J:Type} (Q:Nat->J->Prop):Tr J->(Nat->Nat)->Prop
 | .nil,_=>True
 | .node l v r,Y=>(match v with|none=>True|some x=>Q (Y 0) x)/\p7 Q l (λj=>Y (2*j+1))/\p7 Q r (λj=>Y (2*j+2))
def p7.get {J:Type} {Q:Nat->J->Prop}:∀{t:Tr J} {Y:Nat->Nat},p7 Q t Y->∀i x,t.get i=some x->Q (Y i) x
 | .nil,_,_,i,x,h=>by cases h
 | .node l v r,Y,⟨h1,h2,h3⟩,i,x,h=>by
  rw[Tr.BA] at h;split at h
  ·rename_i e;subst e;subst h;exact h1
  ·split at h
   ·rename_i e1 e2;have:=p7.get h2 _ x h;have e:2*(i / 2)+1=i:=by omega
    simp only[e] at this;exact this
   ·rename_i e1 e2;have:=p7.get h3 _ x h;have e:2*(i / 2-1)+2=i:=by omega
    simp only[e] at this;exact this
def SK:TypeDesc->UD
 | .bool=>.bool
 | .int k=>.int k
 | .string=>.string
 | .pointer _=>.pointer
 | .slice e=>.slice e
 | .array n e=>.array n e
 | .map k e=>.map k e
 | .struct fs=>.struct (fs.toList.map λf=>FL.mk f.type f.offset (!(f.name== "_")))
 | .func _ _ _=>.func
 | .interface _=>.interface
 |_=>.other
def PH (P:Program):List Field->Bool
 | []=>true
 |f::fs=>(P.info? f.type).isSome&&PH P fs
def aKw (P:Program):TypeDesc->Bool
 | .struct fs=>PH P fs.toList
 | .bool| .int _| .string| .pointer _| .slice _| .array _ _| .map _ _| .func _ _ _| .interface _=>true
 |_=>false
def Qn:fq->Bool
 | []=>true
 |v::vs=>v.oneCell'&&Qn vs
def aaZ:Value->Bool
 | .agg _=>true
 |_=>false
def awg (agg:Bool) (size:Nat) (z:Value):Bool:=Qn z.cells.toList&&aP agg (aaZ z&&Nat.beq z.cells.toList.length size) z.oneCell'
def ajs (P:Program) (t:TypeId):Option TI:=
 bU (P.underlying t) (P.info? t) λd f=>az f.zero λz=>aP (aKw P d&&awg (lY (SK d)) f.size z) (some ⟨SK d,f.size,f.bytes,rM z.cells.toList,f.comparable⟩) none
def MU {P:Program}:∀{fs:List Field},PH P fs=true->∀f∈fs,(P.info? f.type).isSome=true
 | [],_,f,hf=>by simp at hf
 |x::fs,h,f,hf=>by
  unfold PH at h;rw[bF] at h;rcases cH.1 hf with rfl|hf
  ·exact h.1
  ·exact MU h.2 f hf
def Qm (g:Gh):∀{vs:fq},Qn vs=true->gL g vs (rM vs)
 | [],_=>.nil
 |v::vs,h=>by
  unfold Qn at h;rw[bF] at h;exact .cons h.1 (wG g v) (Qm g h.2)
def CL:∀(vs:fq),(rM vs).length=vs.length
 | []=>rfl
 |v::vs=>by show (ue v::rM vs).length=_;simp[CL vs]
def anV {i:TI} (h:ajs P t=some i):BO P t i:=by
 obtain ⟨d,fi,hd,hf,h⟩:=bp h;obtain ⟨z,hz,h⟩:=aq h;obtain ⟨hc,h⟩:=aV h;cases h;rw[bF] at hc;obtain ⟨hdb,zN⟩:=hc;unfold awg at zN;rw[bF] at zN;obtain ⟨ha,zN⟩:=zN;refine ⟨?_,fi,z,hf,rfl,rfl,rfl,hz,⟨λg=>Qm g ha,λBw=> ?_,λBw=> ?_⟩,λBw=> ?_⟩
 ·show JW P t (SK d);cases d<;>first
   |exact hd
   |exact ⟨_,hd⟩
   |exact ⟨_,_,_,hd⟩
   |(
    refine ⟨_,hd,?_,MU hdb⟩
    refine DN λf _=> ?_
    by_cases hn:f.name= "_" <;>simp[hn])
   |(cases hdb;done)
 ·have Bw:lY (SK d)=true:=Bw;rw[Bw] at zN;have zN:(aaZ z&&Nat.beq z.cells.toList.length fi.size)=true:=zN;rw[bF] at zN;cases z<;>first|exact ⟨_,rfl⟩|(cases zN.1;done)
 ·have Bw:lY (SK d)=false:=Bw;rw[Bw] at zN;exact zN
 ·have Bw:lY (SK d)=true:=Bw;rw[Bw] at zN;have zN:(aaZ z&&Nat.beq z.cells.toList.length fi.size)=true:=zN;rw[bF] at zN;show (rM z.cells.toList).length=fi.size;rw[CL];exact (beq_iff _ _).1 zN.2
end
end Go.bZ
namespace Go.bZ
variable {v8:List (Nat×Nat)} {Dl stop:bq} {fn':Tr Func} {η:Nat->Int}
section
def A9 (fn:Func):Bool:=fn.body.isSome|| !(fn.name== "internal/bytealg.abigen_runtime_cmpstring")
def aMM (P:Program) (k:Nat) (fn:Func):Prop:=P.funcs[k]? =some fn/\Xl fn=true/\(A9 fn=true\/(Extern.findNext fn=none/\Extern.find fn=some Extern.BytealgCompare.compare))
def aML (P:Program) (t:Nat) (i:TI):Prop:=ajs P t=some i
structure LV (P:Program) (ty:Tr TI) (fn:Tr Func):Prop where
 ty:p7 (aML P) ty id
 fn:p7 (aMM P) fn id
 mix:P.follows .mixedOrders=true
variable {P:Program} {ty:Tr TI} {fn:Tr Func}
def LV.envS (h:LV P ty fn) {lt eq:List (SI×SI×Bool)} {done:List (Nat×SV)} {join:bq} (hd:∀k v,alc k done=some v->JV P k v) (hs:∀k f,fn'.get k=some f->fn.get k=some f) (hp:∀k c,wi k v8=some c->Ap ⟨P,ty,fn',lt,eq,done,join,v8,Dl,stop⟩ k c):B9 ⟨P,ty,fn',lt,eq,done,join,v8,Dl,stop⟩:=by
 refine ⟨λk fn hk=> ?_,λk fn hk hb hn=> ?_,h.mix,λk v hk=>hd k v hk,hp⟩
 ·obtain ⟨h1,h2,_⟩:=p7.get h.fn k fn (hs k fn hk);exact ⟨h1,h2⟩
 ·obtain ⟨_,_,h3⟩:=p7.get h.fn k fn (hs k fn hk);rcases h3 with h3|h3
  ·unfold A9 at h3;rw[hb,hn] at h3;cases h3
  ·exact h3
def LV.ays (h:LV P ty fn) {lt eq:List (SI×SI×Bool)} {done:List (Nat×SV)} {join:bq} (cV:∀a b r,(a,b,r)∈lt->decide (a.ev η<b.ev η)=r) (heq:∀a b r,(a,b,r)∈eq->decide (a.ev η=b.ev η)=r):
  dV ⟨P,ty,fn,lt,eq,done,join,v8,Dl,stop⟩ (gh0 P η):=
 ⟨λt i hi=>anV (p7.get h.ty t i hi),λf x hx=>(p7.get h.fn f x hx).1,cV,heq,h.mix,λ_=>rfl⟩
def why (o:Out):String:=match o with| .ir [⟨false,.bool b,_⟩]=>(match b with|true=> "true" |false=> "false")| .ir [_]=> "res" | .ir _=> "ress" | .fail s=>s|_=> "other"
end
end Go.bZ
namespace Go.bZ
open Go.RowKit

end Go.bZ
namespace Go.bZ
variable {P:Program} {fe:Func}
def alt {J:Type} (l:List J):Bool->List J:= @List.rec J (λ_=>Bool->List J) (λ_=> []) (λx _ ih b=>aP b (x::ih false) (ih true)) l
def YL {J:Type} (d:Nat):List (Option J)->Tr J:= @Nat.rec (λ_=>List (Option J)->Tr J) (λ_=>.nil) (λ_ ih l=> @List.rec (Option J) (λ_=>Tr J) .nil (λx xs _=>.node (ih (alt xs true)) x (ih (alt xs false))) l) d
def LU {J:Type}:∀(l:List J) (j:Nat),(alt l true)[j]? =l[2*j]? /\(alt l false)[j]? =l[2*j+1]?
 | [],j=>⟨by simp[alt],by simp[alt]⟩
 |x::l,j=>by
  have h1:alt (x::l) true=x::alt l false:=rfl;have h2:alt (x::l) false=alt l true:=rfl;rw[h1,h2];constructor
  ·cases j with
   |zero=>rfl
   |succ j=>rw[rU,(LU l j).2,show 2*(j+1)=(2*j+1)+1 by omega,rU]
  ·rw[(LU l j).1,rU]
def FW {J:Type} {Q:Nat->J->Prop}:∀(d:Nat) (l:List (Option J)) (Y:Nat->Nat),(∀i x,l[i]? =some (some x)->Q (Y i) x)->p7 Q (YL d l) Y
 |0,_,_,_=>trivial
 |d+1,[],_,_=>trivial
 |d+1,x::xs,Y,H=>by
  show p7 Q (.node (YL d (alt xs true)) x (YL d (alt xs false))) Y;unfold p7;refine ⟨?_,FW d _ _ λi y h=> ?_,FW d _ _ λi y h=> ?_⟩
  ·cases x with
   |none=>trivial
   |some x=>exact H 0 x rfl
  ·rw[(LU xs i).1] at h;exact H (2*i+1) y (by rw[rU];exact h)
  ·rw[(LU xs i).2] at h;exact H (2*i+2) y (by rw[show 2*i+2=(2*i+1)+1 from rfl,rU];exact h)
def awk (P:Program) (n:Nat):Tr TI:=YL 10 ((List.range n).map (ajs P))
def axK (P:Program):Tr Func:=YL 10 (P.funcs.toList.map some)
def aIL (e:Nat) (l:List Bool):Bool:= @List.rec Bool (λ_=>Nat->Bool) (λ_=>true) (λb _ ih k=>aP (b||Nat.beq k e) (ih (k+1)) false) l 0
def Qo {e:Nat}:∀(l:List Bool) (k i:Nat),(@List.rec Bool (λ_=>Nat->Bool) (λ_=>true) (λb _ ih k=>aP (b||Nat.beq k e) (ih (k+1)) false) l k)=true->l[i]? =some false->k+i=e
 | [],k,i,_,h=>by simp at h
 |b::l,k,i,h,hi=>by
  have h:aP (b||Nat.beq k e) (@List.rec Bool (λ_=>Nat->Bool) (λ_=>true) (λb _ ih k=>aP (b||Nat.beq k e) (ih (k+1)) false) l (k+1)) false=true:=h
  cases i with
  |zero=>
   have:b=false:=by simpa using hi
   subst this;cases hk:Nat.beq k e with
   |true=>exact Nat.eq_of_beq_eq_true hk
   |false=>rw[hk] at h;cases h
  |succ i=>
   cases hb:(b||Nat.beq k e) with
   |false=>rw[hb] at h;cases h
   |true=>
    rw[hb] at h;have:=Qo l (k+1) i h (by simpa using hi)
    omega
def aCS (n e:Nat) (h0:(P.funcs.toList.all λf=>Xl f)=true) (h1:aIL e (P.funcs.toList.map A9)=true) (he:P.funcs[e]? =some fe) (h2:Extern.findNext fe=none) (h3:Extern.find fe=some Extern.BytealgCompare.compare) (hm:P.follows .mixedOrders=true):LV P (awk P n) (axK P):=by
 refine ⟨FW _ _ _ λi x h=> ?_,FW _ _ _ λi x h=> ?_,hm⟩
 ·rw[mH] at h;cases hr:(List.range n)[i]? with
  |none=>rw[hr] at h;cases h
  |some j=>
   rw[hr] at h;have hj:ajs P j=some x:=by simpa using h
   have:=cf.1 hr;obtain ⟨h1,h2⟩:=this;have e:i=j:=by simpa using h2
   subst e;exact hj
 ·rw[mH] at h;cases hr:P.funcs.toList[i]? with
  |none=>rw[hr] at h;cases h
  |some f=>
   rw[hr] at h;have hf:f=x:=by simpa using h
   subst hf;have hm:f∈P.funcs.toList:=cN hr;have hp:P.funcs[i]? =some f:=by simpa using hr
   refine ⟨hp,iT.1 h0 f hm,?_⟩;cases hb:A9 f with
   |true=>exact .inl rfl
   |false=>
    have:=Qo (e:=e) (P.funcs.toList.map A9) 0 i h1 (by rw[mH,hr];simp[hb])
    have ei:i=e:=by omega
    subst ei;rw[hp] at he;cases he;exact .inr ⟨h2,h3⟩
end Go.bZ
section
namespace Go.bZ
open Go.RowKit
variable {x y c:Code} {b:Bool} {i new nx' nx:Nat} {o:Oper} {v:SV} {us:dN} {k:FuncId} {fn:Func} {H:Hf}
structure MS where
 T:Tf
 H:Hf
 nx:Nat
structure Now (E:Env) (nt:Nat) (g:Gh) (m:MS) (a:Act) (w:World):Prop where
 env:dV E g
 fr:FR g nt m.T a.tmps
 hr:HR g m.H w
 fresh:∀x,m.nx<=x->g.Z x=none
structure G5 (g:Gh) (m:MS) (w:World) (a:Act) (g':Gh) (m':MS) (w':World) (a':Act):Prop where
 fr:Fr g m.H w g' m'.H w'
 df:a'.defers=a.defers
 ro:∀x,x<m.nx->g'.Z x=g.Z x
 nx:m.nx<=m'.nx
variable {E:Env} {nt:Nat} {g g1 g2:Gh} {m m1 m2:MS} {a a1 a2:Act} {w w1 w2:World} {e:Ex}
def G5.refl:G5 g m w a g m w a:=⟨Fr.refl _ _ _,rfl,λ_ _=>rfl,dg _⟩
def G5.trans (h:G5 g m w a g1 m1 w1 a1) (k:G5 g1 m1 w1 a1 g2 m2 w2 a2):G5 g m w a g2 m2 w2 a2:=
 ⟨h.fr.trans k.fr,k.df.trans h.df,λx hx=>(k.ro x (my hx h.nx)).trans (h.ro x hx),jf h.nx k.nx⟩
def jJ (E:Env) (nt:Nat) (c:Code) (m:MS) (e:Ex) (m':MS):Prop:=codeOk c=true->∀(ro:bP) (k:Nat) (g:Gh) (a:Act) (w:World) (Q:Exit->Act->World->Prop),Now E nt g m a w->
 (∀g' a' w' x,ExR g' e x->Now E nt g' m' a' w'->G5 g m w a g' m' w' a'->Q x a' w')->wpX (ot ro) k E.P c Q a w
namespace jJ
def skip:jJ E nt .skip m .normal m:=λ_ _ _ _ _ _ _ n h=>wpIn_skip (h _ _ _ _ .normal n .refl)
def exit {id:Nat}:jJ E nt (.exit id) m (.exit id) m:=λ_ _ _ _ _ _ _ n h=>wpIn_exit (h _ _ _ _ (.exit id) n .refl)
def ret:jJ E nt .ret m .ret m:=λ_ _ _ _ _ _ _ n h=>wpIn_ret (h _ _ _ _ .ret n .refl)
def seq (h1:jJ E nt x m .normal m1) (h2:jJ E nt y m1 e m2):jJ E nt (.seq x y) m e m2:=λok ro k g a w Q n h=>
 wpIn_seq (nT (h1 (okL ok) ro k g a w _ n λg1 a1 w1 x hx n1 t1=>by
  cases hx;exact nT (h2 (okR ok) ro k g1 a1 w1 Q n1 λg2 a2 w2 y hy n2 t2=>h g2 a2 w2 y hy n2 (t1.trans t2))))
def aEs (he:vo e=false) (h1:jJ E nt x m e m1):jJ E nt (.seq x y) m e m1:=λok ro k g a w Q n h=>
 wpIn_seq (nT (h1 (okL ok) ro k g a w _ n λg1 a1 w1 x hx n1 t1=>by
  have:=h g1 a1 w1 x hx n1 t1;cases hx<;>first|exact this|cases he))
def cond {c:Operand} (hc:cD m.T c=some (.bool b)) (h1:jJ E nt (aP b x y) m e m1):jJ E nt (.cond c x y) m e m1:=λok ro k g a w Q n h=>by
 have hv:a.eval c= .bool b:=by
  have:=om n.fr hc;generalize a.eval c=v at this;cases this;rfl
 have ok:(codeOk x&&codeOk y)=true:=ok;rw[bF] at ok;cases b
 ·exact wpIn_cond_false hv (nT (h1 ok.2 ro k g a w Q n h))
 ·exact wpIn_cond_true hv (nT (h1 ok.1 ro k g a w Q n h))
def block {id:Nat} (h1:jJ E nt c m e m1):jJ E nt (.block id c) m (leave id e) m1:=λok ro k g a w Q n h=>
 wpIn_block (nT (h1 ok ro k g a w _ n λg1 a1 w1 x hx n1 t1=>by
  have key:∀y,ExR g1 (leave id e) y->Q y a1 w1:=λy hy=>h g1 a1 w1 y hy n1 t1
  cases hx with
  |normal=>exact key _ .normal
  |ret=>exact key _ .ret
  |fR hv=>exact key _ (.fR hv)
  |exit i=>
   rw[Pz] at key;show (if i=id then Q .normal a1 w1 else Q (.exit i) a1 w1)
   split
   ·rename_i hi;rw[aH hi] at key;exact key _ .normal
   ·rename_i hi;rw[aM hi] at key;exact key _ (.exit i)))
def loop (h1:jJ E nt c m .normal m1) (h2:jJ E nt (.loop c) m1 e m2):jJ E nt (.loop c) m e m2:=λok ro k g a w Q n h=>
 zm (nT (h1 ok ro k g a w _ n λg1 a1 w1 x hx n1 t1=>by
  cases hx;exact h2 ok ro k g1 a1 w1 Q n1 λg2 a2 w2 y hy n2 t2=>h g2 a2 w2 y hy n2 (t1.trans t2)))
def aBG (he:vo e=false) (h1:jJ E nt c m e m1):jJ E nt (.loop c) m e m1:=λok ro k g a w Q n h=>
 zm (nT (h1 ok ro k g a w _ n λg1 a1 w1 x hx n1 t1=>by
  have:=h g1 a1 w1 x hx n1 t1;cases hx<;>first|exact this|cases he))
end jJ
structure Sr1 where
 v:SV
 D:Nat->Bool
 H:Hf
 need:Nat->Prop
 frp:Nat->Prop
 newp:Nat->Prop
structure wT (E:Env) (nt:Nat) (ops:dE) (i:Nat) (o:Oper) (m:MS) (r:Sr1) (m':MS):Prop where
 st:∀ro,ve E ro nt ops i o m.T r.need m.H r.frp r.newp r.v r.D r.H
 T:m'.T=jg m.T o.dst r.v
 H:m'.H=kP r.D r.H m.H
 nx:m.nx<=m'.nx
def JN (E:Env) (nt:Nat) (ops:dE) (i:Nat) (m m':MS):Prop:=∀(ro:bP) (k:Nat) (g:Gh) (a:Act) (w:World) (Q:Exit->Act->World->Prop),Now E nt g m a w->
 (∀g' a' w',Now E nt g' m' a' w'->G5 g m w a g' m' w' a'->Q .normal a' w')->wpOpsIn (ot ro) k E.P ops Q (List.range' i (ops.size-i)) a w
def JN.nil {ops:dE}:JN E nt ops ops.size m m:=λro k g a w Q n h=>by
 rw[nR];exact h g a w n .refl
def JN.cons {ops:dE} {i:Nat} {o:Oper} {r:Sr1} (hi:ops[i]? =some o) (h1:wT E nt ops i o m r m1) (hf:∀x,r.frp x->m.nx<=x) (hn:∀x,r.newp x->m.nx<=x/\x<m1.nx) (h2:JN E nt ops (i+1) m1 m2):JN E nt ops i m m2:=λro k g a w Q n h=>by
 have cV:i<ops.size:=by
  by_cases hc:i<ops.size
  ·exact hc
  ·rw[Oh (by omega)] at hi;cases hi
 rw[show ops.size-i=(ops.size-(i+1))+1 by omega,yz,wpOpsIn_cons]
 refine h1.st ro k g m.H m.T a w _ Q n.env n.fr n.hr (λ_ _=>rfl) (λ_ _=>rfl) (λx hx=>n.fresh x (hf x hx)) λv w' g' q1 q2 q3 q4=> ?_
 rw[<-h1.T] at q1;rw[<-h1.H] at q2 q3;have h1n:=h1.nx;refine h2 ro k g' (a.put o.dst v) w' Q ⟨n.env.mono q3.le,q1,q2,λx hx=> ?_⟩ λg2 a2 w2 n2 t2=>h g2 a2 w2 n2 (G5.trans ⟨q3,put_defers _ _ _,λx hx=>q4 x λhc=> ?_,h1n⟩ t2)
 ·rw[q4 x (λhc=>by have:=hn x hc;omega)]
  exact n.fresh x (by omega)
 ·have:=hn x hc;omega
def jJ.region {id:Nat} {ops:dE} (h1:JN E nt ops 0 m m1):jJ E nt (.region id ops false) m .normal m1:=λok ro k g a w Q n h=>wpIn_region (by
 have:=h1 ro k g a w Q n λg' a' w' n' t'=>h g' a' w' _ .normal n' t'
 simpa[Og] using this)
def wT.op {ops:dE} (hi:ops[i]? =some o) (hw:gq ops.toList o m.T=some true) (hd:kZ nt o.dst=true) (ho:qQ E o.op m.T m.H new=some (v,us)) (hH:m.H new=none) (hn:m.nx<=nx'):
  wT E nt ops i o m ⟨v,uc us new,gx m.H us,λx=>x∈py o.op m.T,λx=>x=new,λx=>x=new/\us≠ []⟩ ⟨jg m.T o.dst v,gx m.H us,nx'⟩:=by
 refine ⟨λro=>Dg hi hw hd ho hH (λx=>by simp[uc]) (GU ho),rfl,?_,hn⟩
 funext x;show gx m.H us x=kP (uc us new) (gx m.H us) m.H x;unfold kP uc;by_cases h1:x∈us.map (·.1)
 ·rw[aH (by simp only[jW];exact .inl h1)]
 ·rw[mh h1];split<;>rfl
def wT.skip {ops:dE} (hi:ops[i]? =some o) (hw:gq ops.toList o m.T=some false) (hd:kZ nt o.dst=true) (hH:m.H new=none):
  wT E nt ops i o m ⟨.cS [],λx=>decide (x=new),m.H,λ_=>False,λx=>x=new,λ_=>False⟩ ⟨jg m.T o.dst (.cS []),m.H,m.nx⟩:=by
 refine ⟨λro=>step_skip hi hw hd hH (λx=>by simp),rfl,?_,dg _⟩
 funext x;show m.H x=kP _ m.H m.H x;unfold kP;split<;>rfl
class Hm (E:Env):Prop where
 fn:∀k fn,E.fn.get k=some fn->E.P.funcs[k]? =some fn/\Xl fn=true
def jJ.Iu [hS:Hm E] {fi aa ca vs:aY} (sY:E.fn.get k=some fn) (oh:fn.body=some c) (I4:yM fn.name=false) (hlen:(fi++aa++ca).length<=fn.ntmps) (he:LG e=some none) (h1:jJ E fn.ntmps c ⟨(setArgs (fi++aa++ca) 0 .nil).get,H,nx⟩ e m1) (hr:sC E m1.T m1.H fn.results.toList=some vs):oA E false (.fn (.func k) fi ca) aa H nx (oneOf vs) m1.H m1.nx:=λm g w u us hE hhr eQ hu jG=>by
 cases hu with
 | @fn _ first eG _ _ pO qX=>
 obtain ⟨hPf,jn⟩:=hS.fn k fn sY;have qz:j6 g (first.toList++us++eG.toList) (fi++aa++ca):=(pO.append jG).append qX
 have ph:first++us.toArray++eG=(first.toList++us++eG.toList).toArray:=by apply uC;simp
 have aue:codeOk c=true:=by
  have jn: @Option.rec Code (λ_=>Bool) true codeOk fn.body=true:=jn
  rw[oh] at jn;exact jn
 refine ⟨{target:=.fn (.func k) eG,args:=first++us.toArray},rfl,.inl ⟨k,first++us.toArray++eG,?_,?_⟩⟩
 ·show (callFunc k (first++us.toArray++eG)).run E.P w=_
  rcases pK hPf (by rw[oh];rfl) (first++us.toArray++eG) w with ⟨_,hc⟩|hc
  ·rw[hc] at I4;exact absurd I4 (by decide)
  ·exact hc
 rw[ph];refine callsIn_of_wp_marks (F:=Fence.wide) hPf oh trivial (nT (F:=ot none) ?_);refine h1 aue none m g {tmps:=_,defers:= []} w _ ⟨hE,FR.args qz hlen,hhr,eQ⟩ λg1 a1 w1 x hx n1 t1=> ?_
 have fin:LeavesInM Fence.wide m E.P fn a1.tmps (λe w'=>∃r,e=P4 false r/\∃g',VR g' r (oneOf vs)/\HR g' m1.H w'/\Fr g H w g' m1.H w'/\(∀x,x<nx->g'.Z x=g.Z x)/\∀x,m1.nx<=x->g'.Z x=none) a1.defers .returning w1:=by
  rw[t1.df];obtain ⟨v,pO,qX⟩:=Ix n1.env n1.hr n1.fr hr;exact ⟨v,pO,v,rfl,g1,qX,n1.hr,t1.fr,t1.ro,n1.fresh⟩
 cases hx with
 |normal=>exact fin
 |ret=>exact fin
 |exit id=>cases he
 |fR hv=>cases he
end Go.bZ
end
namespace Go.bZ
variable {n off K t k:Nat} {a x:Operand} {p:TypeId×aY} {o:Option SO} {svs vs:aY} {v:SV} {l:bq} {P:Nat->Prop} {J:Type}
section
variable {c:Cp} {Nn K':Nat}
inductive AV where
 |lit (v:SV)
 |sl (m e s n:Nat) (Q:List (List AV))
 |ju (cs:List AV)
 |agg (cs:List AV)
 |cS (cs:List AV)
 |fn (f:FuncId) (first eG:List AV)
 |el (K s j f:Nat)
 |ms (K s lo n:Nat)
 |mp (K:Nat)
 |it (K:Nat)
 |undef
 deriving Inhabited
abbrev AV.bool (b:Bool):AV:=.lit (.bool b)
abbrev AV.int (k:IntKind) (n:Int):AV:=.lit (.int k (.lit n))
abbrev AV.str (s:ByteArray):AV:=.lit (.str s)
abbrev AV.dD:AV:=.lit .dD
abbrev AV.qc:AV:=.lit .qc
abbrev AV.mn:AV:=.lit .mn
abbrev AV.pb:AV:=.lit .pb
abbrev AV.slice (e s n:Nat) (Q:List (List AV)):AV:=.sl 0 e s n Q
abbrev AV.qK (e s n:Nat) (Q:List (List AV)):AV:=.sl 2 e s n Q
abbrev AV.loc (K f:Nat):AV:=.el K 0 0 f
inductive Sh where
 |d
 |o (x:Bool) (l:List Sh)
inductive Bx where
 |flat (e:TypeId) (cs:List AV)
 |cy (z:Bool) (e s:Nat) (l:List Sh) (Q:List (List AV)) (o:List (Nat×AV))
 |map (es:List (AV×AV))
 |iter (s:ByteArray) (pos:Nat)
 deriving Inhabited
abbrev bA:=List (List AV)
abbrev zty13_:=Nat->List Nat
abbrev cL:=List (Nat×Bx)
abbrev fy:=List (Nat×AV)
abbrev bf:=List AV
abbrev dW:=List Sh
abbrev Bx.rows (z:Bool) (e s:Nat) (Q:bA):Bx:=.cy z e s [] Q []
abbrev Bx.tree (e s:Nat) (l:dW) (Q:bA) (o:fy):Bx:=.cy false e s l Q o
def wc (x:Bool) (e s n:Nat) (Q:bA):AV:=.sl (aP x 2 0) e s n Q
structure GK where
 n:Nat
 c:Cp
 b:Bool
abbrev Gb:=Nat->GK
def lz:Gb:=λ_=>⟨0,.k 0,false⟩
abbrev Ow:=List (Nat×SO)
def adN (e:TypeId) (n:Nat):Cp->Prop
 | .u e'=>e'=e
 | .k m=>n<=m
def yv (e:TypeId) (s n len:Nat):Cp->Prop
 | .u e'=>e'=e/\n*s<=len
 | .k m=>n<=m/\len=m*s
def aij {e s len:Nat} (hc:yv e s n len c):adN e n c:=by
 cases c<;>exact hc.1
def ou {e s len:Nat} (hc:yv e s n len c):n*s<=len:=by
 cases c with
 |k m=>rw[hc.2];exact kJ _ hc.1
 |u e'=>exact hc.2
mutual
inductive VA (F:Hf):Gb->SV->AV->Prop
 |lit {g:_} (v:_):VA F g v (.lit v)
 |nil {g:_} (m e s:_):VA F g .dD (.sl m e s 0 [])
 |sle {g:_} (e s:_):VA F g .sle (.sl 2 e s 0 [])
 |sl {g m id off c e s n Q e' svs:_} (hn:Q.length=n) (hF:jb (F id) off (n*s)=some (e',svs)) (hc:adN e n c) (hm:m=1->Q≠ []) (hu:∀r∈Q,r.length=s) (hl:off+n*s<=svs.length) (h:dz F lz ((svs.drop off).take (n*s)) Q.flatten):VA F g (.sl id off n c) (.sl m e s n Q)
 |ju {g id off cs e svs:_} (hF:jb (F id) off cs.length=some (e,svs)) (hl:off+cs.length<=svs.length) (h:dz F lz ((svs.drop off).take cs.length) cs):VA F g (.ptr id off) (.ju cs)
 |agg {g cs xs:_} (h:dz F g cs xs):VA F g (.agg cs) (.agg xs)
 |cS {g cs xs:_} (h:dz F g cs xs):VA F g (.cS cs) (.cS xs)
 |fn {g:_} (f:_) {a c xs ys:_} (h1:dz F g a xs) (h2:dz F g c ys):VA F g (.fn (.func f) a c) (.fn f xs ys)
 |el {g:_} (K s j f:_) (hb:(g K).b=true):VA F g (.ptr (g K).n (j*s+f)) (.el K s j f)
 |rl {g K:_} (s:_) (hb:(g K).b=false):VA F g .dD (.ms K s 0 0)
 |ms {g K:_} (s lo n:_) (hb:(g K).b=true):VA F g (.sl (g K).n (lo*s) n (FX (g K).c lo)) (.ms K s lo n)
 |xb {g K:_} (s lo:_) (hl:0<lo):VA F g .sle (.ms K s lo 0)
 |mp {g:_} (K:_):VA F g (.mp (g K).n) (.mp K)
 |it {g:_} (K:_):VA F g (.ptr (g K).n 0) (.it K)
 |undef {g:_} (v:_):VA F g v .undef
inductive dz (F:Hf):Gb->aY->bf->Prop
 |nil {g:_}:dz F g [] []
 |cons {g v x vs xs:_} (h:VA F g v x) (t:dz F g vs xs):dz F g (v::vs) (x::xs)
end
def nq (F F':Hf):Prop:=∀id o,F id=some o->F' id=some o
def nq.refl (F:Hf):nq F F:=λ_ _ h=>h
def nq.trans {a b c:Hf} (h:nq a b) (k:nq b c):nq a c:=λid o q=>k id o (h id o q)
def yp {F F':Hf} (hF:nq F F') {id:Nat} (q:jb (F id) off n=some p):jb (F' id) off n=some p:=by
 cases hf:F id with
 |none=>rw[hf] at q;cases q
 |some o=>rw[hF id o hf,<-hf];exact q
def Wo {F:Hf} {id:Nat} (q:jb (F id) off n=some p):∃o,F id=some o:=by
 cases hf:F id with
 |none=>rw[hf] at q;cases q
 |some o=>exact ⟨o,rfl⟩
def rn {e:TypeId} (h:o=some (.cells e svs)):jb o off n=some (e,svs):=by rw[h];rfl
def Jw:∀{cs:aY},(∀(j:Nat) (x:SV),cs[j]? =some x->HI x=false)->uN cs=true
 | [],_=>rfl
 |y::cs,h=>by
  show aP (HI y) false (uN cs)=true;rw[bG,aM (by rw[h 0 y rfl];decide)]
  exact Jw λj x hx=>h (j+1) x hx
def wK {n':Nat} (h:jb o off n=some p) (h1:off<=Nn) (h2:Nn+n'<=off+n):jb o Nn n'=some p:=by
 cases o with
 |none=>cases h
 |some x=>cases x with
  |ro cs=>
   obtain ⟨hd,hx⟩:=aV (show aP (uN ((cs.drop off).take n)) (some (0,cs)) none=some p from h);show aP (uN ((cs.drop Nn).take n')) (some (0,cs)) none=some p;rw[bG,aH (Jw λj x hj=> ?_)]
   ·exact hx
   ·rw[fa] at hj;split at hj
    ·rw[fc] at hj;refine GV hd (j:=Nn-off+j) ?_;rw[fa,aH (by omega),fc,show off+(Nn-off+j)=Nn+j by omega]
     exact hj
    ·cases hj
  |_=>exact h
mutual
def jF:AV->bq
 | .agg cs=>ku cs
 | .cS cs=>ku cs
 | .fn _ a c=>ku a++ku c
 | .el K _ _ _=> [K]
 | .ms K _ _ _=> [K]
 | .mp K=> [K]
 | .it K=> [K]
 |_=> []
def ku:bf->bq
 | []=> []
 |x::l=>jF x++ku l
end
mutual
def Di (f:Nat->Nat):AV->AV
 | .agg cs=>.agg (sR f cs)
 | .cS cs=>.cS (sR f cs)
 | .fn i a c=>.fn i (sR f a) (sR f c)
 | .el K s j i=>.el (f K) s j i
 | .ms K s lo n=>.ms (f K) s lo n
 | .mp K=>.mp (f K)
 | .it K=>.it (f K)
 |x=>x
def sR (f:Nat->Nat):bf->bf
 | []=> []
 |x::l=>Di f x::sR f l
end
mutual
def Lg:∀x:AV,Di (λk=>k) x=x
 | .agg cs=>bM AV.agg (vj cs)
 | .cS cs=>bM AV.cS (vj cs)
 | .fn i a c=>by show AV.fn i (sR _ a) (sR _ c)=_;rw[vj a,vj c]
 | .el .. | .ms .. | .mp _| .it _| .lit _| .sl .. | .ju _| .undef=>rfl
def vj:∀l:bf,sR (λk=>k) l=l
 | []=>rfl
 |x::l=>by show Di _ x::sR _ l=_;rw[Lg x,vj l]
end
variable {F F':Hf} {g g':Gb} {f:Nat->Nat}
mutual
def VA.map (hF:nq F F'):∀{g v x},VA F g v x->∀{g':Gb} {f:Nat->Nat},(∀k∈jF x,g' (f k)=g k)->VA F' g' v (Di f x)
 |_,_,_,.lit v,_,_,_=>.lit v
 |_,_,_,.nil m e s,_,_,_=>.nil m e s
 |_,_,_,.sle e s,_,_,_=>.sle e s
 |_,_,_,.sl hn q hc hm hu hl h,_,_,_=>.sl hn (yp hF q) hc hm hu hl (h.mono hF)
 |_,_,_,.ju q hl h,_,_,_=>.ju (yp hF q) hl (h.mono hF)
 |_,_,_,.agg h,_,_,k=>.agg (h.map hF k)
 |_,_,_,.cS h,_,_,k=>.cS (h.map hF k)
 |_,_,_,.fn i h1 h2,_,_,k=>.fn i (h1.map hF λj hj=>k j (gB _ hj)) (h2.map hF λj hj=>k j (iq _ hj))
 |_,_,_,.el K s j i hb,_,f,k=>by have e:=k K (by simp[jF]);rw[<-e] at hb ⊢;exact .el (f K) s j i hb
 |_,_,_,.rl s hb,_,_,k=>.rl s (by rw[k _ (by simp[jF])];exact hb)
 |_,_,_,.ms (K:=K) s lo n hb,_,f,k=>by have e:=k K (by simp[jF]);rw[<-e] at hb ⊢;exact .ms s lo n hb
 |_,_,_,.xb s lo hl,_,_,_=>.xb s lo hl
 |_,_,_,.mp K,_,f,k=>by rw[<-k K (by simp[jF])];exact .mp (f K)
 |_,_,_,.it K,_,f,k=>by rw[<-k K (by simp[jF])];exact .it (f K)
 |_,_,_,.undef v,_,_,_=>.undef v
def dz.map (hF:nq F F'):∀{g vs xs},dz F g vs xs->∀{g':Gb} {f:Nat->Nat},(∀k∈ku xs,g' (f k)=g k)->dz F' g' vs (sR f xs)
 |_,_,_,.nil,_,_,_=>.nil
 |_,_,_,.cons h t,_,_,k=>.cons (h.map hF λj hj=>k j (gB _ hj)) (t.map hF λj hj=>k j (iq _ hj))
def dz.mono (hF:nq F F'):∀{g vs xs},dz F g vs xs->dz F' g vs xs
 |_,_,_,.nil=>.nil
 |_,_,_,.cons h t=>.cons (by have:=h.map hF (g':=_) (f:=λk=>k) λ_ _=>rfl;rwa[Lg] at this) (t.mono hF)
end
def VA.same {x:AV} (h:VA F g v x) (hF:nq F F') (hg:∀k∈jF x,g' k=g k):VA F' g' v x:=by
 have:=h.map hF hg;rwa[Lg] at this
def VA.mono {x:AV} (hF:nq F F') (h:VA F g v x):VA F' g v x:=h.same hF λ_ _=>rfl
def dz.same {xs:bf} (h:dz F g vs xs) (hF:nq F F') (hg:∀k∈ku xs,g' k=g k):dz F' g' vs xs:=by
 have:=h.map hF hg;rwa[vj] at this
def apx (h:l.isEmpty=true):∀k∈l,P k:=λk hk=>by
 cases l with
 |nil=>cases hk
 |cons=>cases h
def dz.length:∀{vs xs},dz F g vs xs->vs.length=xs.length
 |_,_,.nil=>rfl
 |_,_,.cons _ t=>by simp[t.length]
def dz.get:∀{vs xs},dz F g vs xs->∀{j:Nat} {x:AV},xs[j]? =some x->∃v,vs[j]? =some v/\VA F g v x
 |_,_,.nil,_,_,h=>by simp at h
 |_,_,.cons h t,0,x,hx=>by simp at hx;subst hx;exact ⟨_,rfl,h⟩
 |_,_,.cons h t,j+1,x,hx=>by simp at hx;obtain ⟨v,a,b⟩:=t.get hx;exact ⟨v,by simpa using a,b⟩
def dz.append:∀{vs xs ws ys},dz F g vs xs->dz F g ws ys->dz F g (vs++ws) (xs++ys)
 |_,_,_,_,.nil,k=>k
 |_,_,_,_,.cons h t,k=>.cons h (t.append k)
def dz.drop:∀{vs xs} (n:Nat),dz F g vs xs->dz F g (vs.drop n) (xs.drop n)
 |_,_,0,h=>h
 |_,_,n+1,.nil=>by simpa using .nil
 |_,_,n+1,.cons _ t=>by simpa using t.drop n
def dz.take:∀{vs xs} (n:Nat),dz F g vs xs->dz F g (vs.take n) (xs.take n)
 |_,_,0,_=>by simpa using .nil
 |_,_,n+1,.nil=>by simpa using .nil
 |_,_,n+1,.cons h t=>by simpa using .cons h (t.take n)
def gu (xs:bf) (off:Nat) (ys:bf):bf:=xs.take off++ys++xs.drop (Nat.add off ys.length)
def dz.eI {vs xs ws ys} (h:dz F g vs xs) (k:dz F g ws ys) (off:Nat):dz F g (eI vs off ws) (gu xs off ys):=by
 have:=((h.take off).append k).append (h.drop (off+ys.length));show dz F g (vs.take off++ws++vs.drop (off+ws.length)) _;rw[k.length];exact this
mutual
inductive TC (F:Hf):Sh->SV->AV->Ow->Prop
 |d {v x:_} (q:VA F lz v x):TC F .d v x []
 |any {sh:_} (v:_):TC F sh v .undef []
 |nil {b l e s:_}:TC F (.o b l) .dD (wc b e s 0 []) []
 |sl {b l id c svs e s n Q L:_} (hn:Q.length=n) (hu:∀r∈Q,r.length=s) (hc:yv e s n svs.length c) (q:TR F l (svs.take (n*s)) Q L):TC F (.o b l) (.sl id 0 n c) (wc b e s n Q) ((id,.cells e svs)::L)
inductive kb (F:Hf):dW->aY->bf->Ow->Prop
 |nil {l:_}:kb F l [] [] []
 |cons {l v vs x xs a b:_} (q:TC F (l.headD .d) v x a) (t:kb F l.tail vs xs b):kb F l (v::vs) (x::xs) (a++b)
inductive TR (F:Hf):dW->aY->bA->Ow->Prop
 |nil {l:_}:TR F l [] [] []
 |cons {l vs ws r rows a b:_} (q:kb F l vs r a) (t:TR F l ws rows b):TR F l (vs++ws) (r::rows) (a++b)
end
mutual
def TC.mono (hF:nq F F'):∀{sh v x L},TC F sh v x L->TC F' sh v x L
 |_,_,_,_,.d q=>.d (q.mono hF)
 |_,_,_,_,.any v=>.any v
 |_,_,_,_,.nil=>.nil
 |_,_,_,_,.sl hn hu hc q=>.sl hn hu hc (q.mono hF)
def kb.mono (hF:nq F F'):∀{l vs xs L},kb F l vs xs L->kb F' l vs xs L
 |_,_,_,_,.nil=>.nil
 |_,_,_,_,.cons q t=>.cons (q.mono hF) (t.mono hF)
def TR.mono (hF:nq F F'):∀{l vs Q L},TR F l vs Q L->TR F' l vs Q L
 |_,_,_,_,.nil=>.nil
 |_,_,_,_,.cons q t=>.cons (q.mono hF) (t.mono hF)
end
def kb.length:∀{l vs xs L},kb F l vs xs L->vs.length=xs.length
 |_,_,_,_,.nil=>rfl
 |_,_,_,_,.cons _ t=>by simp[t.length]
def TR.length {s:Nat}:∀{l vs Q L},TR F l vs Q L->(∀r∈Q,r.length=s)->vs.length=Q.length*s
 |_,_,_,_,.nil,_=>by simp
 |_,_,_,_,.cons q t,hu=>by
  rw[gD,q.length,hu _ (by simp),t.length λr hr=>hu r (fM _ hr),kq,Nat.succ_mul]
  omega
mutual
def TC.data (hF:nq F F'):∀{sh v x L},TC F sh v x L->(∀p∈L,F' p.1=some p.2)->VA F' lz v x
 |_,_,_,_,.d q,_=>q.mono hF
 |_,_,_,_,.any v,_=>.undef v
 |_,_,_,_,.nil,_=>.nil _ _ _
 |_,_,_,_,@TC.sl _ b l id c svs e s n Q L hn hu hc q,hk=>.sl (m:=aP b 2 0) hn (rn (hk (id,.cells e svs) (by simp))) (aij hc) (λh=>by cases b<;>cases h) hu (by rw[cC];exact ou hc) (by simpa using q.data hF λp hp=>hk p (fM _ hp))
def kb.data (hF:nq F F'):∀{l vs xs L},kb F l vs xs L->(∀p∈L,F' p.1=some p.2)->dz F' lz vs xs
 |_,_,_,_,.nil,_=>.nil
 |_,_,_,_,.cons q t,hk=>.cons (q.data hF λp hp=>hk p (gB _ hp)) (t.data hF λp hp=>hk p (iq _ hp))
def TR.data (hF:nq F F'):∀{l vs Q L},TR F l vs Q L->(∀p∈L,F' p.1=some p.2)->dz F' lz vs Q.flatten
 |_,_,_,_,.nil,_=>.nil
 |_,_,_,_,.cons q t,hk=>by
  rw[qB];exact (q.data hF λp hp=>hk p (gB _ hp)).append (t.data hF λp hp=>hk p (iq _ hp))
end
def kb.uG:∀{vs xs},dz F lz vs xs->kb F [] vs xs []
 |_,_,.nil=>.nil
 |_,_,.cons h t=>.cons (l:= []) (.d h) (kb.uG t)
def TR.uG {s:Nat}:∀{Q:bA} {vs},(∀r∈Q,r.length=s)->dz F lz vs Q.flatten->TR F [] vs Q []
 | [],vs,_,q=>by cases q;exact .nil
 |r::Q,vs,hu,q=>by
  rw[qB] at q;have q1:=q.take r.length;have q2:=q.drop r.length;rw[Yy] at q1;rw[Yx] at q2;have:=TR.cons (kb.uG q1) (TR.uG (λr' hr=>hu r' (fM _ hr)) q2)
  rwa[DH] at this
def Bx.keys:Bx->bq
 | .flat _ cs=>ku cs
 | .cy _ _ _ _ _ o=>ku (o.map (·.2))
 |_=> []
def Bx.jl (f:Nat->Nat):Bx->Bx
 | .flat e cs=>.flat e (sR f cs)
 | .cy z e s l Q o=>.cy z e s l Q (o.map λp=>(p.1,Di f p.2))
 |b=>b
def HoA (F:Hf) (g:Gb) (svs:aY) (o:fy):Prop:=∀p∈o,∃v,svs[p.1]? =some v/\VA F g v p.2
inductive eH (F:Hf) (g:Gb) (K:Nat):Bx->Ow->Prop
 |flat {e cs svs:_} (q:dz F g svs cs):eH F g K (.flat e cs) [((g K).n,.cells e svs)]
 |nil {z e s l:_} (hb:(g K).b=false):eH F g K (.cy z e s l [] []) []
 |cy {z e s l Q o svs L:_} (hb:(g K).b=true) (hz:z=true->Q≠ []) (hu:∀r∈Q,r.length=s) (hc:yv e s Q.length svs.length (g K).c) (q:TR F l (svs.take (Q.length*s)) Q L) (ho:HoA F g svs o):eH F g K (.cy z e s l Q o) (((g K).n,.cells e svs)::L)
 |map {es ms c:_} (hk:dz F lz (ms.map (·.1)) (es.map (·.1))) (hv:dz F lz (ms.map (·.2.1)) (es.map (·.2))):eH F g K (.map es) [((g K).n,.map ms c)]
 |iter {s pos:_}:eH F g K (.iter s pos) [((g K).n,.nA s pos)]
def Ac:∀{l:bf} {x:AV},x∈l->∀k∈jF x,k∈ku l
 |y::l,x,hx,k,hk=>(cH.1 hx).elim (λe=>gB _ (e ▸ hk)) λhx=>iq _ (Ac hx k hk)
def HoA.map {svs:aY} {o:fy} (h:HoA F g svs o) (hF:nq F F') (hg:∀k∈ku (o.map (·.2)),g' (f k)=g k):HoA F' g' svs (o.map λp=>(p.1,Di f p.2)):=λp hp=>by
 obtain ⟨q,hq,rfl⟩:=cP.1 hp;obtain ⟨v,h1,h2⟩:=h q hq;exact ⟨v,h1,h2.map hF λk hk=>hg k (Ac (cP.2 ⟨q,hq,rfl⟩) k hk)⟩
def eH.mv {b:Bx} {L:Ow} (q:eH F g K b L) (hF:nq F F') (hK:g' K'=g K) (hg:∀k∈b.keys,g' (f k)=g k):eH F' g' K' (b.jl f) L:=by
 cases q with
 |flat q=>rw[<-hK];exact .flat (q.map hF hg)
 |nil hb=>exact .nil (hK ▸ hb)
 |cy hb hz hu hc q ho=>rw[<-hK] at hb hc ⊢;exact .cy hb hz hu hc (q.mono hF) (ho.map hF hg)
 |map hk hv=>rw[<-hK];exact .map (hk.mono hF) (hv.mono hF)
 |iter=>rw[<-hK];exact .iter
def Bx.aEA (b:Bx):b.jl (λk=>k)=b:=by
 cases b with
 |flat e cs=>exact bM (Bx.flat e) (vj cs)
 |cy z e s l Q o=>
  refine bM (Bx.cy z e s l Q) ?_;rw[show (λp:Nat×AV=>(p.1,Di (λk=>k) p.2))=id from funext λp=>by rw[Lg];rfl,List.map_id]
 |_=>rfl
def eH.same {b:Bx} {L:Ow} (q:eH F g K b L) (hF:nq F F') (hK:g' K=g K) (hg:∀k∈b.keys,g' k=g k):eH F' g' K b L:=by
 have:=q.mv hF hK hg;rwa[Bx.aEA] at this
end
section
structure LS where
 ts:fy
 bs:cL
def lk {J:Type} (t:Nat) (l:List (Nat×J)):Option J:=List.rec none (λp _ ih=>aP (Nat.beq t p.1) (some p.2) ih) l
def dy (t k:Nat) (x:J) (l:List (Nat×J)):lk t ((k,x)::l)=if t=k then some x else lk t l:=by
 show aP (Nat.beq t k) (some x) (lk t l)=_;rw[bG];by_cases h:t=k
 ·rw[aH h,aH ((beq_iff _ _).2 h)]
 ·rw[aM h,aM (λe=>h ((beq_iff _ _).1 e))]
def Bi {J O:Type} (f:Nat->J->O) (t:Nat):∀l:List (Nat×J),lk t (l.map λp=>(p.1,f p.1 p.2))=(lk t l).map (f t)
 | []=>rfl
 |(k,x)::l=>by
  rw[iZ,dy,dy,Bi f t l];split
  ·rename_i e;subst e;rfl
  ·rfl
def nW {J:Type} {t:Nat} {x:J}:∀{l:List (Nat×J)},lk t l=some x->(t,x)∈l
 | [],h=>by cases h
 |(k,y)::l,h=>by
  rw[dy] at h;split at h
  ·rename_i e;cases h;rw[e];exact jo
  ·exact fM _ (nW h)
def kh {J:Type} (K:Nat) (l:List (Nat×J)):List (Nat×J):=List.rec [] (λp _ ih=>aP (Nat.beq p.1 K) ih (p::ih)) l
def vm {J:Type} (K k:Nat):∀l:List (Nat×J),lk k (kh K l)=if k=K then none else lk k l
 | []=>by split<;>rfl
 |(j,x)::l=>by
  show lk k (aP (Nat.beq j K) (kh K l) ((j,x)::kh K l))=_;rw[bG,dy];split
  ·rename_i e;obtain rfl:=(beq_iff _ _).1 e;rw[vm j k l];split<;>rfl
  ·rename_i e;have hj:j≠K:=λc=>e ((beq_iff _ _).2 c)
   rw[dy,vm K k l];by_cases hk:k=j
   ·rw[aH hk,aH hk,aM (λc=>hj (hk ▸ c))]
   ·rw[aM hk,aM hk]
variable {F F':Hf} {g g':Gb} {Y:Nat->Ow} {c:Nat->bP} {s s':LS} {T T':Tf} {H H':Hf}
structure Rel (F:Hf) (g:Gb) (Y:Nat->Ow) (c:Nat->bP) (s:LS) (T:Tf) (H:Hf):Prop where
 tm:∀t x,lk t s.ts=some x->x≠ .undef->∃v,T t=some v/\VA F g v x
 bx:∀k b,lk k s.bs=some b->eH F g k b (Y k)/\((Y k).map (·.1)).Nodup/\∀p∈Y k,H p.1=some p.2/\c p.1=some k
 fr:∀i o,F i=some o->H i=some o/\c i=none
 cn:∀i,H i=none->c i=none
def Rel.sub (r:Rel F g Y c s T H) (h1:∀t x,lk t s'.ts=some x->lk t s.ts=some x) (h2:∀k b,lk k s'.bs=some b->lk k s.bs=some b):Rel F g Y c s' T H:=
 {r with tm:=λt x hx=>r.tm t x (h1 t x hx),bx:=λk b hb=>r.bx k b (h2 k b hb)}
def LS.put (s:LS) (d:bP) (x:AV):LS:= @Option.rec Nat (λ_=>LS) s (λd=>⟨(d,x)::s.ts,s.bs⟩) d
def Rel.put (r:Rel F g Y c s T H) (d:bP) {x:AV} (hv:x≠ .undef->VA F g v x):Rel F g Y c (s.put d x) (jg T d v) H:=by
 cases d with
 |none=>exact {r with tm:=λt y hy hn=>by simpa[jg] using r.tm t y hy hn}
 |some d=>
  refine {r with tm:=λt y hy hn=> ?_}
  rw[show (s.put (some d) x).ts=(d,x)::s.ts from rfl,dy] at hy;simp only[jg,Kp];split at hy
  ·rename_i e;cases hy;exact ⟨v,by rw[aH e.symm],hv hn⟩
  ·rename_i e;rw[aM λh=>e h.symm]
   exact r.tm t y hy hn
def Rel.ajU (r:Rel F g Y c s T H) (hF:∀i o,F' i=some o->H i=some o/\c i=none) {ft:Nat->AV->AV} {fb:Nat->Bx->Bx} (h0:∀t,ft t .undef= .undef) (h1:∀t v x,lk t s.ts=some x->VA F g v x->VA F' g' v (ft t x))
  (h2:∀k b L,lk k s.bs=some b->eH F g k b L->eH F' g' k (fb k b) L):Rel F' g' Y c ⟨s.ts.map λp=>(p.1,ft p.1 p.2),s.bs.map λp=>(p.1,fb p.1 p.2)⟩ T H:=by
 refine ⟨λt y hy hn=> ?_,λk b hb=> ?_,hF,r.cn⟩
 ·have hy:lk t (s.ts.map λp=>(p.1,ft p.1 p.2))=some y:=hy
  rw[Bi] at hy;obtain ⟨x,hx,e⟩:=vV.1 hy;by_cases hu:x= .undef
  ·subst hu;rw[h0] at e;exact absurd e.symm hn
  ·obtain ⟨v,v1,v2⟩:=r.tm t x hx hu;exact ⟨v,v1,e ▸ h1 t v x hx v2⟩
 ·have hb:lk k (s.bs.map λp=>(p.1,fb p.1 p.2))=some b:=hb
  rw[Bi] at hb;obtain ⟨b0,o6,rfl⟩:=vV.1 hb;obtain ⟨q,q2⟩:=r.bx k b0 o6;exact ⟨h2 k b0 _ o6 q,q2⟩
def lR {J:Type} (Y:Nat->J) (K:Nat) (x:J):Nat->J:=λk=>if k=K then x else Y k
def LS.free (s:LS) (K:Nat):Prop:=(∀t x,lk t s.ts=some x->K∉jF x)/\∀k b,k≠K->lk k s.bs=some b->K∉b.keys
def LS.set (s:LS) (K:Nat) (b:Bx):LS:=⟨s.ts,(K,b)::s.bs⟩
def Alike (s:LS) (K:Nat) (g g':Gb):Prop:=g'=g\/(s.free K/\∀k,k≠K->g' k=g k)
def Alike.va (h:Alike s K g g') {x:AV} (hx:lk t s.ts=some x) (hv:VA F g v x):VA F g' v x:=by
 rcases h with rfl|⟨h1,h2⟩
 ·exact hv
 ·exact hv.same (.refl F) λk hk=>h2 k λe=>h1.1 t x hx (e ▸ hk)
def Alike.box (h:Alike s K g g') {b:Bx} (cY:k≠K) (hb:lk k s.bs=some b) {L:Ow} (q:eH F g k b L):eH F g' k b L:=by
 rcases h with rfl|⟨h1,h2⟩
 ·exact q
 ·exact q.same (.refl F) (h2 k cY) λj hj=>h2 j λe=>h1.2 k b cY hb (e ▸ hj)
open Classical in
def Rel.chg (r:Rel F g Y c s T H) {b':Bx} {L':Ow} (hb:eH F g' K b' L') (nd:(L'.map (·.1)).Nodup) (hL:∀p∈L',H' p.1=some p.2/\(c p.1=some K\/H p.1=none)) (hH:∀i,H' i≠H i->c i=some K\/H i=none) (hg:Alike s K g g'):∃c',Rel F g' (lR Y K L') c' (s.set K b') T H'/\(∀i,H i≠none->c i≠some K->c' i=c i)/\(∀i k,c' i=some k->c i=some k\/(k=K/\i∈L'.map (·.1)))/\∀i k,c i=some k->c' i=some k\/H' i=none:=by
 let c':Nat->bP:=λi=>if H' i=none then none else if i∈L'.map (·.1) then some K else c i
 have keep:∀{i o},H i=some o->c i≠some K->H' i=some o/\c' i=c i:=λ{i o} hi hc=>by
  have e:H' i=H i:=nu λhn=>(hH i hn).elim hc λh=>by rw[h] at hi;cases hi
  refine ⟨e.trans hi,?_⟩;show (if H' i=none then none else if i∈L'.map (·.1) then some K else c i)=c i
  rw[e,hi,aM (by simp),aM λhm=> ?_]
  obtain ⟨p,hp,rfl⟩:=cP.1 hm;exact (hL p hp).2.elim hc λh=>by rw[h] at hi;cases hi
 refine ⟨c',⟨λt x hx hn=> ?_,λk b hk=> ?_,λi o hi=> ?_,λi hi=>aH hi⟩,λi hi hc=> ?_,λi k h=> ?_,λi k h=> ?_⟩
 ·obtain ⟨v,v1,v2⟩:=r.tm t x hx hn;exact ⟨v,v1,hg.va hx v2⟩
 ·rw[show (s.set K b').bs=(K,b')::s.bs from rfl,dy] at hk;unfold lR;split at hk
  ·rename_i e;cases hk;rw[aH e,e];refine ⟨hb,nd,λp hp=>⟨(hL p hp).1,?_⟩⟩
   show (if H' p.1=none then none else if p.1∈L'.map (·.1) then some K else c p.1)=some K
   rw[(hL p hp).1,aM (by simp),aH (cP.2 ⟨p,hp,rfl⟩)]
  ·rename_i e;rw[aM e];obtain ⟨q1,q2,q3⟩:=r.bx k b hk;refine ⟨hg.box e hk q1,q2,λp hp=> ?_⟩
   obtain ⟨p1,p2⟩:=q3 p hp;obtain ⟨k1,k2⟩:=keep p1 (by rw[p2];exact λh=>e (by injection h))
   exact ⟨k1,k2.trans p2⟩
 ·obtain ⟨p1,p2⟩:=r.fr i o hi;obtain ⟨k1,k2⟩:=keep p1 (by rw[p2];simp)
  exact ⟨k1,k2.trans p2⟩
 ·obtain ⟨o,ho⟩:=su.1 hi;exact (keep ho hc).2
 ·have h:(if H' i=none then none else if i∈L'.map (·.1) then some K else c i)=some k:=h
  split at h
  ·cases h
  ·split at h
   ·rename_i hm;exact .inr ⟨(kW h).symm,hm⟩
   ·exact .inl h
 ·show (if H' i=none then none else if i∈L'.map (·.1) then some K else c i)=some k\/_
  split
  ·rename_i e;exact .inr e
  ·left;split
   ·rename_i hm;obtain ⟨p,hp,rfl⟩:=cP.1 hm;rcases (hL p hp).2 with e|e
    ·exact e.symm.trans h
    ·rw[r.cn _ e] at h;cases h
   ·exact h
def keyN {i:Nat} {c:Nat->bP} (h:(if c i=some K then none else c i)=some K):False:=by
 split at h
 ·cases h
 ·contradiction
def Rel.sink (r:Rel F g Y c s T H) (K:Nat):∃F' c',nq F F'/\((∀i k,c' i=some k->c i=some k)/\(∀i,F' i≠none->F i≠none\/c i=some K)/\(∀i,c i≠some K->c' i=c i)/\∀i,c' i≠some K)/\(∀b,lk K s.bs=some b->∀p∈Y K,F' p.1=some p.2)/\Rel F' g Y c' ⟨s.ts,kh K s.bs⟩ T H:=by
 let F':Hf:=λi=>if c i=some K then H i else F i
 have hF:nq F F':=λi o ho=>by
  show (if c i=some K then H i else F i)=some o
  rw[(r.fr i o ho).2,aM (by simp)]
  exact ho
 refine ⟨F',λi=>if c i=some K then none else c i,hF,⟨λi k h=> ?_,λi h=> ?_,λi h=>aM h,λi h=>keyN h⟩,λb hb p hp=> ?_,λt x hx hn=> ?_,λk b hk=> ?_,λi o hi=> ?_,λi hi=> ?_⟩
 ·dsimp only at h;split at h
  ·cases h
  ·exact h
 ·have h:(if c i=some K then H i else F i)≠none:=h
  split at h
  ·exact .inr (by assumption)
  ·exact .inl h
 ·obtain ⟨p1,p2⟩:=(r.bx K b hb).2.2 p hp;exact (aH p2).trans p1
 ·obtain ⟨v,v1,v2⟩:=r.tm t x hx hn;exact ⟨v,v1,v2.mono hF⟩
 ·rw[vm] at hk;split at hk
  ·cases hk
  ·rename_i cY;obtain ⟨q1,q2,q3⟩:=r.bx k b hk;refine ⟨q1.same hF rfl λ_ _=>rfl,q2,λp hp=>⟨(q3 p hp).1,?_⟩⟩
   rw[(q3 p hp).2,aM λh=>cY (by injection h)]
 ·have hi:(if c i=some K then H i else F i)=some o:=hi
  split at hi
  ·rename_i e;exact ⟨hi,aH e⟩
  ·rename_i e;exact ⟨(r.fr i o hi).1,(aM e).trans (r.fr i o hi).2⟩
 ·split
  ·rfl
  ·exact r.cn i hi
structure jM (pn:Nat->Bool) (s s':LS):Prop where
 go:∀{F g Y c T H},Rel F g Y c s T H->∃F' g' φ' c',nq F F'/\(∀k,pn k=true->g' k=g k)/\Rel F' g' φ' c' s' T H
variable {pn:Nat->Bool} {s1:LS}
def jM.refl:jM pn s s:=.mk λr=>⟨_,_,_,_,.refl _,λ_ _=>rfl,r⟩
def jM.trans (h:jM pn s s1) (k:jM pn s1 s'):jM pn s s':=.mk λr=>
 let ⟨_,_,_,_,h1,h2,r1⟩:=h.go r
 let ⟨_,_,_,_,k1,k2,r2⟩:=k.go r1
 ⟨_,_,_,_,h1.trans k1,λj hj=>(k2 j hj).trans (h2 j hj),r2⟩
end
section
variable {F:Hf} {g g':Gb} {Y:Nat->Ow} {c:Nat->bP} {s s':LS} {T:Tf} {H:Hf} {E:Env} {pn:Nat->Bool}
variable {f:Hf->SV->gm}
def dR (ts:fy) (x:Operand):AV:=
 match x with
 | .tmp t=>(lk t ts).getD .undef
 | .const v=>.lit (ue v)
 | .func f=>.fn f [] []
 | .global _=>.undef
def tV (ts:fy) (xs:List Operand):bf:=xs.map (dR ts)
def sH:AV->Bool
 | .undef=>true
 |_=>false
def Gt {x:AV} (h:sH x=false):x≠ .undef:=λe=>by rw[e] at h;cases h
def sD:bf->Bool
 | []=>true
 |x::l=>aP (sH x) false (sD l)
def Rel.val (r:Rel F g Y c s T H) {y:AV} (hx:dR s.ts x=y) (hy:y≠ .undef):∃v,cD T x=some v/\VA F g v y:=by
 subst hx;cases x with
 |tmp t=>
  cases h:lk t s.ts with
  |none=>exact absurd (by show (lk t s.ts).getD .undef=_;rw[h];rfl) hy
  |some z=>
   have e:dR s.ts (.tmp t)=z:=by show (lk t s.ts).getD .undef=_;rw[h];rfl
   rw[e] at hy ⊢;exact r.tm t z h hy
 |const v=>exact ⟨_,rfl,.lit _⟩
 |func f=>exact ⟨_,rfl,.fn f .nil .nil⟩
 |global _=>exact absurd rfl hy
def Rel.fT (r:Rel F g Y c s T H):∀{xs:List Operand},sD (tV s.ts xs)=true->∃vs,fT T xs=some vs/\dz F g vs (tV s.ts xs)
 | [],_=>⟨[],rfl,.nil⟩
 |x::xs,h=>by
  have h:aP (sH (dR s.ts x)) false (sD (tV s.ts xs))=true:=h;rw[bG] at h;split at h
  ·cases h
  ·rename_i hx;obtain ⟨v,v1,v2⟩:=r.val (x:=x) rfl (Gt (by simpa using hx))
   obtain ⟨vs,w1,w2⟩:=r.fT h;exact ⟨v::vs,by show bU (cD T x) (bZ.fT T xs) _=_;rw[v1,w1];rfl,.cons v2 w2⟩
structure Ok (E:Env) (pn:Nat->Bool) (op:Op) (s s':LS) (x:AV) (W:bq):Prop where
 go:∀{F:Hf} {g:Gb} {Y:Nat->Ow} {c:Nat->bP} {T:Tf} {H:Hf} {new:Nat},Rel F g Y c s T H->H new=none->∃v us g' φ' c',qQ E op T H new=some (v,us)/\(x≠ .undef->VA F g' v x)/\Rel F g' φ' c' s' T (gx H us)/\(∀k,pn k=true->g' k=g k)/\
  (∀i,H i≠none->(∀K∈W,c i≠some K)->gx H us i=H i/\c' i=c i)/\(∀u∈us,u.1=new\/∃K∈W,c u.1=some K)/\(∀i k,c i=some k->c' i=some k\/gx H us i=none)/\(gx H us new≠none->∃K∈W,c' new=some K)
def Ok.val {op:Op} {x:AV} (h:∀{F:Hf} {g:Gb} {Y:Nat->Ow} {c:Nat->bP} {T:Tf} {H:Hf},Rel F g Y c s T H->∃v,(∀new,qQ E op T H new=some (v,[]))/\VA F g v x):Ok E pn op s s x []:=⟨λ{F g Y c T H new} r hn=>by
 obtain ⟨v,v1,v2⟩:=h r;exact ⟨v,[],g,Y,c,v1 new,λ_=>v2,r,λ_ _=>rfl,λ_ _ _=>⟨rfl,rfl⟩,λ_ hu=>(by cases hu),λ_ _ h=>.inl h,λh=>absurd hn h⟩⟩
def Ok.un {op:Op} {x y:AV} (eP:∀T H new,qQ E op T H new=one T a (f H)) (ha:dR s.ts a=y) (hy:y≠ .undef) (hf:∀{F:Hf} {g:Gb} {Y:Nat->Ow} {c:Nat->bP} {T:Tf} {H:Hf} {v:SV},Rel F g Y c s T H->VA F g v y->∃u,f H v=some (u,[])/\VA F g u x):Ok E pn op s s x []:=.val λ{F g Y c T H} r=>by
 obtain ⟨v,v1,v2⟩:=r.val ha hy;obtain ⟨u,u1,u2⟩:=hf r v2;exact ⟨u,λnew=>by rw[eP,one,v1];exact u1,u2⟩
def Ok.bi {op:Op} {b:Operand} {f:SV->SV->gm} {x y z:AV} (eP:∀T H new,qQ E op T H new=two T a b f) (ha:dR s.ts a=y) (hy:y≠ .undef) (hb:dR s.ts b=z) (hz:z≠ .undef) (hf:∀{F:Hf} {g:Gb} {v w:SV},VA F g v y->VA F g w z->∃u,f v w=some (u,[])/\VA F g u x):Ok E pn op s s x []:=.val λ{F g Y c T H} r=>by
 obtain ⟨v,v1,v2⟩:=r.val ha hy;obtain ⟨w,w1,w2⟩:=r.val hb hz;obtain ⟨u,u1,u2⟩:=hf v2 w2;exact ⟨u,λnew=>by rw[eP,two,v1,w1];exact u1,u2⟩
def Ok.boxG {op:Op} {x:AV} {b':Bx} {s1:LS} (hs:∀{F:Hf} {g:Gb} {Y:Nat->Ow} {c:Nat->bP} {T:Tf} {H:Hf},Rel F g Y c s T H->Rel F g Y c s1 T H) (h:∀{F:Hf} {g:Gb} {Y:Nat->Ow} {c:Nat->bP} {T:Tf} {H:Hf} {new:Nat},Rel F g Y c s T H->H new=none->∃v us gk L',qQ E op T H new=some (v,us)/\VA F (lR g K gk) v x/\eH F (lR g K gk) K b' L'/\(L'.map (·.1)).Nodup/\
  (∀p∈L',gx H us p.1=some p.2/\(c p.1=some K\/H p.1=none))/\(∀u∈us,u.1=new\/c u.1=some K)/\(gk=g K\/(pn K=false/\s1.free K))/\(gx H us new=none\/new∈L'.map (·.1))):Ok E pn op s (s1.set K b') x [K]:=⟨λ{F g Y c T H new} r hn=>by
 obtain ⟨v,us,gk,L',v1,v2,hb,nd,hL,hu,hg,hnw⟩:=h r hn;have r:=hs r;have cu:∀i,gx H us i≠H i->c i=some K\/H i=none:=λi hi=>by
  by_cases hm:i∈us.map (·.1)
  ·obtain ⟨u,se,rfl⟩:=cP.1 hm;exact (hu u se).elim (λe=>.inr (by rw[e];exact hn)) .inl
  ·exact absurd (mh hm H) hi
 have same:gk=g K->lR g K gk=g:=λe=>funext λk=>by unfold lR;split<;>simp_all
 obtain ⟨c',r',hc,Jf,hc3⟩:=r.chg hb nd hL cu (hg.elim (λe=>.inl (same e)) λhf=>.inr ⟨hf.2,λk hk=>aM hk⟩)
 refine ⟨v,us,_,_,c',v1,λ_=>v2,r',λk hk=> ?_,λi hi hW=> ?_,λu hm=>(hu u hm).imp_right λe=>⟨K,by simp,e⟩,λi k hk=>hc3 i k hk,λcY=> ?_⟩
 ·rcases hg with e|⟨e,_⟩
  ·rw[same e]
  ·exact aM λe'=>by rw[e',e] at hk;cases hk
 ·have hK:=hW K (by simp)
  exact ⟨nu λcY=>(cu i cY).elim hK hi,hc i hi hK⟩
 ·rcases hnw with h|h
  ·exact absurd h cY
  ·obtain ⟨p,hp,rfl⟩:=cP.1 h;exact ⟨K,by simp,((r'.bx K _ (by rw[show (s1.set K b').bs=(K,b')::s1.bs from rfl,dy,aH rfl])).2.2 p (by unfold lR;rw[aH rfl];exact hp)).2⟩⟩
def Ok.box {op:Op} {x:AV} {b':Bx} (h:∀{F:Hf} {g:Gb} {Y:Nat->Ow} {c:Nat->bP} {T:Tf} {H:Hf} {new:Nat},Rel F g Y c s T H->H new=none->∃v us gk L',qQ E op T H new=some (v,us)/\VA F (lR g K gk) v x/\eH F (lR g K gk) K b' L'/\(L'.map (·.1)).Nodup/\
  (∀p∈L',gx H us p.1=some p.2/\(c p.1=some K\/H p.1=none))/\(∀u∈us,u.1=new\/c u.1=some K)/\(gk=g K\/(pn K=false/\s.free K))/\(gx H us new=none\/new∈L'.map (·.1))):Ok E pn op s (s.set K b') x [K]:=.boxG (λr=>r) h
def Ok.lay {op:Op} {x:AV} {b:Bx} (hp:pn K=false) (hf:s.free K) (h:∀{F:Hf} {g:Gb} {Y:Nat->Ow} {c:Nat->bP} {T:Tf} {H:Hf} {new:Nat},Rel F g Y c s T H->∃v o cp,qQ E op T H new=some (v,[(new,some o)])/\
  ∀g':Gb,g' K=⟨new,cp,true⟩->(∀k,k≠K->g' k=g k)->VA F g' v x/\eH F g' K b [(new,o)]):Ok E pn op s (s.set K b) x [K]:=.box λ{F g Y c T H new} r hn=>by
 obtain ⟨v,o,cp,v1,v2⟩:=h (new:=new) r;obtain ⟨a,b⟩:=v2 (lR g K ⟨new,cp,true⟩) (aH rfl) λk hk=>aM hk
 refine ⟨v,_,⟨new,cp,true⟩,_,v1,a,b,by simp,λp hp=> ?_,λu hu=>.inl (by rw[ez.1 hu]),.inr ⟨hp,hf⟩,.inr (by simp)⟩
 obtain rfl:=ez.1 hp;exact ⟨by simp[gx,jk],.inr hn⟩
def Ok.wr {op:Op} {x:AV} {b b':Bx} (hb:lk K s.bs=some b) (h:∀{F:Hf} {g:Gb} {Y:Nat->Ow} {c:Nat->bP} {T:Tf} {H:Hf},Rel F g Y c s T H->∃v o o' L L',Y K=((g K).n,o)::L/\(∀new,qQ E op T H new=some (v,[((g K).n,some o')]))/\
  VA F g v x/\eH F g K b' (((g K).n,o')::L')/\L'.Sublist L):Ok E pn op s (s.set K b') x [K]:=.box λ{F g Y c T H new} r hn=>by
 obtain ⟨v,o,o',L,L',e,v1,v2,v3,hs⟩:=h r;obtain ⟨_,q2,q3⟩:=r.bx K b hb;rw[e] at q2 q3;have same:lR g K (g K)=g:=funext λk=>by unfold lR;split<;>simp_all
 have qn:=(q3 ((g K).n,o) (by simp)).2
 have nd:(((g K).n,o')::L').map (·.1)|>.Nodup:=by rw[iZ,pt] at q2 ⊢;exact ⟨λh=>q2.1 ((hs.map _).subset h),(hs.map _).nodup q2.2⟩
 refine ⟨v,_,g K,((g K).n,o')::L',v1 new,by rw[same];exact v2,by rw[same];exact v3,nd,λp hp=> ?_,λu hu=>.inr (by rw[ez.1 hu];exact qn),.inl rfl,.inl ?_⟩
 rcases cH.1 hp with rfl|hp
 ·exact ⟨by simp[gx,jk],.inl qn⟩
 ·obtain ⟨p1,p2⟩:=q3 p (fM _ (hs.subset hp));refine ⟨?_,.inl p2⟩;show jk H ((g K).n,some o') p.1=_;unfold jk;rw[aM λe=> ?_]
  ·exact p1
  ·have:=(pt.1 nd).1;exact this (by have e:p.1=(g K).n:=e;exact cP.2 ⟨p,hp,e⟩)
 ·show (if new=(g K).n then _ else H new)=none
  rw[aM λe=> ?_]
  ·exact hn
  ·have:=(q3 ((g K).n,o) (by simp)).1
   rw[e] at hn;rw[show ((g K).n,o).1=(g K).n from rfl,hn] at this;cases this
end
end Go.bZ
end
