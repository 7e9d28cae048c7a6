/- Texts that belong together. The first: Plain laws: which predicates are valid: the program's Check and the reference's are one function. Condition: sizes below 2^32, enough steps. -/
import Derived.Test.YtmealahmjddpcaaGreatDoorP10
import Derived.Laws.RangeString
import Derived.Laws.RangeAny
set_option linter.all false
noncomputable section
namespace Go.Proofs.YtmealahmjddpcaaGreatDoor
open Go.Sim
def kOK (k:Int):Bool:=k==3||k==4||k==5
def dL (l:List Int):Bool:=l.all kOK
theorem bB {i L:Nat} (h:i<L) (hl:L<4294967296):w64 ((i:Int)+1)=((i+1:Nat):Int):=by rw[bZ (by omega) (by omega)];rfl
theorem MR (n:Nat) (k:Int):J4 n k=some (kOK k):=by
 unfold J4 Ks kOK;by_cases h3:k=3
 ·simp[h3]
 ·by_cases h4:k=4
  ·simp[h4]
  ·simp[h3,h4]
theorem MP (xs:List Int) (hl:xs.length<4294967296):∀(l:List Int) (i n:Nat),xs.drop i=l→l.length<n→rE (some true) n xs (xs.length:Int) (i:Int)=some (dL l)
 | [],i,n+1,hd,hn=>by
  have:xs.length≤i:=by simpa using hd
  have h:¬((i:Int)<(xs.length:Int)):=by omega
  simp[rE,A7,h,dL]
 |x::l,i,n+1,hd,hn=>by
  obtain ⟨h1,h2,h3⟩:=aP hd;have h:((i:Int)<(xs.length:Int)):=by omega
  have ih:=MP xs hl l (i+1) n h2 (by simp at hn;omega)
  simp only[rE,A7,h,decide_true,if_true,aW,h1,Option.bind_some,MR,bB h3 hl,ih];simp only[dL,List.all_cons];cases kOK x<;>simp
 |_,_,0,_,hn=>by simp at hn
theorem MZ (n:Nat) (xs:List Int) (hl:xs.length<4294967296) (hn:xs.length<n):J8 n xs=some (dL xs):=by
 have:=MP xs hl xs 0 n rfl hn;simpa[J8,KH,KJ] using this
theorem MN (xs:List Int) (hl:xs.length<4294967296):∀(l:List Int) (i n:Nat),xs.drop i=l→l.length<n→rz (some true) n xs (xs.length:Int) (i:Int)=some (dL l)
 | [],i,n+1,hd,hn=>by
  have:xs.length≤i:=by simpa using hd
  have h:¬((i:Int)<(xs.length:Int)):=by omega
  simp[rz,AY,h,dL]
 |x::l,i,n+1,hd,hn=>by
  obtain ⟨h1,h2,h3⟩:=aP hd;have h:((i:Int)<(xs.length:Int)):=by omega
  have ih:=MN xs hl l (i+1) n h2 (by simp at hn;omega)
  simp only[rz,AY,h,decide_true,if_true,aW,h1,Option.bind_some,bB h3 hl,ih];simp only[dL,List.all_cons,kOK];by_cases q3:x=3
  ·simp[q3]
  ·by_cases q4:x=4
   ·simp[q4]
   ·by_cases q5:x=5<;>simp[q3,q4,q5]
 |_,_,0,_,hn=>by simp at hn
theorem MU (n:Nat) (xs:List Int) (hl:xs.length<4294967296) (hn:xs.length<n):J6 n xs=some (dL xs):=by
 have:=MN xs hl xs 0 n rfl hn;simpa[J6,Kx,Ky] using this
mutual
def ndP:ag→Nat
 |⟨_,_,_,_,args⟩=>1+ndL args
def ndL:List ag→Nat
 | []=>0
 |x::xs=>ndP x+ndL xs
end
mutual
def dpP:ag→Nat
 |⟨_,_,_,_,args⟩=>1+dpL args
def dpL:List ag→Nat
 | []=>0
 |x::xs=>max (dpP x) (dpL xs)
end
theorem MA (p:ag):1≤ndP p:=by obtain ⟨_,_,_,_,_⟩:=p;simp[ndP]
theorem MY:∀(n:Nat) (p:ag) (m:Int),szP p≤n→szP p<4294967296→0≤m→m≤24→Ok (CO n p m) fun r=>r≤25∧(m+ndP p≤24→r=m+ndP p)∧(24<m+ndP p→24<r)
 |0,⟨_,_,_,_,_⟩,_,h,_,_,_=>by simp[szP] at h
 |n+1,⟨op,c,l,r,args⟩,m,h,hb,h0,h1=>by
  simp only[szP] at h hb;have hlen:=nX args;have loop:∀(xs:List ag) (i k:Nat) (m:Int),args.drop i=xs→xs.length<k→0≤m→m≤25→
    Ok (rD (CO n) (fun r=>some r) k m (i:Int) ⟨op,c,l,r,args⟩) fun r=>r≤25∧(m+ndL xs≤24→r=m+ndL xs)∧(24<m+ndL xs→24<r):=by
   intro xs;induction xs with
   |nil=>
    intro i k m hd hk m0 m1;have:args.length≤i:=by simpa using hd
    have hq:¬((i:Int)<(args.length:Int)):=by omega
    cases k with
    |zero=>simp at hk
    |succ k=>
     simp only[rD,A6,hq,decide_false,Bool.false_eq_true,if_false];exact Ok.pure ⟨m1,fun _=>by simp[ndL],fun h=>by simp[ndL] at h;exact h⟩
   |cons x xs ih=>
    intro i k m hd hk m0 m1;obtain ⟨g1,g2,g3⟩:=aP hd;have hq:((i:Int)<(args.length:Int)):=by omega
    cases k with
    |zero=>simp at hk
    |succ k=>
     simp only[rD,A6,hq,decide_true,if_true];have hx:x∈args:=List.mem_of_getElem? g1;have hs:=lM hx;have hnd:=MA x;refine Ok.ite (fun hm=> ?_) fun hm=> ?_
     ·simp at hm;rw[aW,g1,Option.bind_some];refine Ok.bind (MY n x m (by omega) (by omega) m0 hm) fun r ⟨r1,r2,r3⟩=> ?_
      rw[bB g3 (by omega)]
      have hr0:0≤r:=by
       by_cases hz:m+ndP x≤24
       ·have:=r2 hz;omega
       ·have:=r3 (by omega);omega
      refine (ih (i+1) k r g2 (by simp at hk;omega) hr0 r1).mono fun r' ⟨q1,q2,q3⟩=>⟨q1,fun hle=> ?_,fun hlt=> ?_⟩
      ·simp only[ndL] at hle ⊢;have e:=r2 (by omega)
       have:=q2 (by omega)
       omega
      ·simp only[ndL] at hlt;by_cases hz:m+ndP x≤24
       ·have e:=r2 hz;exact q3 (by omega)
       ·have e:=r3 (by omega)
        exact q3 (by omega)
     ·simp at hm;exact Ok.pure ⟨m1,fun hle=>by simp only[ndL] at hle;omega,fun _=>hm⟩
  unfold CO KG;rw[bZ (by omega) (by omega)]
  refine (loop args 0 n (m+1) rfl (by omega) (by omega) (by omega)).mono fun r' ⟨q1,q2,q3⟩=>⟨q1,fun hle=> ?_,fun hlt=> ?_⟩
  ·simp only[ndP] at hle ⊢;have:=q2 (by omega)
   omega
  ·simp only[ndP] at hlt;exact q3 (by omega)
theorem MX:∀(n:Nat) (p:ag) (m:Nat),szP p≤n→szP p<4294967296→m≤1000→ve n p (m:Int)=some (decide (m<dpP p))
 |0,⟨_,_,_,_,_⟩,_,h,_,_=>by simp[szP] at h
 |n+1,⟨op,c,l,r,args⟩,0,h,hb,hm=>by
  have:0<dpP ⟨op,c,l,r,args⟩:=by simp only[dpP];omega
  simp[ve,A4,this]
 |n+1,⟨op,c,l,r,args⟩,m+1,h,hb,hm=>by
  simp only[szP] at h hb;have hlen:=nX args;have loop:∀(xs:List ag) (i k:Nat),args.drop i=xs→xs.length<k→
    rC (ve n) (some false) k ((m+1:Nat):Int) (args.length:Int) (i:Int) ⟨op,c,l,r,args⟩=some (decide (m<dpL xs)):=by
   intro xs;induction xs with
   |nil=>
    intro i k hd hk;have:args.length≤i:=by simpa using hd
    have hq:¬((i:Int)<(args.length:Int)):=by omega
    cases k with
    |zero=>simp at hk
    |succ k=>simp[rC,A5,hq,dpL]
   |cons x xs ih=>
    intro i k hd hk;obtain ⟨g1,g2,g3⟩:=aP hd;have hq:((i:Int)<(args.length:Int)):=by omega
    cases k with
    |zero=>simp at hk
    |succ k=>
     have hx:x∈args:=List.mem_of_getElem? g1;have hs:=lM hx;have hw:w64 (((m+1:Nat):Int)-1)=(m:Int):=by rw[bZ (by omega) (by omega)];omega
     simp only[rC,A5,hq,decide_true,if_true,aW,g1,Option.bind_some,hw,MX n x m (by omega) (by omega) (by omega),bB g3 (by omega:args.length<4294967296),
      ih (i+1) k g2 (by simp at hk;omega)]
     by_cases hd1:m<dpP x
     ·have:m<dpL (x::xs):=by simp only[dpL];omega
      simp[hd1,this]
     ·have:(m<dpL (x::xs))↔m<dpL xs:=by simp only[dpL];omega
      simp[hd1,this]
  have hne:¬(((m+1:Nat):Int)=0):=by omega
  have hl:=loop args 0 n rfl (by omega)
  have e:(m+1<dpP ⟨op,c,l,r,args⟩)↔m<dpL args:=by simp only[dpP];omega
  simp only[ve,A4,beq_iff_eq,hne,if_false,KF];rw[show ((0:Int))=((0:Nat):Int) from rfl,hl];simp[e]
theorem MT:∀(n:Nat) (p:ag) (v b:Int),szP p≤n→szP p<4294967296→1≤v→v≤9→0≤b→b≤24→
  Ok (CN n p v b) fun r=>(r.1=true↔((ndP p:Int)≤b∧v+dpP p≤9))∧(r.1=true→r.2=b-ndP p)
 |0,⟨_,_,_,_,_⟩,_,_,h,_,_,_,_,_=>by simp[szP] at h
 |n+1,⟨op,c,l,r,args⟩,v,b,h,hb,v1,v2,b1,b2=>by
  simp only[szP] at h hb;have hlen:=nX args;have loop:∀(xs:List ag) (i k:Nat) (b:Int),args.drop i=xs→xs.length<k→v≤8→0≤b→b≤24→
    Ok (ry (CN n) (fun b=>some (true,b)) k v args (args.length:Int) (i:Int) b) fun r=>(r.1=true↔((ndL xs:Int)≤b∧v+dpL xs≤8))∧(r.1=true→r.2=b-ndL xs):=by
   intro xs;induction xs with
   |nil=>
    intro i k b hd hk hv b1 b2;have:args.length≤i:=by simpa using hd
    have hq:¬((i:Int)<(args.length:Int)):=by omega
    cases k with
    |zero=>simp at hk
    |succ k=>
     simp only[ry,AX,hq,decide_false,Bool.false_eq_true,if_false];exact Ok.pure ⟨by simp[ndL,dpL];omega,by simp[ndL]⟩
   |cons x xs ih=>
    intro i k b hd hk hv b1 b2;obtain ⟨g1,g2,g3⟩:=aP hd;have hq:((i:Int)<(args.length:Int)):=by omega
    cases k with
    |zero=>simp at hk
    |succ k=>
     have hx:x∈args:=List.mem_of_getElem? g1;have hs:=lM hx;simp only[ry,AX,hq,decide_true,if_true,aW,g1,Option.bind_some];rw[bZ (x:=v+1) (by omega) (by omega)]
     refine Ok.bind (MT n x (v+1) b (by omega) (by omega) (by omega) (by omega) b1 b2) fun r ⟨r1,r2⟩=> ?_
     refine Ok.ite (fun hr=> ?_) fun hr=> ?_
     ·simp at hr;refine Ok.pure ⟨⟨fun h=>by simp at h,fun ⟨h1,h2⟩=> ?_⟩,fun h=>by simp at h⟩
      simp only[ndL,dpL] at h1 h2;have:=r1.2 ⟨by omega,by omega⟩
      rw[hr] at this;exact absurd this (by simp)
     ·simp at hr;have e:=r2 hr;have q:=r1.1 hr;rw[bB g3 (by omega)]
      have hnd:=MA x;refine (ih (i+1) k r.2 g2 (by simp at hk;omega) hv (by omega) (by omega)).mono fun r' ⟨q1,q2⟩=>⟨⟨fun h=> ?_,fun ⟨h1,h2⟩=> ?_⟩,fun h=> ?_⟩
      ·have:=q1.1 h;simp only[ndL,dpL];omega
      ·simp only[ndL,dpL] at h1 h2;exact q1.2 ⟨by omega,by omega⟩
      ·have:=q2 h;simp only[ndL];omega
  unfold CN Kv;rw[bZ (by omega) (by omega)]
  simp only[ndP,dpP];refine Ok.ite (fun hb0=> ?_) fun hb0=> ?_
  ·simp at hb0;refine Ok.pure ⟨⟨fun h=>by simp at h,fun h=> ?_⟩,fun h=>by simp at h⟩
   omega
  ·simp at hb0;refine Ok.ite (fun hv=> ?_) fun hv=> ?_
   ·simp at hv;refine Ok.pure ⟨⟨fun h=>by simp at h,fun h=> ?_⟩,fun h=>by simp at h⟩
    omega
   ·simp at hv;refine (loop args 0 n (b-1) rfl (by omega) hv (by omega) (by omega)).mono fun r' ⟨q1,q2⟩=>⟨⟨fun h=> ?_,fun ⟨h1,h2⟩=> ?_⟩,fun h=> ?_⟩
    ·have:=q1.1 h;omega
    ·exact q1.2 ⟨by omega,by omega⟩
    ·have:=q2 h;omega
def pC (v:aa):Bool:=v.ar==0&&(v.bL==0&&(decide (v.bj=ByteArray.empty)&&true))
def r9 (o:aw):Bool:=o.ar==0&&(o.bH==0&&(pC o.aM&&true))
def kAt (l:List Int) (o:aw):Int:=if 0≤o.bH∧o.bH<l.length∧pC o.aM=true then (l[o.bH.toNat]?).getD 0 else 0
def eE (aC params:List Int) (o:aw):Int:=
 if o.ar==3 then (if o.bH==0&&gF o.aM then o.aM.ar else 0) else if o.ar==2 then kAt params o else if o.ar==1 then kAt aC o else 0
theorem vi (n:Nat) (l:List Int) (o:aw):vj n l o=some (kAt l o):=by
 unfold vj kAt;by_cases h1:o.bH<0
 ·have:¬0≤o.bH:=by omega
  simp[h1,this]
 ·by_cases h2:(l.length:Int)≤o.bH
  ·have:¬o.bH<l.length:=by omega
   simp[h1,h2,this]
  ·have e1:0≤o.bH:=by omega
   have e2:o.bH<l.length:=by omega
   have e3:o.bH.toNat<l.length:=by omega
   have hid:idx l o.bH=some (l[o.bH.toNat]):=by simp[idx,e1,e3]
   cases h3:pC o.aM with
   |false=>
    simp only[pC] at h3;simp only[h1,h2,decide_false,Bool.false_eq_true,if_false,ge_iff_le,h3,Bool.not_false,if_true,and_false,e2,decide_true,Bool.not_true]
   |true=>
    simp only[pC] at h3;simp only[h1,h2,decide_false,Bool.false_eq_true,if_false,ge_iff_le,h3,Bool.not_true,hid,Option.bind_some,e1,e2,and_self,if_true,decide_true,Bool.not_true];simp[e3]
theorem aaR (n:Nat) (aC params:List Int) (o:aw):J3 n aC params o=some (eE aC params o):=by
 unfold J3 Km eE;rw[vi,vi,aaP];simp only[Option.bind_some];by_cases h3:o.ar=3
 ·by_cases hi:o.bH=0<;>cases gF o.aM<;>simp[h3,hi]
 ·by_cases h2:o.ar=2
  ·simp[h2]
  ·by_cases h1:o.ar=1<;>simp[h1,h2,h3]
theorem aaQ (n:Nat) (k:cH) (o:aw):J2 n k o=some (eE k.eI k.fB o):=by
 have h0:∀l,AO n l o=some (kAt l o):=fun l=>by rw[←vi n l o];rfl
 unfold J2 Kl eE;rw[h0,h0,U1];simp only[Option.bind_some];by_cases h3:o.ar=3
 ·by_cases hi:o.bH=0<;>cases gF o.aM<;>simp[h3,hi]
 ·by_cases h2:o.ar=2
  ·simp[h2]
  ·by_cases h1:o.ar=1<;>simp[h1,h2,h3]
def eR (c:Int) (l r:aw):Bool:=c==0&&r9 l&&r9 r
mutual
def pV (aC params:List Int):ag→Bool
 |⟨op,c,l,r,args⟩=>
  if op==1||op==2 then eR c l r&&args.length==0
  else if op==3 then args.length==0&&decide (1≤c)&&decide (c≤6)&&eE aC params l !=0&&eE aC params l==eE aC params r
  else if op==4||op==5 then eR c l r&&pVs aC params args
  else if op==6 then args.length==1&&(eR c l r&&pVs aC params args)
  else false
def pVs (aC params:List Int):List ag→Bool
 | []=>true
 |x::xs=>pV aC params x&&pVs aC params xs
end
theorem MQ (n:Nat) (p:ag):CL n p=some (eR p.ga p.bw p.bf):=by
 unfold CL Kn eR r9 pC;by_cases h:p.ga=0
 ·simp only[h,beq_self_eq_true,if_true,Bool.true_and];split
  ·rename_i h1;simp only[h1,Bool.true_and]
  ·rename_i h1;rw[Bool.not_eq_true] at h1;simp only[h1,Bool.false_and]
 ·simp[h]
theorem MW (aC params:List Int):∀(n:Nat) (p:ag),szP p≤n→szP p<4294967296→vd n aC params p=some (pV aC params p)
 |0,⟨_,_,_,_,_⟩,h,_=>by simp[szP] at h
 |n+1,⟨op,c,l,r,args⟩,h,hb=>by
  simp only[szP] at h hb;have hlen:=nX args;have loop:∀(xs:List ag) (i k:Nat),args.drop i=xs→xs.length<k→
    pb (vd n) (some true) k aC params (args.length:Int) (i:Int) ⟨op,c,l,r,args⟩=some (pVs aC params xs):=by
   intro xs;induction xs with
   |nil=>
    intro i k hd hk;have:args.length≤i:=by simpa using hd
    have hq:¬((i:Int)<(args.length:Int)):=by omega
    cases k with
    |zero=>simp at hk
    |succ k=>simp[pb,A2,hq,pVs]
   |cons x xs ih=>
    intro i k hd hk;obtain ⟨g1,g2,g3⟩:=aP hd;have hq:((i:Int)<(args.length:Int)):=by omega
    cases k with
    |zero=>simp at hk
    |succ k=>
     have hx:x∈args:=List.mem_of_getElem? g1;have hs:=lM hx;simp only[pb,A2,hq,decide_true,if_true,aW,g1,Option.bind_some,MW aC params n x (by omega) (by omega),bB g3 (by omega:args.length<4294967296),
      ih (i+1) k g2 (by simp at hk;omega),pVs]
     cases pV aC params x<;>simp
  have hl:=loop args 0 n rfl (by omega)
  have hl:pb (vd n) (some true) n aC params (args.length:Int) 0 ⟨op,c,l,r,args⟩=some (pVs aC params args):=hl;have hB:rL (vd n) n aC params ⟨op,c,l,r,args⟩=some (eR c l r&&pVs aC params args):=by
   unfold rL KD;rw[MQ,Option.bind_some,hl];cases eR c l r<;>simp
  unfold vd KC;simp only[MQ,aaR,Option.bind_some,hB];unfold pV;have hz:((args.length:Int)==0)=(args.length==0):=by
   rw[Bool.eq_iff_iff];simp
  have ho:((args.length:Int) !=1)= !(args.length==1):=by
   rw[Bool.eq_iff_iff];simp;omega
  simp only[hz,ho];by_cases h1:op=1
  ·cases hp:eR c l r<;>simp[h1]
  ·by_cases h2:op=2
   ·cases hp:eR c l r<;>simp[h2]
   ·by_cases h3:op=3
    ·cases ha:(args.length==0) with
     |false=>simp[h3]
     |true=>
      by_cases c1:1≤c
      ·by_cases c2:c≤6
       ·by_cases c3:eE aC params l=0<;>simp[h3,c1,c2,c3]
       ·simp[h3,c1,c2]
      ·simp[h3,c1]
    ·by_cases h4:op=4
     ·simp[h4]
     ·by_cases h5:op=5
      ·simp[h5]
      ·by_cases h6:op=6
       ·cases ha:(args.length==1)<;>simp[h6]
       ·simp[h1,h2,h3,h4,h5,h6]
theorem CM (k:cH):∀(n:Nat) (p:ag),szP p≤n→szP p<4294967296→kL n k p=some (pV k.eI k.fB p)
 |0,⟨_,_,_,_,_⟩,h,_=>by simp[szP] at h
 |n+1,⟨op,c,l,r,args⟩,h,hb=>by
  simp only[szP] at h hb;have hlen:=nX args;have adW:∀(xs:List ag) (i m:Nat),args.drop i=xs→xs.length<m→
    mU (kL n) (some true) m args (args.length:Int) (i:Int) k=some (pVs k.eI k.fB xs):=by
   intro xs;induction xs with
   |nil=>
    intro i m hd hk;have:args.length≤i:=by simpa using hd
    have hq:¬((i:Int)<(args.length:Int)):=by omega
    cases m with
    |zero=>simp at hk
    |succ m=>simp[mU,AW,hq,pVs]
   |cons x xs ih=>
    intro i m hd hk;obtain ⟨g1,g2,g3⟩:=aP hd;have hq:((i:Int)<(args.length:Int)):=by omega
    cases m with
    |zero=>simp at hk
    |succ m=>
     have hx:x∈args:=List.mem_of_getElem? g1;have hs:=lM hx;simp only[mU,AW,hq,decide_true,if_true,aW,g1,Option.bind_some,CM k n x (by omega) (by omega),bB g3 (by omega:args.length<4294967296),
      ih (i+1) m g2 (by simp at hk;omega),pVs]
     cases pV k.eI k.fB x<;>simp
  have adV:∀(xs:List ag) (i m:Nat),args.drop i=xs→xs.length<m→
    mT (kL n) (some true) m args (args.length:Int) (i:Int) k=some (pVs k.eI k.fB xs):=by
   intro xs;induction xs with
   |nil=>
    intro i m hd hk;have:args.length≤i:=by simpa using hd
    have hq:¬((i:Int)<(args.length:Int)):=by omega
    cases m with
    |zero=>simp at hk
    |succ m=>simp[mT,AT,hq,pVs]
   |cons x xs ih=>
    intro i m hd hk;obtain ⟨g1,g2,g3⟩:=aP hd;have hq:((i:Int)<(args.length:Int)):=by omega
    cases m with
    |zero=>simp at hk
    |succ m=>
     have hx:x∈args:=List.mem_of_getElem? g1;have hs:=lM hx;simp only[mT,AT,hq,decide_true,if_true,aW,g1,Option.bind_some,CM k n x (by omega) (by omega),bB g3 (by omega:args.length<4294967296),
      ih (i+1) m g2 (by simp at hk;omega),pVs]
     cases pV k.eI k.fB x<;>simp
  have hl0:mU (kL n) (some true) n args (args.length:Int) 0 k=some (pVs k.eI k.fB args):=adW args 0 n rfl (by omega)
  have hl3:mT (kL n) (some true) n args (args.length:Int) 0 k=some (pVs k.eI k.fB args):=adV args 0 n rfl (by omega)
  have Ui:∀X:Option Bool,(if c !=0 then some false else if !(r9 l) then some false else if !(r9 r) then some false else X)=if eR c l r then X else some false:=by
   intro X;unfold eR;by_cases hc:c=0
   ·cases r9 l<;>cases r9 r<;>simp[hc]
   ·simp[hc]
  have hB5:rK (kL n) n k ⟨op,c,l,r,args⟩=some (eR c l r&&pVs k.eI k.fB args):=by
   have:=Ui (mT (kL n) (AS (kL n) n) n args (args.length:Int) 0 k);unfold rK;refine Eq.trans this ?_;unfold AS;rw[hl3];cases eR c l r<;>simp
  have hB2:∀b,vk (kL n) n b k ⟨op,c,l,r,args⟩=some (!b&&(eR c l r&&pVs k.eI k.fB args)):=by
   intro b;have:=Ui (mU (kL n) (AU (kL n) n) n args (args.length:Int) 0 k);unfold vk;cases b with
   |true=>simp
   |false=>
    simp only[Bool.false_eq_true,if_false,Bool.not_false,Bool.true_and];refine Eq.trans this ?_;unfold AU;rw[hl0];cases eR c l r<;>simp
  unfold kL Ku;simp only[aaQ,Option.bind_some,hB5,hB2];unfold pV;have hz:((args.length:Int)==0)=(args.length==0):=by
   rw[Bool.eq_iff_iff];simp
  have hz':((args.length:Int) !=0)= !(args.length==0):=by
   rw[Bool.eq_iff_iff];simp
  have ho:((args.length:Int) !=1)= !(args.length==1):=by
   rw[Bool.eq_iff_iff];simp;omega
  simp only[hz,hz',ho];have he:(args.length==0)=true→pVs k.eI k.fB args=true:=by
   intro h;have:args= []:=by simpa using h
   simp[this,pVs]
  by_cases h3:op=3
  ·cases ha:(args.length==0) with
   |false=>simp[h3]
   |true=>
    by_cases c1:1≤c
    ·by_cases c2:c≤6
     ·by_cases c3:eE k.eI k.fB l=0<;>simp[h3,c1,c2,c3]
     ·simp[h3,c1,c2]
    ·simp[h3,c1]
  ·by_cases h1:op=1
   ·cases ha:(args.length==0) with
    |false=>simp[h1]
    |true=>simp[h1,he ha]
   ·by_cases h2:op=2
    ·cases ha:(args.length==0) with
     |false=>simp[h2]
     |true=>simp[h2,he ha]
    ·by_cases h6:op=6
     ·cases ha:(args.length==1)<;>simp[h6]
     ·by_cases h4:op=4
      ·simp[h4]
      ·by_cases h5:op=5
       ·simp[h5]
       ·simp[h1,h2,h3,h4,h5,h6]
def kB (aC params:List Int) (p:ag):Int:=
 if !dL aC then 1 else if !dL params then 1 else if decide (24<ndP p)||decide (8<dpP p) then 2 else if !pV aC params p then 50 else 0
theorem U2 (n:Nat) (aC params:List Int) (p:ag) (h1:aC.length<n) (h2:params.length<n) (h3:szP p≤n) (h4:n<4294967296):F73 n aC params p=some (kB aC params p):=by
 obtain ⟨r,e,r1,r2,r3⟩:=MY n p 0 h3 (by omega) (by omega) (by omega)
 have hd:=MX n p 8 h3 (by omega) (by omega)
 have hd:ve n p 8=some (decide (8<dpP p)):=hd;unfold F73 Qi kB;simp only[MZ n aC (by omega) h1,MZ n params (by omega) h2,e,hd,MW aC params n p h3 (by omega),Option.bind_some]
 cases dL aC<;>cases dL params<;>simp
 by_cases hn:24<ndP p
 ·have:=r3 (by omega)
  simp[hn,this]
 ·have:=r2 (by omega)
  have h24:¬24<r:=by omega
  by_cases h8:8<dpP p<;>cases pV aC params p<;>simp[hn,h24,h8]
theorem adn (n:Nat) (aC params:List Int) (p:ag) (h1:aC.length<n) (h2:params.length<n) (h3:szP p≤n) (h4:n<4294967296):F79 n aC params p=some (kB aC params p):=by
 obtain ⟨r,e,r1,r2⟩:=MT n p 1 24 h3 (by omega) (by omega) (by omega) (by omega) (by omega)
 unfold F79 Qe kB;simp only[MU n aC (by omega) h1,MU n params (by omega) h2,e,CM ⟨aC,params⟩ n p h3 (by omega),Option.bind_some]
 cases dL aC<;>cases dL params<;>simp
 cases hr:r.1 with
 |true=>
  have:=r1.1 hr;have e1:¬24<ndP p:=by omega
  have e2:¬8<dpP p:=by omega
  cases pV aC params p<;>simp[e1,e2]
 |false=>
  have:¬((ndP p:Int)≤24∧(1:Int)+dpP p≤9):=fun h=>by rw[r1.2 h] at hr;simp at hr
  have e1:24<ndP p∨8<dpP p:=by omega
  rcases e1 with h|h<;>simp[h]
end Go.Proofs.YtmealahmjddpcaaGreatDoor
end
noncomputable section
namespace Go.Proofs.YtmealahmjddpcaaGreatDoor
open Go.Sim
theorem pP {k:Int} (h:kOK k=true):3≤k∧k≤5:=by simp[kOK] at h;omega
theorem l7 {l:List Int} {i:Nat} {x:Int} (h:dL l=true) (hx:l[i]? =some x):kOK x=true:=by
 simp only[dL,List.all_eq_true] at h;exact h x (List.mem_of_getElem? hx)
def VE (aC params:List Int) (k:Int) (l:List aw):Prop:=∀o∈l,eE aC params o=k
theorem TB {aC params:List Int} {i:Nat} {k:Int} (h:aC[i]? =some k):eE aC params ⟨1,(i:Int),⟨0,0,ByteArray.empty⟩⟩=k:=by
 have hi:i<aC.length:=(List.getElem?_eq_some_iff.1 h).1;have:(i:Int)<(aC.length:Int):=by omega
 simp[eE,kAt,pC,this,h]
theorem TA {aC params:List Int} {i:Nat} {k:Int} (h:params[i]? =some k):eE aC params ⟨2,(i:Int),⟨0,0,ByteArray.empty⟩⟩=k:=by
 have hi:i<params.length:=(List.getElem?_eq_some_iff.1 h).1;have:(i:Int)<(params.length:Int):=by omega
 simp[eE,kAt,pC,this,h]
theorem Vc (n:Nat) (hn:300≤n) (aC params:List Int) (k:Int) (hk:kOK k=true) (l:List aw) (c:ai) (hc:aY c) (hl:l.length≤300) (ho:VE aC params k l) (z:aw):
  Ok (vm n k c z l) fun r=>aY r.2∧eE aC params r.1=k:=by
 have hkr:=pP hk;unfold vm;rw[bZ (by omega) (by omega)]
 refine Ok.bind (de n c ((l.length:Int)+1) hc) fun r ⟨hr,r0,r1,_⟩=> ?_
 have r1:=r1 (by omega)
 refine Ok.ite (fun h=> ?_) fun h=> ?_
 ·simp at h;have hlt:r.1.toNat<l.length:=by omega
  have:bnd l.length r.1=some r.1.toNat:=by simp[bnd,r0,hlt]
  rw[this,Option.bind_some,Nat.zero_add,List.getElem?_eq_getElem hlt,Option.bind_some];exact Ok.pure ⟨hr,ho _ (List.getElem_mem _)⟩
 ·refine Ok.bind (Aw n (by omega) r.2 k hr hkr.1 hkr.2) fun x ⟨hx,kx,rx⟩=>Ok.pure ⟨hx,?_⟩
  simp[eE,rx,kx]
theorem u6 (n:Nat) (hn:300≤n) (aC params:List Int) (k:Int) (hk:kOK k=true) (hp:params.length≤100) (z:aw):∀(xs:List Int) (i m:Nat) (l:List aw) (c:ai),params.drop i=xs→xs.length<m→aY c→l.length+xs.length≤300→VE aC params k l→
  Ok (rF (vm n) m k params (params.length:Int) (i:Int) c z l) fun r=>aY r.2∧eE aC params r.1=k
 | [],i,m+1,l,c,hd,hm,hc,hl,ho=>by
  have:params.length≤i:=by simpa using hd
  have hq:¬((i:Int)<(params.length:Int)):=by omega
  simp only[rF,Bb,hq,decide_false,Bool.false_eq_true,if_false];exact Vc n hn aC params k hk l c hc (by simp at hl;omega) ho z
 |x::xs,i,m+1,l,c,hd,hm,hc,hl,ho=>by
  obtain ⟨g1,g2,g3⟩:=aP hd;have hq:((i:Int)<(params.length:Int)):=by omega
  simp only[rF,Bb,hq,decide_true,if_true,aW,g1,Option.bind_some];simp at hm hl;refine Ok.ite (fun h=> ?_) fun h=> ?_
  ·simp at h;subst h;rw[cR _ _ (by simp;omega),Option.bind_some,bB g3 (by omega)]
   refine u6 n hn aC params x hk hp z xs (i+1) m _ c g2 (by omega) hc (by simp;omega) fun o hx=> ?_
   rcases List.mem_append.1 hx with hx|hx
   ·exact ho o hx
   ·simp at hx;subst hx;exact TA g1
  ·rw[bB g3 (by omega)]
   exact u6 n hn aC params k hk hp z xs (i+1) m l c g2 (by omega) hc (by omega) ho
 |_,_,0,_,_,_,hm,_,_,_=>by simp at hm
theorem u7 (n:Nat) (hn:300≤n) (aC params:List Int) (k:Int) (hk:kOK k=true) (hp:params.length≤100) (hcl:aC.length≤100) (z:aw):∀(xs:List Int) (i m:Nat) (l:List aw) (c:ai),aC.drop i=xs→xs.length<m→aY c→l.length+xs.length≤100→VE aC params k l→
  Ok (rG (Ba n) m params k aC (aC.length:Int) (i:Int) c z l) fun r=>aY r.2∧eE aC params r.1=k
 | [],i,m+1,l,c,hd,hm,hc,hl,ho=>by
  have:aC.length≤i:=by simpa using hd
  have hq:¬((i:Int)<(aC.length:Int)):=by omega
  simp only[rG,Bc,hq,decide_false,Bool.false_eq_true,if_false,Ba];exact u6 n hn aC params k hk hp z params 0 n l c rfl (by omega) hc (by simp at hl;omega) ho
 |x::xs,i,m+1,l,c,hd,hm,hc,hl,ho=>by
  obtain ⟨g1,g2,g3⟩:=aP hd;have hq:((i:Int)<(aC.length:Int)):=by omega
  simp only[rG,Bc,hq,decide_true,if_true,aW,g1,Option.bind_some];simp at hm hl;refine Ok.ite (fun h=> ?_) fun h=> ?_
  ·simp at h;subst h;rw[cR _ _ (by simp;omega),Option.bind_some,bB g3 (by omega)]
   refine u7 n hn aC params x hk hp hcl z xs (i+1) m _ c g2 (by omega) hc (by simp;omega) fun o hx=> ?_
   rcases List.mem_append.1 hx with hx|hx
   ·exact ho o hx
   ·simp at hx;subst hx;exact TB g1
  ·rw[bB g3 (by omega)]
   exact u7 n hn aC params k hk hp hcl z xs (i+1) m l c g2 (by omega) hc (by omega) ho
 |_,_,0,_,_,_,hm,_,_,_=>by simp at hm
theorem M0 (n:Nat) (hn:300≤n) (c:ai) (aC params:List Int) (k:Int) (hk:kOK k=true) (hc:aY c) (hcl:aC.length≤100) (hp:params.length≤100):Ok (P2 n c aC params k) fun r=>aY r.2∧eE aC params r.1=k:=
 u7 n hn aC params k hk hp hcl _ aC 0 n [] c rfl (by omega) hc (by simp;omega) (fun o h=>by simp at h)
def nB:Nat→Nat
 |0=>1
 |d+1=>1+3*nB d
def sB:Nat→Nat
 |0=>2
 |d+1=>2+3*(1+sB d)
theorem abH (d:Nat):1≤nB d:=by cases d<;>simp[nB]
theorem abq (d:Nat):2≤sB d:=by cases d<;>simp[sB]
structure jB (aC params:List Int) (d:Nat) (r:ag×ai):Prop where
 case:aY r.2
 val:pV aC params r.1=true
 dp:dpP r.1≤d+1
 nd:ndP r.1≤nB d
 sz:szP r.1≤sB d
theorem Ie {aC params:List Int} {d:Nat} {op c:Int} {l r:aw} {x:ai} (hx:aY x) (hv:pV aC params ⟨op,c,l,r,[]⟩=true):jB aC params d (⟨op,c,l,r,[]⟩,x):=
 ⟨hx,hv,by simp[dpP,dpL],by simp[ndP,ndL];exact abH d,by simp[szP,szL];exact abq d⟩
def zo:aw:=⟨0,0,⟨0,0,ByteArray.empty⟩⟩
theorem xA:eR 0 zo zo=true:=by decide
theorem Kf (s:ai→List Int→List Int→Int→Option (ag×ai)) (n:Nat) (aC params:List Int) (d:Nat) (x:ai) (hx:aY x) (c:Int) (l r:aw) (h1:1≤c) (h2:c≤6) (h3:eE aC params l≠0) (h4:eE aC params l=eE aC params r) (z:ag):
  Ok (AI s n x z ⟨3,c,l,r,[]⟩) (jB aC params d):=by
 unfold AI;refine Ok.bind (jE n x 6 hx) fun b hb=> ?_
 refine Ok.ite (fun _=>Ok.pure (Ie hb ?_)) fun _=>Ok.pure (Ie hb ?_)
 ·simp[pV,h1,h2,←h4,h3]
 ·simp[pV,h1,h2,←h4,h3]
theorem Ke (s:ai→List Int→List Int→Int→Option (ag×ai)) (n:Nat) (hn:300≤n) (aC params:List Int) (hcl:aC.length≤100) (hp:params.length≤100) (d:Nat) (k:Int) (hk:kOK k=true) (x:ai) (hx:aY x) (z:ag):
  Ok (AH s n aC params k x z) (jB aC params d):=by
 have hkr:=pP hk;unfold AH;refine Ok.bind (de n x 6 hx) fun r ⟨hr,r0,r1,_⟩=> ?_
 have r1:=r1 (by omega)
 rw[bZ (by omega) (by omega)]
 refine Ok.bind (M0 n hn r.2 aC params k hk hr hcl hp) fun l ⟨hl,kl⟩=> ?_
 refine Ok.bind (Aw n (by omega) l.2 k hl hkr.1 hkr.2) fun v ⟨hv,kv,rv⟩=> ?_
 refine Ok.bind (jE n v.2 3 hv) fun b hb=> ?_
 refine Ok.ite (fun _=> ?_) fun _=> ?_
 ·refine Ok.bind (M0 n hn b.2 aC params k hk hb hcl hp) fun o ⟨ho,ko⟩=> ?_
  exact Kf s n aC params d o.2 ho _ _ _ (by omega) (by omega) (by omega) (by omega) _
 ·refine Kf s n aC params d b.2 hb _ _ _ (by omega) (by omega) (by omega) ?_ _
  simp[eE,rv,kv] at kl ⊢;exact kl
theorem JK (s:ai→List Int→List Int→Int→Option (ag×ai)) (aC params:List Int) (d:Nat) (hd:d≤1000)
  (hs:∀c,aY c→Ok (s c aC params (d:Int)) (jB aC params d)) (n0:Nat):∀(j n:Nat) (op:Int) (args:List ag) (c:ai) (z:ag) (a0:List ag),aY c→j<n→args.length+j≤3→pVs aC params args=true→dpL args≤d+1→ndL args≤args.length*nB d→szL args≤args.length*(1+sB d)→(op=4∨op=5)→
  Ok (wo s (E1 s n0) n aC params ((d+1:Nat):Int) ((j:Int)-1) c z ⟨op,0,zo,zo,a0⟩ args) (jB aC params (d+1))
 |0,n+1,op,args,c,z,a0,hc,_,hj,h1,h2,h3,h4,hop=>by
  have:((0:Nat):Int)-1<0:=by omega
  simp only[wo,E2,E1,this,decide_true,Bool.not_true,Bool.false_eq_true,if_false];have e3:args.length*nB d≤3*nB d:=Nat.mul_le_mul_right _ (by omega)
  have e4:args.length*(1+sB d)≤3*(1+sB d):=Nat.mul_le_mul_right _ (by omega)
  refine Ok.pure ⟨hc,?_,by simp only[dpP];omega,by simp only[ndP,nB];omega,by simp only[szP,sB];omega⟩
  rcases hop with rfl|rfl<;>simp[pV,xA,h1]
 |j+1,n+1,op,args,c,z,a0,hc,hn,hj,h1,h2,h3,h4,hop=>by
  have:¬(((j+1:Nat):Int)-1<0):=by omega
  simp only[wo,E2,this,decide_false,Bool.not_false,if_true];have hw:w64 (((d+1:Nat):Int)-1)=(d:Int):=by rw[bZ (by omega) (by omega)];omega
  have hw2:w64 (((j+1:Nat):Int)-1-1)=(j:Int)-1:=by rw[bZ (by omega) (by omega)];omega
  rw[hw,hw2];refine Ok.bind (hs c hc) fun x hx=> ?_
  rw[cR _ _ (by simp;omega),Option.bind_some]
  have key:∀(l:List ag) (y:ag),pVs aC params (l++ [y])=(pVs aC params l&&pV aC params y)∧dpL (l++ [y])=max (dpL l) (dpP y)∧ndL (l++ [y])=ndL l+ndP y∧szL (l++ [y])=szL l+(1+szP y):=by
   intro l y;induction l with
   |nil=>simp[pVs,dpL,ndL,szL]
   |cons a l ih=>
    obtain ⟨i1,i2,i3,i4⟩:=ih;simp only[List.cons_append,pVs,dpL,ndL,szL,i1,i2,i3,i4];refine ⟨by rw[Bool.and_assoc],by omega,by omega,by omega⟩
  obtain ⟨k1,k2,k3,k4⟩:=key args x.1;refine JK s aC params d hd hs n0 j n op _ x.2 _ _ hx.case (by omega) (by simp;omega) (by rw[k1,h1,hx.val];rfl) (by rw[k2];have:=hx.dp;omega) ?_ ?_ hop
  ·rw[k3,List.length_append];have:=hx.nd;simp only[List.length_cons,List.length_nil,Nat.add_mul];omega
  ·rw[k4,List.length_append];have:=hx.sz;simp only[List.length_cons,List.length_nil,Nat.add_mul];omega
 |_,0,_,_,_,_,_,_,hn,_,_,_,_,_,_=>by simp at hn
theorem jB.up {aC params:List Int} {r:ag×ai} {d e:Nat} (h:jB aC params d r) (hd:d≤e):jB aC params e r:=by
 have hn:∀k,nB d≤nB (d+k):=by
  intro k;induction k with
  |zero=>simp
  |succ k ih=>rw[←Nat.add_assoc];simp only[nB];omega
 have hs:∀k,sB d≤sB (d+k):=by
  intro k;induction k with
  |zero=>simp
  |succ k ih=>rw[←Nat.add_assoc];simp only[sB];omega
 have e1:d+(e-d)=e:=by omega
 have a:=hn (e-d);have b:=hs (e-d);rw[e1] at a b;exact ⟨h.case,h.val,by have:=h.dp;omega,by have:=h.nd;omega,by have:=h.sz;omega⟩
theorem J0 (aC params:List Int) (hk:dL aC=true) (hcl:aC.length≤100) (hp:params.length≤100):∀(d n:Nat) (c:ai),aY c→300+d<n→d≤100→Ok (F72 n c aC params (d:Int)) (jB aC params d)
 |d,0,c,hc,hn,_=>by omega
 |d,n+1,c,hc,hn,hd=>by
  have leaf:∀(op:Int) (x:ai) (z:ag),aY x→Ok (nT (F72 n) n aC params (d:Int) op true x z) (jB aC params d):=by
   intro op x z hx;unfold nT;simp only[if_true];refine Ok.ite (fun h=> ?_) fun h=> ?_
   ·simp at h;refine Ok.bind (de n x (aC.length:Int) hx) fun r ⟨hr,r0,r1,_⟩=> ?_
    have r1:=r1 (by omega)
    have hlt:r.1.toNat<aC.length:=by omega
    have hid:idx aC r.1=some (aC[r.1.toNat]):=by simp[idx,r0,hlt]
    rw[hid,Option.bind_some];exact Ke (F72 n) n (by omega) aC params hcl hp d _ (l7 hk (i:=r.1.toNat) (by simp[hlt])) r.2 hr _
   ·exact Ke (F72 n) n (by omega) aC params hcl hp d 4 rfl x hx _
  have inner:∀(op:Int) (x:ai) (z:ag),6≤op→op≤8→aY x→Ok (nT (F72 n) n aC params (d:Int) op (decide ((d:Int)<1)) x z) (jB aC params d):=by
   intro op x z o1 o2 hx;cases d with
   |zero=>simpa using leaf op x z hx
   |succ d=>
    have hnd:¬(((d+1:Nat):Int)<1):=by omega
    have hw:w64 (((d+1:Nat):Int)-1)=(d:Int):=by rw[bZ (by omega) (by omega)];omega
    have ih:=fun c hc=>J0 aC params hk hcl hp d n c hc (by omega) (by omega)
    unfold nT;simp only[hnd,decide_false,Bool.false_eq_true,if_false];refine Ok.ite (fun h6=> ?_) fun h6=> ?_
    ·rw[hw];refine Ok.bind (ih x hx) fun r hr=>Ok.pure ⟨hr.case,?_,?_,?_,?_⟩
     ·have:eR 0 ⟨0,0,⟨0,0,ByteArray.empty⟩⟩ ⟨0,0,⟨0,0,ByteArray.empty⟩⟩=true:=xA;simp[pV,this,pVs,hr.val]
     ·simp only[dpP,dpL];have:=hr.dp;omega
     ·simp only[ndP,ndL,nB];have:=hr.nd;omega
     ·simp only[szP,szL,sB];have:=hr.sz;omega
    ·simp at h6;refine Ok.bind (de n x 3 hx) fun r ⟨hr,r0,r1,_⟩=> ?_
     have r1:=r1 (by omega)
     rw[bZ (x:=4+op) (by omega) (by omega),bZ (by omega) (by omega)]
     have e:r.1=((r.1.toNat+1:Nat):Int)-1:=by omega
     rw[e];exact JK (F72 n) aC params d (by omega) ih n (r.1.toNat+1) n (4+op-7) [] r.2 _ _ hr (by omega) (by simp;omega) rfl (by simp[dpL]) (by simp[ndL]) (by simp[szL]) (by omega)
  unfold F72 Qj;refine Ok.bind (de n c 9 hc) fun r ⟨hr,r0,r1,_⟩=> ?_
  have r1:=r1 (by omega)
  refine Ok.ite (fun h0=> ?_) fun h0=> ?_
  ·simp at h0;refine Ok.bind (jE n r.2 2 hr) fun b hb=> ?_
   refine Ok.ite (fun _=> ?_) fun _=> ?_
   ·refine Ok.bind (de n b.2 2 hb) fun q ⟨hq,q0,q1,_⟩=> ?_
    have q1:=q1 (by omega)
    rw[bZ (by omega) (by omega)]
    refine Ok.pure (Ie hq ?_);have hz:eR 0 ⟨0,0,⟨0,0,ByteArray.empty⟩⟩ ⟨0,0,⟨0,0,ByteArray.empty⟩⟩=true:=xA;have:q.1=0∨q.1=1:=by omega
    rcases this with e|e<;>simp[pV,e,hz]
   ·refine Ok.ite (fun _=>leaf _ _ _ hb) fun h6=> ?_
    simp at h6;omega
  ·refine Ok.ite (fun _=>leaf _ _ _ hr) fun h6=> ?_
   simp at h6;exact inner r.1 r.2 _ h6 (by omega) hr
theorem adA (aC params:List Int) (hk:dL aC=true) (hk':dL params=true) (hcl:aC.length≤100) (hp:params.length≤100) (d n:Nat) (c:ai) (hc:aY c) (hn:1000≤n) (hn':n<4294967296) (hd1:1≤d) (hd:d≤3):
  Ok (F31 n c aC params (d:Int)) fun r=>aY r.2∧kB aC params r.1=0∧szP r.1≤119:=by
 unfold F31 QC;refine Ok.bind (J0 aC params hk hcl hp d n c hc (by omega) (by omega)) fun r hr=> ?_
 have hs:szP r.1≤119:=(hr.up hd).sz;rw[U2 n aC params r.1 (by omega) (by omega) (by omega) hn',Option.bind_some]
 refine Ok.ite (fun h2=> ?_) fun h2=> ?_
 ·refine Ok.bind (J0 aC params hk hcl hp 1 n r.2 hr.case (by omega) (by omega)) fun q hq=>Ok.pure ⟨hq.case,?_,(hq.up (by omega:1≤3)).sz⟩
  have h1:=hq.nd;have h2:=hq.dp;have e1:¬24<ndP q.1:=by simp[nB] at h1;omega
  have e2:¬8<dpP q.1:=by omega
  simp[kB,hk,hk',e1,e2,hq.val]
 ·refine Ok.pure ⟨hr.case,?_,hs⟩;have:kB aC params r.1=2∨kB aC params r.1=0:=by
   unfold kB;cases decide (24<ndP r.1)||decide (8<dpP r.1)<;>simp[hk,hk',hr.val]
  simp at h2;exact this.resolve_left h2
def bA:List Int→List aa→Bool
 | [],[]=>true
 |k::ks,v::vs=>(gF v&&v.ar==k)&&bA ks vs
 |_,_=>false
theorem dK:∀{ks:List Int} {vs:List aa},bA ks vs=true→vs.length=ks.length
 | [],[],_=>rfl
 |k::ks,v::vs,h=>by simp[bA] at h;simp[dK h.2]
 | [],_::_,h=>by simp[bA] at h
 |_::_,[],h=>by simp[bA] at h
theorem tU:∀{ks:List Int} {vs:List aa} {k:Int} {v:aa},bA ks vs=true→v.ar=k→gF v=true→bA (ks++ [k]) (vs++ [v])=true
 | [],[],k,v,_,h1,h2=>by simp[bA,h1,h2]
 |k::ks,v::vs,_,_,h,h1,h2=>by
  simp[bA] at h;simp[bA,h.1,tU h.2 h1 h2]
 | [],_::_,_,_,h,_,_=>by simp[bA] at h
 |_::_,[],_,_,h,_,_=>by simp[bA] at h
theorem UU (ks:List Int) (hk:dL ks=true) (hl:ks.length≤100) (key:Int) (n0:Nat):∀(xs:List Int) (i m:Nat) (out:List aa) (c:ai),ks.drop i=xs→300+xs.length<m→aY c→bA (ks.take i) out=true→
  Ok (tk (AM n0) m key 1 ks (ks.length:Int) (i:Int) c out) fun r=>aY r.2∧bA ks r.1=true
 | [],i,m+1,out,c,hd,hm,hc,ho=>by
  have:ks.length≤i:=by simpa using hd
  have hq:¬((i:Int)<(ks.length:Int)):=by omega
  simp only[tk,Fv,AM,hq,decide_false,Bool.false_eq_true,if_false];exact Ok.pure ⟨hc,by rwa[List.take_of_length_le this] at ho⟩
 |x::xs,i,m+1,out,c,hd,hm,hc,ho=>by
  obtain ⟨g1,g2,g3⟩:=aP hd;have hq:((i:Int)<(ks.length:Int)):=by omega
  have hx:=l7 hk g1;have hkr:=pP hx;have hlen:=dK ho;rw[List.length_take] at hlen;simp only[tk,Fv,hq,decide_true,if_true,aW,g1,Option.bind_some];simp at hm;have cell:Ok (qj (nU (tk (AM n0) m) m) m key 1 x ks (ks.length:Int) (i:Int) false c out) fun r=>aY r.2∧bA ks r.1=true:=by
   unfold qj nU;simp only[Bool.false_eq_true,if_false];refine Ok.bind (Aw m (by omega) c x hc hkr.1 hkr.2) fun r ⟨hr,r1,r2⟩=> ?_
   rw[cR _ _ (by simp;omega),Option.bind_some,bB g3 (by omega)]
   refine UU ks hk hl key n0 xs (i+1) m _ _ g2 (by omega) hr ?_
   rw[List.take_succ,g1];exact tU ho r1 r2
  refine Ok.ite (fun _=> ?_) fun _=>cell
  exact cell
 |_,_,0,_,_,_,hm,_,_=>by simp at hm
theorem U6 (n:Nat) (hn:1000≤n) (c:ai) (ks:List Int) (key:Int) (hk:dL ks=true) (hl:ks.length≤100) (hc:aY c):Ok (F33 n c ks key 1) fun r=>aY r.2∧bA ks r.1=true:=
 UU ks hk hl key n ks 0 n [] c rfl (by omega) hc rfl
end Go.Proofs.YtmealahmjddpcaaGreatDoor
end
noncomputable section
namespace Go.Proofs.YtmealahmjddpcaaGreatDoor
open Go.Sim
theorem MJ (x y:UInt8) (a b:List UInt8):Op.bytesLess (x::a) (y::b)=(decide (x<y)||(x==y&&Op.bytesLess a b)):=by simp[Op.bytesLess]
theorem qa:∀{a b:List UInt8},Op.bytesLess a b=true→Op.bytesLess b a=false
 | [],[],h=>by simp[Op.bytesLess] at h
 | [],_::_,_=>by simp[Op.bytesLess]
 |_::_,[],h=>by simp[Op.bytesLess] at h
 |x::a,y::b,h=>by
  rw[MJ] at h ⊢;by_cases h1:x<y
  ·have h2:¬y<x:=fun h2=>UInt8.lt_irrefl x (UInt8.lt_trans h1 h2)
   have h3:¬y=x:=fun e=>by subst e;exact UInt8.lt_irrefl _ h1
   simp[h2,h3]
  ·by_cases h3:x=y
   ·subst h3;simp[UInt8.lt_irrefl] at h ⊢;exact qa h
   ·simp[h1,h3] at h
theorem p9:∀{a b:List UInt8},Op.bytesLess a b=false→a≠b→Op.bytesLess b a=true
 | [],[],_,h=>absurd rfl h
 | [],_::_,h,_=>by simp[Op.bytesLess] at h
 |_::_,[],_,_=>by simp[Op.bytesLess]
 |x::a,y::b,h,hne=>by
  rw[MJ] at h ⊢;by_cases h1:x<y
  ·simp[h1] at h
  ·by_cases h2:y<x
   ·simp[h2]
   ·have:x=y:=UInt8.le_antisymm (UInt8.not_lt.1 h2) (UInt8.not_lt.1 h1);subst this;simp[UInt8.lt_irrefl] at h ⊢;exact p9 h (fun e=>hne (by rw[e]))
theorem Vf (a b:aa):iC b a= - iC a b:=by
 unfold iC;by_cases h1:a.ar<b.ar
 ·have:¬b.ar<a.ar:=by omega
  simp[h1,this]
 ·by_cases h2:b.ar<a.ar
  ·simp[h1,h2]
  ·by_cases h3:a.bL<b.bL
   ·have:¬b.bL<a.bL:=by omega
    simp[h1,h2,h3,this]
   ·by_cases h4:b.bL<a.bL
    ·simp[h1,h2,h3,h4]
    ·cases h5:Op.bytesLess a.bj.toList b.bj.toList with
     |true=>
      have h6:=qa h5;have h7:¬b.bj=a.bj:=fun e=>by rw[e,gC] at h5;cases h5
      simp[h1,h2,h3,h4,h6,h7]
     |false=>
      by_cases h6:a.bj=b.bj
      ·simp[h1,h2,h3,h4,h6,gC]
      ·have h7:Op.bytesLess b.bj.toList a.bj.toList=true:=p9 h5 (fun e=>h6 (m8 (by rw[ld,ld] at e;exact e)))
       simp[h1,h2,h3,h4,h6,h7]
theorem Nb (a b:aa):iC a b= -1∨iC a b=0∨iC a b=1:=by
 unfold iC;repeat' split
 all_goals simp
def e9:List aa→List aa→Int
 | [],[]=>0
 | [],_::_=> -1
 |_::_,[]=>1
 |a::x,b::y=>if iC a b=0 then e9 x y else iC a b
theorem xz:∀(x y:List aa),e9 y x= - e9 x y
 | [],[]=>rfl
 | [],_::_=>rfl
 |_::_,[]=>rfl
 |a::x,b::y=>by
  have h:=Vf a b;simp only[e9];rw[xz x y,h];by_cases h1:iC a b=0
  ·simp[h1]
  ·have:¬ -iC a b=0:=by omega
   simp[h1,this]
theorem yX:∀(x y:List aa),e9 x y= -1∨e9 x y=0∨e9 x y=1
 | [],[]=>by simp[e9]
 | [],_::_=>by simp[e9]
 |_::_,[]=>by simp[e9]
 |a::x,b::y=>by
  simp only[e9];split
  ·exact yX x y
  ·exact Nb a b
theorem Sl (x:List aa):e9 x x=0:=by have:=xz x x;omega
theorem UX (n0:Nat) (a b:List aa) (ha:a.length<4294967296):∀(x:List aa) (i m:Nat),a.drop i=x→i≤a.length→i≤b.length→x.length<m→wG (AN n0) m a b (i:Int)=some (e9 (a.drop i) (b.drop i))
 | [],i,m+1,hd,h1,h2,hm=>by
  have hl:a.length≤i:=by simpa using hd
  have hq:¬((i:Int)<(a.length:Int)):=by omega
  simp only[wG,Fz,AN,hq,decide_false,Bool.false_eq_true,if_false];rw[hd];cases hb:b.drop i with
  |nil=>
   have:b.length≤i:=by simpa using hb
   have e1:¬(a.length:Int)<b.length:=by omega
   have e2:¬(b.length:Int)<a.length:=by omega
   simp[e1,e2,e9]
  |cons y l=>
   obtain ⟨_,_,g3⟩:=aP hb;have e1:(a.length:Int)<b.length:=by omega
   simp[e1,e9]
 |x::xs,i,m+1,hd,h1,h2,hm=>by
  obtain ⟨g1,g2,g3⟩:=aP hd;have hq:(i:Int)<(a.length:Int):=by omega
  simp only[wG,Fz,hq,decide_true,if_true];cases hb:b.drop i with
  |nil=>
   have hl:b.length≤i:=by simpa using hb
   have e0:¬(i:Int)<b.length:=by omega
   have e1:¬(a.length:Int)<b.length:=by omega
   have e2:(b.length:Int)<a.length:=by omega
   simp[e0,e1,e2,AN,hd,e9]
  |cons y l=>
   obtain ⟨k1,k2,k3⟩:=aP hb;have e0:(i:Int)<b.length:=by omega
   simp only[e0,decide_true,if_true,aW,g1,k1,Option.bind_some,adr];rw[hd,bB g3 ha];simp only[e9];by_cases h:iC x y=0
   ·simp only[h,bne_self_eq_false,Bool.false_eq_true,if_false,if_true];rw[UX n0 a b ha xs (i+1) m g2 (by omega) (by omega) (by simp at hm;omega),g2,k2]
   ·have:(iC x y !=0)=true:=by simpa using h
    simp only[this,h,if_true,if_false]
 |_,_,0,_,_,_,hm=>by simp at hm
theorem Az (n:Nat) (a b:List aa) (ha:a.length<4294967296) (hn:a.length<n):F22 n a b=some (e9 a b):=by
 have:=UX n a b ha a 0 n rfl (by omega) (by omega) hn
 simp only[List.drop_zero] at this;exact this
theorem UK (n0:Nat) (a b:List aa) (ha:a.length<4294967296):∀(x:List aa) (i m:Nat),a.drop i=x→i≤a.length→i≤b.length→x.length<m→s9 (AB n0) m a b a (a.length:Int) (i:Int)=some (e9 (a.drop i) (b.drop i))
 | [],i,m+1,hd,h1,h2,hm=>by
  have hl:a.length≤i:=by simpa using hd
  have hq:¬((i:Int)<(a.length:Int)):=by omega
  simp only[s9,Ey,AB,hq,decide_false,Bool.false_eq_true,if_false];rw[hd];cases hb:b.drop i with
  |nil=>
   have:b.length≤i:=by simpa using hb
   have e1:¬(a.length:Int)<b.length:=by omega
   simp[e1,e9]
  |cons y l=>
   obtain ⟨_,_,g3⟩:=aP hb;have e1:(a.length:Int)<b.length:=by omega
   simp[e1,e9]
 |x::xs,i,m+1,hd,h1,h2,hm=>by
  obtain ⟨g1,g2,g3⟩:=aP hd;have hq:(i:Int)<(a.length:Int):=by omega
  simp only[s9,Ey,hq,decide_true,if_true,aW,g1,Option.bind_some];cases hb:b.drop i with
  |nil=>
   have hl:b.length≤i:=by simpa using hb
   have e0:¬(i:Int)<b.length:=by omega
   simp[e0,hd,e9]
  |cons y l=>
   obtain ⟨k1,k2,k3⟩:=aP hb;have e0:(i:Int)<b.length:=by omega
   simp only[e0,decide_true,Bool.not_true,Bool.false_eq_true,if_false,k1,Option.bind_some,adg];rw[hd,bB g3 ha];simp only[e9];by_cases h:iC x y=0
   ·simp only[h,bne_self_eq_false,Bool.false_eq_true,if_false,if_true];rw[UK n0 a b ha xs (i+1) m g2 (by omega) (by omega) (by simp at hm;omega),g2,k2]
   ·have:(iC x y !=0)=true:=by simpa using h
    simp only[this,h,if_true,if_false]
 |_,_,0,_,_,_,hm=>by simp at hm
theorem U3 (n:Nat) (a b:List aa) (ha:a.length<4294967296) (hn:a.length<n):F52 n a b=some (e9 a b):=by
 have:=UK n a b ha a 0 n rfl (by omega) (by omega) hn
 simp only[List.drop_zero] at this;show (s9 (AB n) n a b a (a.length:Int) 0).bind (fun x=>some x)=_
 rw[show (0:Int)=((0:Nat):Int) from rfl,this];rfl
def gE (t:Int) (a:List aa) (u:Int) (b:List aa):Int:=if t=u then e9 a b else if t<u then -1 else 1
theorem Xk (t:Int) (a:List aa) (u:Int) (b:List aa):gE u b t a= - gE t a u b:=by
 unfold gE;by_cases h:t=u
 ·subst h;simp[xz a b]
 ·have h':¬u=t:=fun e=>h e.symm
  by_cases h2:t<u
  ·have:¬u<t:=by omega
   simp[h,h',h2,this]
  ·have:u<t:=by omega
   simp[h,h',h2,this]
theorem PD (t:Int) (a:List aa) (u:Int) (b:List aa):gE t a u b= -1∨gE t a u b=0∨gE t a u b=1:=by
 unfold gE;split
 ·exact yX a b
 ·split<;>simp
theorem U5 (n:Nat) (t u:Int) (a b:List aa) (ha:a.length<4294967296) (hn:a.length<n):F36 n t a u b=some (gE t a u b):=by
 unfold F36 Qy gE;rw[Az n a b ha hn];by_cases h:t=u
 ·simp[h]
 ·have:(t !=u)=true:=by simpa using h
  by_cases h2:t<u<;>simp[h,h2]
theorem adu (n:Nat) (a b:ak) (ha:a.az.length<4294967296) (hn:a.az.length<n):F42 n a b=some (gE a.aD a.az b.aD b.az):=by
 unfold F42 Qp gE;rw[U3 n a.az b.az ha hn];by_cases h:a.aD=b.aD
 ·simp[h]
 ·by_cases h2:a.aD<b.aD<;>simp[h,h2]
def bl (T:aj):List Int:=T.af.map (·.ar)
theorem uv {α:Type} {xs:List α} {i:Int} {x:α} (h:idx xs i=some x):0≤i∧i.toNat<xs.length∧xs[i.toNat]? =some x:=by
 unfold idx at h;split at h
 ·exact ⟨by assumption,(List.getElem?_eq_some_iff.1 h).1,h⟩
 ·cases h
theorem UW (n0:Nat) (cs:List aL) (hl:cs.length≤1000):∀(x:List aL) (i m:Nat) (out:List Int),cs.drop i=x→x.length<m→out=(cs.take i).map (·.ar)→wF (Fw n0) m cs (cs.length:Int) (i:Int) out=some (cs.map (·.ar))
 | [],i,m+1,out,hd,hm,ho=>by
  have hl:cs.length≤i:=by simpa using hd
  have hq:¬((i:Int)<(cs.length:Int)):=by omega
  simp only[wF,Fy,Fw,hq,decide_false,Bool.false_eq_true,if_false];rw[ho,List.take_of_length_le hl]
 |x::xs,i,m+1,out,hd,hm,ho=>by
  obtain ⟨g1,g2,g3⟩:=aP hd;have hq:(i:Int)<(cs.length:Int):=by omega
  simp only[wF,Fy,hq,decide_true,if_true,aW,g1,Option.bind_some];rw[cR _ _ (by rw[ho];simp;omega),Option.bind_some,bB g3 (by omega)]
  refine UW n0 cs hl xs (i+1) m _ g2 (by simp at hm;omega) ?_
  rw[ho,List.take_succ,g1];simp
 |_,_,0,_,_,hm,_=>by simp at hm
theorem UO (n0:Nat) (cs:List aL) (hl:cs.length≤1000):∀(x:List aL) (i m:Nat) (out:List Int),cs.drop i=x→x.length<m→out=(cs.take i).map (·.ar)→wh (EN n0) m cs (cs.length:Int) (i:Int) out=some (cs.map (·.ar))
 | [],i,m+1,out,hd,hm,ho=>by
  have hl:cs.length≤i:=by simpa using hd
  have hq:¬((i:Int)<(cs.length:Int)):=by omega
  simp only[wh,EO,EN,hq,decide_false,Bool.false_eq_true,if_false];rw[ho,List.take_of_length_le hl]
 |x::xs,i,m+1,out,hd,hm,ho=>by
  obtain ⟨g1,g2,g3⟩:=aP hd;have hq:(i:Int)<(cs.length:Int):=by omega
  simp only[wh,EO,hq,decide_true,if_true,aW,g1,Option.bind_some];rw[cR _ _ (by rw[ho];simp;omega),Option.bind_some,bB g3 (by omega)]
  refine UO n0 cs hl xs (i+1) m _ g2 (by simp at hm;omega) ?_
  rw[ho,List.take_succ,g1];simp
 |_,_,0,_,_,hm,_=>by simp at hm
section
variable {s:J} {t:Int} {T:aj} {n:Nat}
theorem Cg {α:Type} {xs:List α} {i:Int} (h0:0≤i) (h:¬i<(xs.length:Int)):idx xs i=none:=by
 unfold idx;rw[if_pos h0,List.getElem?_eq_none (by omega)]
theorem Av (hT:idx s.ae t=some T):F81 n s t=some true:=by
 obtain ⟨h0,h1,_⟩:=uv hT;have e1:¬t<0:=by omega
 have e2:t<(s.ae.length:Int):=by omega
 simp[F81,Qc,e1,e2]
theorem rH (hT:idx s.ae t=some T) (hl:T.af.length≤1000) (hn:1000<n):F32 n s t=some (bl T):=by
 obtain ⟨h0,h1,_⟩:=uv hT;have e1:¬t<0:=by omega
 have e2:t<(s.ae.length:Int):=by omega
 simp only[F32,QB,e1,e2,decide_false,decide_true,Bool.not_true,Bool.false_eq_true,if_false,hT,Option.bind_some];exact UW n T.af hl T.af 0 n [] rfl (by omega) rfl
theorem JZ (hT:idx s.ae t=some T) (hl:T.af.length≤1000) (hn:1000<n):F78 n s t=some (bl T):=by
 simp only[F78,Qf,Av hT,Option.bind_some,Bool.not_true,Bool.false_eq_true,if_false,hT];have:om (T.af.length:Int) (0:Int)=some (List.replicate T.af.length 0):=by simp[om];omega
 rw[this,Option.bind_some];exact UO n T.af hl T.af 0 n [] rfl (by omega) rfl
structure dk (T:aj):Prop where
 l8:1≤T.az
 bQ:T.az≤(T.af.length:Int)
 aC:T.af.length≤8
 ks:dL (bl T)=true
def kE (T:aj):List Int:=(bl T).take T.az.toNat
theorem cA (T:aj):(bl T).length=T.af.length:=by simp[bl]
theorem adw (hT:idx s.ae t=some T) (ht:dk T) (hn:1000<n):F40 n s t=some (kE T):=by
 have:=ht.aC;have h1:=ht.l8;have h2:=ht.bQ;have hl:=cA T;have e1:¬T.az<0:=by omega
 have e2:¬((bl T).length:Int)<T.az:=by omega
 simp only[F40,Qr,JZ hT (by omega) hn,Av hT,Option.bind_some,Bool.not_true,Bool.false_eq_true,if_false,hT,e1,e2,decide_false]
 have:gO (bl T).length T.az=some T.az.toNat:=by unfold gO;rw[if_pos (by omega)]
 rw[this,Option.bind_some];rfl
theorem Jb {α:Type} {xs:List α} {k:Int} (h0:0≤k) (h:k.toNat≤xs.length):cut xs none (some k)=some (xs.take k.toNat):=by
 obtain ⟨m,rfl⟩:∃m:Nat,k=m:=⟨k.toNat,by omega⟩
 simp at h;simp[cut,h]
theorem aaU (hT:idx s.ae t=some T) (ht:dk T) (hn:1000<n):PY n s t=some (kE T):=by
 have:=ht.aC;have h1:=ht.l8;have h2:=ht.bQ;have hl:=cA T;have e0:(bl T).isEmpty=false:=by
  cases h:bl T with
  |nil=>rw[h] at hl;simp at hl;omega
  |cons=>rfl
 have e2:¬((bl T).length:Int)<T.az:=by omega
 have e3:0<T.az:=by omega
 simp only[PY,Kr,rH hT (by omega) hn,Option.bind_some,e0,Bool.false_eq_true,if_false,hT,e2,e3,if_true]
 rw[Jb (by omega) (by omega),Option.bind_some]
 rfl
theorem Ay (r:List aa) (h:r.length≤1000000):F54 n r=some r:=by
 simp only[F54,Qm];rw[cR _ _ (by simpa using h)]
 rfl
theorem vb (hT:idx s.ae t=some T) (ht:dk T) (r:List aa) (hr:r.length=T.af.length):F34 n s t r=some (r.take T.az.toNat):=by
 obtain ⟨h0,h1,_⟩:=uv hT;have:=ht.aC;have k1:=ht.l8;have k2:=ht.bQ;have e1:¬t<0:=by omega
 have e2:t<(s.ae.length:Int):=by omega
 have e3:¬(r.length:Int)<T.az:=by omega
 have e4:0<T.az:=by omega
 simp only[F34,QA,e1,e2,decide_false,decide_true,Bool.not_true,Bool.false_eq_true,if_false,hT,Option.bind_some,e3,e4,if_true];rw[Jb (by omega) (by omega),Option.bind_some,Ay _ (by simp;omega)]
 rfl
theorem adm (hT:idx s.ae t=some T) (ht:dk T) (r:List aa) (hr:r.length=T.af.length):F82 n s t r=some (r.take T.az.toNat):=by
 have:=ht.aC;have k1:=ht.l8;have k2:=ht.bQ;have e3:¬(r.length:Int)<T.az:=by omega
 have e4:¬T.az<0:=by omega
 simp only[F82,Qb,Av hT,Option.bind_some,Bool.not_true,Bool.false_eq_true,if_false,hT,e3,e4,decide_false];rw[Jb (by omega) (by omega),Option.bind_some,cR _ _ (by simp;omega),Option.bind_some]
 rfl
end
theorem UT (n0:Nat) (ks:List Int) (r:List aa) (hr:r.length=ks.length) (hl:r.length<4294967296):∀(x:List aa) (i m:Nat),r.drop i=x→i≤r.length→x.length<m→wC (Fi n0) m ks r (r.length:Int) (i:Int)=some (bA (ks.drop i) (r.drop i))
 | [],i,m+1,hd,h1,hm=>by
  have hq':r.length≤i:=by simpa using hd
  have hq:¬((i:Int)<(r.length:Int)):=by omega
  simp only[wC,Fj,Fi,hq,decide_false,Bool.false_eq_true,if_false];rw[hd,List.drop_of_length_le (by omega)]
  rfl
 |x::xs,i,m+1,hd,h1,hm=>by
  obtain ⟨g1,g2,g3⟩:=aP hd;have hq:(i:Int)<(r.length:Int):=by omega
  obtain ⟨k,ks',hk⟩:∃k ks',ks.drop i=k::ks':=by
   rw[List.drop_eq_getElem_cons (by omega)]
   exact ⟨_,_,rfl⟩
  obtain ⟨k1,k2,k3⟩:=aP hk;simp only[wC,Fj,hq,decide_true,if_true,aW,g1,k1,Option.bind_some,U1];rw[hd,hk,bB g3 hl];simp only[bA];cases hv:gF x with
  |false=>simp
  |true=>
   by_cases he:x.ar=k
   ·simp only[he,bne_self_eq_false,Bool.not_true,Bool.false_eq_true,if_false,beq_self_eq_true,Bool.true_and];rw[UT n0 ks r hr hl xs (i+1) m g2 (by omega) (by simp at hm;omega),g2,k2]
   ·simp[he]
 |_,_,0,_,_,hm=>by simp at hm
theorem qR {ks:List Int} {r:List aa} (h:¬r.length=ks.length):bA ks r=false:=by
 cases hr:bA ks r with
 |false=>rfl
 |true=>exact absurd (dK hr) h
theorem U4 (n:Nat) (r:List aa) (ks:List Int) (hl:ks.length<n) (hk:ks.length<4294967296):F39 n r ks=some (bA ks r):=by
 unfold F39 Qv;by_cases h:r.length=ks.length
 ·have e:((r.length:Int) !=(ks.length:Int))=false:=by simp[h]
  rw[e];simp only[Bool.false_eq_true,if_false];have:=UT n ks r h (by omega) r 0 n rfl (by omega) (by omega)
  simpa using this
 ·have e:((r.length:Int) !=(ks.length:Int))=true:=by simp;omega
  rw[e,qR h];rfl
theorem sj {v:aa} {k:Int} (hk:kOK k=true) (h:v.ar=k):gF v=eh v:=by
 have:=pP hk;have:3≤v.ar:=by omega
 simp[gF,this]
theorem TW {l:List Int} (h:dL l=true) (i:Nat):dL (l.take i)=true:=by
 unfold dL at h ⊢;rw[List.all_eq_true] at h ⊢;exact fun x hx=>h x (List.mem_of_mem_take hx)
theorem UN (n0:Nat) (ks:List Int) (hks:dL ks=true) (r:List aa) (hr:r.length=ks.length) (hl:r.length<4294967296):∀(x:List aa) (i m:Nat),r.drop i=x→i≤r.length→x.length<m→wa (ED n0) m ks r (r.length:Int) (i:Int)=some (bA (ks.drop i) (r.drop i))
 | [],i,m+1,hd,h1,hm=>by
  have hq':r.length≤i:=by simpa using hd
  have hq:¬((i:Int)<(r.length:Int)):=by omega
  simp only[wa,EE,ED,hq,decide_false,Bool.false_eq_true,if_false];rw[hd,List.drop_of_length_le (by omega)]
  rfl
 |x::xs,i,m+1,hd,h1,hm=>by
  obtain ⟨g1,g2,g3⟩:=aP hd;have hq:(i:Int)<(r.length:Int):=by omega
  obtain ⟨k,ks',hk⟩:∃k ks',ks.drop i=k::ks':=by
   rw[List.drop_eq_getElem_cons (by omega)]
   exact ⟨_,_,rfl⟩
  obtain ⟨k1,k2,k3⟩:=aP hk;have hkk:=l7 hks k1;simp only[wa,EE,hq,decide_true,if_true,aW,g1,k1,Option.bind_some,u9];rw[hd,hk,bB g3 hl];simp only[bA];by_cases he:x.ar=k
  ·rw[sj hkk he];cases hv:eh x with
   |false=>simp
   |true=>
    simp only[he,bne_self_eq_false,Bool.not_true,Bool.false_eq_true,if_false,beq_self_eq_true,Bool.true_and];rw[UN n0 ks hks r hr hl xs (i+1) m g2 (by omega) (by simp at hm;omega),g2,k2]
  ·cases eh x<;>simp[he]
 |_,_,0,_,_,hm=>by simp at hm
section
variable {s:J} {t:Int} {T:aj} {n:Nat}
theorem xP (ht:dk T):(kE T).length=T.az.toNat:=by
 have h1:=ht.l8;have h2:=ht.bQ;simp[kE,cA];omega
theorem adj (hT:idx s.ae t=some T) (ht:dk T) (r:List aa) (hn:1000<n):F85 n s t r=some (bA (kE T) r):=by
 have hc:=ht.aC;have hl:=xP ht;have h1:=ht.l8;have h2:=ht.bQ;simp only[F85,P8,aaU hT ht hn,Option.bind_some];by_cases h:r.length=(kE T).length
 ·have e:(((kE T).length:Int) !=(r.length:Int))=false:=by simp[h]
  rw[e];simp only[Bool.false_eq_true,if_false];have:=UN n (kE T) (TW ht.ks _) r h (by omega) r 0 n rfl (by omega) (by omega)
  simpa using this
 ·have e:(((kE T).length:Int) !=(r.length:Int))=true:=by simp;omega
  rw[e,qR h];rfl
end
end Go.Proofs.YtmealahmjddpcaaGreatDoor
end
noncomputable section
namespace Go.Proofs.YtmealahmjddpcaaGreatDoor
open Go.Sim
theorem si {T:aj} {i:Nat} {c:aL} (h:T.af[i]? =some c):(bl T)[i]? =some c.ar:=by simp[bl,h]
theorem xc {T:aj} {i:Nat} {c:aL} (h:T.af[i]? =some c):(bl T).drop i=c.ar::(bl T).drop (i+1):=by
 have h1:i<(bl T).length:=by rw[cA];exact (List.getElem?_eq_some_iff.1 h).1
 have h2:=si h;rw[List.drop_eq_getElem_cons h1];rw[List.getElem?_eq_getElem h1] at h2;rw[Option.some.inj h2]
theorem UQ (n0:Nat) (T:aj) (ht:dL (bl T)=true) (r:List aa) (hr:r.length=T.af.length) (hl:r.length<4294967296):∀(x:List aa) (i m:Nat),r.drop i=x→i≤r.length→x.length<m→qg (wR n0) m 1 r (r.length:Int) (i:Int) T=some (bA ((bl T).drop i) (r.drop i))
 | [],i,m+1,hd,h1,hm=>by
  have hq':r.length≤i:=by simpa using hd
  have hq:¬((i:Int)<(r.length:Int)):=by omega
  simp only[qg,E3,wR,hq,decide_false,Bool.false_eq_true,if_false];rw[hd,List.drop_of_length_le (by rw[cA];omega)]
  rfl
 |x::xs,i,m+1,hd,h1,hm=>by
  obtain ⟨g1,g2,g3⟩:=aP hd;have hq:(i:Int)<(r.length:Int):=by omega
  have hlt:i<T.af.length:=by omega
  have hc:T.af[i]? =some T.af[i]:=List.getElem?_eq_getElem hlt;have hk:=xc hc;have hkk:=l7 ht (si hc);generalize T.af[i]=c at hc hk hkk;have key:wS (qg (wR n0) m) m 1 (i:Int) false r (r.length:Int) (i:Int) T x=if x.ar=c.ar then qg (wR n0) m 1 r (r.length:Int) (w64 ((i:Int)+1)) T else some false:=by
   unfold wS AJ;simp only[aW,hc,Option.bind_some];by_cases he:x.ar=c.ar
   ·simp[he]
   ·simp[he]
  simp only[qg,E3,hq,decide_true,if_true,aW,g1,Option.bind_some,M1];rw[hd,hk];simp only[bA];by_cases he:x.ar=c.ar
  ·rw[sj hkk he];cases hv:eh x with
   |false=>simp
   |true=>
    have ih:=UQ n0 T ht r hr hl xs (i+1) m g2 (by omega) (by simp at hm;omega)
    rw[g2] at ih;simp only[Bool.not_true,Bool.false_eq_true,if_false,bne_self_eq_false,key,he,if_true,bB g3 hl,ih];simp
  ·cases hv:eh x with
   |false=>simp[he]
   |true=>
    simp only[Bool.not_true,Bool.false_eq_true,if_false,bne_self_eq_false,key,he];simp[he]
 |_,_,0,_,_,hm=>by simp at hm
section
variable {s:J} {t:Int} {T:aj} {n:Nat}
theorem adq (hT:idx s.ae t=some T) (ht:dk T) (r:List aa) (hn:1000<n):F70 n s t r 1=some (bA (bl T) r):=by
 have hc:=ht.aC;have hl:=cA T;simp only[F70,Qk,wQ,bne_self_eq_false,Bool.false_eq_true,if_false,Av hT,Option.bind_some,Bool.not_true,hT];by_cases h:r.length=T.af.length
 ·have e:((r.length:Int) !=(T.af.length:Int))=false:=by simp[h]
  rw[e];simp only[Bool.false_eq_true,if_false];have:=UQ n T ht.ks r h (by omega) r 0 n rfl (by omega) (by omega)
  simp only[List.drop_zero] at this;exact this
 ·have e:((r.length:Int) !=(T.af.length:Int))=true:=by simp;omega
  rw[e,qR (by omega)]
  rfl
end
theorem UM (n0:Nat) (s:J) (t:Int) (T:aj) (hT:idx s.ae t=some T) (ht:dL (bl T)=true) (r:List aa) (hr:r.length=T.af.length) (hl:r.length<4294967296):∀(x:List aa) (i m:Nat),r.drop i=x→i≤r.length→x.length<m→v9 (EB n0) m t 1 r (r.length:Int) (i:Int) s=some (bA ((bl T).drop i) (r.drop i))
 | [],i,m+1,hd,h1,hm=>by
  have hq':r.length≤i:=by simpa using hd
  have hq:¬((i:Int)<(r.length:Int)):=by omega
  simp only[v9,EC,EB,hq,decide_false,Bool.false_eq_true,if_false];rw[hd,List.drop_of_length_le (by rw[cA];omega)]
  rfl
 |x::xs,i,m+1,hd,h1,hm=>by
  obtain ⟨g1,g2,g3⟩:=aP hd;have hq:(i:Int)<(r.length:Int):=by omega
  have hlt:i<T.af.length:=by omega
  have hc:T.af[i]? =some T.af[i]:=List.getElem?_eq_getElem hlt;have hk:=xc hc;have hkk:=l7 ht (si hc);generalize T.af[i]=c at hc hk hkk;simp only[v9,EC,hq,decide_true,if_true,aW,g1,Option.bind_some,u9];rw[hd,hk];simp only[bA];by_cases he:x.ar=c.ar
  ·rw[sj hkk he];cases hv:eh x with
   |false=>simp
   |true=>
    have ih:=UM n0 s t T hT ht r hr hl xs (i+1) m g2 (by omega) (by simp at hm;omega)
    rw[g2] at ih;simp only[Bool.not_true,Bool.false_eq_true,if_false,hT,hc,Option.bind_some,he,beq_self_eq_true,if_true,jS,bB g3 hl,ih];simp
  ·cases hv:eh x with
   |false=>simp[he]
   |true=>
    have e1:(x.ar==c.ar)=false:=by simpa using he
    simp only[Bool.not_true,Bool.false_eq_true,if_false,hT,hc,Option.bind_some,e1,bne_self_eq_false,lK,show ((1:Int)==3)=false from rfl,ite_self,Bool.and_false,Bool.false_and]
 |_,_,0,_,_,hm=>by simp at hm
section
variable {s:J} {t:Int} {T:aj} {n:Nat}
theorem adi (hT:idx s.ae t=some T) (ht:dk T) (r:List aa) (hn:1000<n):F86 n s t r 1=some (bA (bl T) r):=by
 obtain ⟨h0,h1,_⟩:=uv hT;have e1:¬t<0:=by omega
 have e2:t<(s.ae.length:Int):=by omega
 have hc:=ht.aC;have hl:=cA T;simp only[F86,P7,show ¬(1:Int)<1 by omega,show ¬(3:Int)<1 by omega,e1,e2,decide_false,decide_true,Bool.not_true,Bool.false_eq_true,if_false,hT,Option.bind_some]
 by_cases h:r.length=T.af.length
 ·have e:((r.length:Int) !=(T.af.length:Int))=false:=by simp[h]
  rw[e];simp only[Bool.false_eq_true,if_false];have:=UM n s t T hT ht.ks r h (by omega) r 0 n rfl (by omega) (by omega)
  simp only[List.drop_zero] at this;exact this
 ·have e:((r.length:Int) !=(T.af.length:Int))=true:=by simp;omega
  rw[e,qR (by omega)]
  rfl
end
def dv (ks:List Int):Int→List Int→Option (List Int)
 |_,[]=>some []
 |last,c::cs=>if last<c∧c<(ks.length:Int) then (dv ks c cs).map (fun l=>(ks[c.toNat]?).getD 0::l) else none
theorem US (n0:Nat) (hn0:1000<n0) (ks:List Int) (hk:ks.length≤8) (w:ak) (hl:w.af.length<4294967296):∀(x:List Int) (i m:Nat) (last:Int) (acc:List Int),w.af.drop i=x→x.length<m→ -1≤last→last<8→(acc.length:Int)≤last+1→
  wA (Fg n0) m last w.af (w.af.length:Int) (i:Int) w ks acc=some (match dv ks last x with|some l=>bA (acc++l) w.bg|none=>false)
 | [],i,m+1,last,acc,hd,hm,h1,h2,h3=>by
  have hq':w.af.length≤i:=by simpa using hd
  have hq:¬((i:Int)<(w.af.length:Int)):=by omega
  simp only[wA,Fh,Fg,hq,decide_false,Bool.false_eq_true,if_false,dv,List.append_nil];rw[U4 n0 w.bg acc (by omega) (by omega)]
  rfl
 |c::cs,i,m+1,last,acc,hd,hm,h1,h2,h3=>by
  obtain ⟨g1,g2,g3⟩:=aP hd;have hq:(i:Int)<(w.af.length:Int):=by omega
  simp only[wA,Fh,hq,decide_true,if_true,aW,g1,Option.bind_some,dv];by_cases h4:last<c
  ·by_cases h5:c<(ks.length:Int)
   ·have hb:bnd ks.length c=some c.toNat:=by unfold bnd;rw[if_pos (by omega)]
    have hg:ks[c.toNat]? =some (ks[c.toNat]'(by omega)):=List.getElem?_eq_getElem _
    simp only[h4,h5,decide_true,Bool.not_true,Bool.false_eq_true,if_false,hb,Option.bind_some,Nat.zero_add,hg,and_self,if_true,Option.getD_some];rw[cR _ _ (by simp;omega),Option.bind_some,bB g3 hl,US n0 hn0 ks hk w hl cs (i+1) m c _ g2 (by simp at hm;omega) (by omega) (by omega) (by simp;omega)]
    cases dv ks c cs with
    |none=>rfl
    |some l=>simp
   ·simp[h4,h5]
  ·simp[h4]
 |_,_,0,_,_,_,hm,_,_,_=>by simp at hm
theorem nJ {ks:List Int} (hk:dL ks=true):∀{last:Int} {cs l:List Int}, -1≤last→dv ks last cs=some l→l.length=cs.length∧∀(i:Nat) (c:Int),cs[i]? =some c→0≤c∧c.toNat<ks.length∧l[i]? =ks[c.toNat]? ∧∀k,l[i]? =some k→kOK k=true
 |last,[],l,_,h=>by simp[dv] at h;subst h;exact ⟨rfl,fun i c hc=>by simp at hc⟩
 |last,c::cs,l,h1,h=>by
  simp only[dv] at h;split at h
  ·rename_i hc;cases h2:dv ks c cs with
   |none=>rw[h2] at h;cases h
   |some l'=>
    rw[h2] at h;simp at h;subst h;obtain ⟨e1,e2⟩:=nJ hk (by omega) h2
    refine ⟨by simp[e1],fun i d hd=> ?_⟩
    cases i with
    |zero=>
     simp at hd;subst hd;have hg:ks[c.toNat]? =some (ks[c.toNat]'(by omega)):=List.getElem?_eq_getElem _
     refine ⟨by omega,by omega,by simp[hg],fun k hk'=> ?_⟩
     simp[hg] at hk';exact l7 hk (hg.trans (by rw[hk']))
    |succ i=>simpa using e2 i d (by simpa using hd)
  ·cases h
def np:Option Int→Int→Bool
 |none,_=>true
 |some p,c=>decide (p<c)
def uW (low high:Int):Option Int→List Int→Bool
 |_,[]=>true
 |prev,c::cs=>decide (low≤c)&&(decide (c<high)&&(np prev c&&uW low high (some c) cs))
theorem DA {ks:List Int} {low:Int}:∀{cs:List Int} {prev:Option Int} {last:Int},((prev=none∧last=low-1)∨(prev=some last∧low≤last))→uW low (ks.length:Int) prev cs=(dv ks last cs).isSome
 | [],prev,last,h=>rfl
 |c::cs,prev,last,h=>by
  simp only[uW,dv];have hk:(np prev c=true∧low≤c)↔last<c:=by
   rcases h with ⟨rfl,rfl⟩|⟨rfl,h⟩
   ·simp[np];omega
   ·simp[np];omega
  by_cases h1:last<c
  ·obtain ⟨k1,k2⟩:=hk.2 h1;have ih:uW low (ks.length:Int) (some c) cs=(dv ks c cs).isSome:=DA (.inr ⟨rfl,k2⟩);by_cases h2:c<(ks.length:Int)
   ·simp[k1,k2,h1,h2,ih]
   ·simp[h1,h2]
  ·by_cases h3:low≤c
   ·have:np prev c=false:=by
     cases hm:np prev c with
     |false=>rfl
     |true=>exact absurd (hk.1 ⟨hm,h3⟩) h1
    simp[h1,this]
   ·simp[h1,h3]
theorem UL (n0:Nat) (aC:List Int) (low high:Int) (hl:aC.length<4294967296):∀(x:List Int) (i m:Nat),aC.drop i=x→x.length<m→v8 (Ez n0) m aC low high aC (aC.length:Int) (i:Int)=some (uW low high (if i=0 then none else aC[i-1]?) x)
 | [],i,m+1,hd,hm=>by
  have hq':aC.length≤i:=by simpa using hd
  have hq:¬((i:Int)<(aC.length:Int)):=by omega
  simp only[v8,EA,Ez,hq,decide_false,Bool.false_eq_true,if_false];simp[uW]
 |c::cs,i,m+1,hd,hm=>by
  obtain ⟨g1,g2,g3⟩:=aP hd;have hq:(i:Int)<(aC.length:Int):=by omega
  have ih:=UL n0 aC low high hl cs (i+1) m g2 (by simp at hm;omega)
  rw[if_neg (by omega),show i+1-1=i by omega,g1] at ih
  simp only[v8,EA,hq,decide_true,if_true,aW,g1,Option.bind_some,uW,bB g3 hl,ih];by_cases h1:c<low
  ·have:¬low≤c:=by omega
   simp[h1,this]
  ·have h1':low≤c:=by omega
   by_cases h2:c<high
   ·simp only[h1,h1',h2,decide_false,decide_true,Bool.not_true,Bool.false_eq_true,if_false,Bool.true_and];by_cases h0:i=0
    ·subst h0;simp[np]
    ·have h0':0<(i:Int):=by omega
     have hw:w64 ((i:Int)-1)=((i-1:Nat):Int):=by rw[bZ (by omega) (by omega)];omega
     have hg:aC[i-1]? =some (aC[i-1]'(by omega)):=List.getElem?_eq_getElem _
     simp only[h0',decide_true,if_true,hw,aW,hg,Option.bind_some,h0,if_false];by_cases h3:aC[i-1]<c
     ·simp[h3,np]
     ·simp[h3,np]
   ·simp[h1,h1',h2]
 |_,_,0,_,hm=>by simp at hm
theorem adh (n:Nat) (aC:List Int) (low high:Int) (hl:aC.length<4294967296) (hn:aC.length<n):F87 n aC low high=some (uW low high none aC):=by
 have:=UL n aC low high hl aC 0 n rfl hn;rw[if_pos rfl] at this;exact this
theorem UR (n0:Nat) (ks:List Int) (hks:dL ks=true) (w:ak) (l:List Int) (last:Int) (h0: -1≤last) (hc:dv ks last w.af=some l) (hr:w.bg.length=l.length) (hl:w.bg.length<4294967296):∀(x:List aa) (i m:Nat),w.bg.drop i=x→i≤w.bg.length→x.length<m→wq (E4 n0) m w.bg (w.bg.length:Int) (i:Int) w ks=some (bA (l.drop i) (w.bg.drop i))
 | [],i,m+1,hd,h1,hm=>by
  have hq':w.bg.length≤i:=by simpa using hd
  have hq:¬((i:Int)<(w.bg.length:Int)):=by omega
  simp only[wq,E5,E4,hq,decide_false,Bool.false_eq_true,if_false];rw[hd,List.drop_of_length_le (by omega)]
  rfl
 |x::xs,i,m+1,hd,h1,hm=>by
  obtain ⟨g1,g2,g3⟩:=aP hd;have hq:(i:Int)<(w.bg.length:Int):=by omega
  obtain ⟨k,l',hk⟩:∃k l',l.drop i=k::l':=by
   rw[List.drop_eq_getElem_cons (by omega)]
   exact ⟨_,_,rfl⟩
  obtain ⟨k1,k2,k3⟩:=aP hk;obtain ⟨e1,e2⟩:=nJ hks h0 hc;have hcl:i<w.af.length:=by omega
  have hci:w.af[i]? =some w.af[i]:=List.getElem?_eq_getElem hcl;generalize w.af[i]=c at hci;obtain ⟨f1,f2,f3,f4⟩:=e2 i c hci;have hkk:=f4 k k1;have hb:bnd ks.length c=some c.toNat:=by unfold bnd;rw[if_pos ⟨f1,f2⟩]
  simp only[wq,E5,hq,decide_true,if_true,aW,g1,Option.bind_some,u9];rw[hd,hk];simp only[bA];by_cases he:x.ar=k
  ·rw[sj hkk he];cases hv:eh x with
   |false=>simp
   |true=>
    have ih:=UR n0 ks hks w l last h0 hc hr hl xs (i+1) m g2 (by omega) (by simp at hm;omega)
    rw[g2,k2] at ih;simp only[Bool.not_true,Bool.false_eq_true,if_false,hci,hb,Option.bind_some,Nat.zero_add,←f3,k1,he,bne_self_eq_false,bB g3 hl,ih];simp
  ·cases hv:eh x with
   |false=>simp[he]
   |true=>
    simp only[Bool.not_true,Bool.false_eq_true,if_false,hci,hb,Option.bind_some,Nat.zero_add,←f3,k1];simp[he]
 |_,_,0,_,_,hm=>by simp at hm
def ja (T:aj) (w:ak):Bool:=
 if w.fOp=1 then w.af.isEmpty&&(bA (bl T) w.bg&&e9 (w.bg.take T.az.toNat) w.az==0)
 else if w.fOp=2 then (match dv (bl T) (T.az-1) w.af with|some l=>bA l w.bg|none=>false)
 else w.af.isEmpty&&w.bg.isEmpty
def wOK (T:aj) (w:ak):Bool:=bA (kE T) w.az&&ja T w
section
variable {s:J} {T:aj} {n:Nat}
theorem N3 {α:Type} (l:List α):((l.length:Int)==0)=l.isEmpty:=by cases l<;>simp;omega
theorem adv (w:ak) (hT:idx s.ae w.aD=some T) (ht:dk T) (hn:2000000≤n) (hl:w.af.length≤1500000):F41 n s w=some (ja T w):=by
 have hc:=ht.aC;have k1:=ht.l8;have k2:=ht.bQ;have hkl:=cA T;unfold F41 Qq ja;by_cases h1:w.fOp=1
 ·simp only[h1,beq_self_eq_true,if_true,N3,adq hT ht w.bg (by omega:1000<n),Option.bind_some]
  cases w.af.isEmpty with
  |false=>simp
  |true=>
   simp only[if_true,Bool.true_and];cases hr:bA (bl T) w.bg with
   |false=>simp
   |true=>
    have hlen:=dK hr;simp only[if_true,adm (n:=n) hT ht w.bg (by omega),Option.bind_some]
    rw[U3 n _ _ (by simp;omega) (by simp;omega)]
    simp
 ·have e1:(w.fOp==1)=false:=by simpa using h1
  simp only[e1,Bool.false_eq_true,if_false,h1];by_cases h2:w.fOp=2
  ·simp only[h2,beq_self_eq_true,if_true,JZ hT (by omega) (by omega:1000<n),Option.bind_some,hT]
   rw[bZ (by omega) (by omega)]
   have:=US n (by omega) (bl T) (by omega) w (by omega) w.af 0 n (T.az-1) [] rfl (by omega) (by omega) (by omega) (by simp;omega)
   simpa using this
  ·have e2:(w.fOp==2)=false:=by simpa using h2
   simp only[e2,Bool.false_eq_true,if_false,h2,N3];cases w.af.isEmpty<;>simp
theorem ads (w:ak) (hT:idx s.ae w.aD=some T) (ht:dk T) (hn:2000000≤n) (hl:w.af.length≤1500000):F45 n s w=some (wOK T w):=by
 have hc:=ht.aC;have k1:=ht.l8;have k2:=ht.bQ;have hkl:=cA T;unfold F45 Qn wOK ja;rw[adj hT ht w.az (by omega),Option.bind_some]
 cases bA (kE T) w.az with
 |false=>simp
 |true=>
  simp only[Bool.not_true,Bool.false_eq_true,if_false,Bool.true_and,rH hT (by omega) (by omega:1000<n),Option.bind_some]
  by_cases h1:w.fOp=1
  ·simp only[h1,beq_self_eq_true,if_true,N3,adi hT ht w.bg (by omega:1000<n),Option.bind_some]
   cases w.af.isEmpty with
   |false=>simp
   |true=>
    simp only[if_true,Bool.true_and];cases hr:bA (bl T) w.bg with
    |false=>simp
    |true=>
     have hlen:=dK hr;simp only[if_true,vb (n:=n) hT ht w.bg (by omega),Option.bind_some]
     rw[Az n _ _ (by simp;omega) (by simp;omega)]
     simp
  ·have e1:(w.fOp==1)=false:=by simpa using h1
   simp only[e1,Bool.false_eq_true,if_false,h1];by_cases h2:w.fOp=2
   ·simp only[h2,beq_self_eq_true,if_true,hT,Option.bind_some];rw[adh n _ _ _ (by omega) (by omega),Option.bind_some,DA (ks:=bl T) (last:=T.az-1) (.inl ⟨rfl,rfl⟩)]
    cases hcl:dv (bl T) (T.az-1) w.af with
    |none=>simp
    |some l=>
     obtain ⟨q1,q2⟩:=nJ ht.ks (by omega) hcl
     simp only[Option.isSome_some,Bool.not_true,Bool.false_eq_true,if_false];by_cases hlen:w.bg.length=w.af.length
     ·have e:((w.bg.length:Int) !=(w.af.length:Int))=false:=by simp[hlen]
      rw[e];simp only[Bool.false_eq_true,if_false];have:=UR n (bl T) ht.ks w l (T.az-1) (by omega) hcl (by omega) (by omega) w.bg 0 n rfl (by omega) (by omega)
      simpa using this
     ·have e:((w.bg.length:Int) !=(w.af.length:Int))=true:=by simp;omega
      rw[e,qR (by omega)]
      rfl
   ·have e2:(w.fOp==2)=false:=by simpa using h2
    simp only[e2,Bool.false_eq_true,if_false,h2,N3];cases w.af.isEmpty<;>simp
end
end Go.Proofs.YtmealahmjddpcaaGreatDoor
end
noncomputable section
namespace Go.Proofs.YtmealahmjddpcaaGreatDoor
open Go.Sim
structure SOK (s:J):Prop where
 len:s.ae.length≤8
 tab:∀t T,idx s.ae t=some T→dk T
def mr:Option ak→ak→Bool
 |none,_=>false
 |some p,w=> !decide (gE p.aD p.az w.aD w.az<0)
def dW (s:J):Option ak→List ak→Int
 |_,[]=>0
 |prev,w::ws=>
  match idx s.ae w.aD with
  |none=>1
  |some T=>if w.fOp<1∨3<w.fOp then 1 else if (!wOK T w)=true then 270 else if mr prev w=true then 270 else dW s (some w) ws
def wB (w:ak):Prop:=w.af.length≤1500000∧w.az.length≤1500000
theorem UZ (n0:Nat) (s:J) (hs:SOK s) (ws:List ak) (hl:ws.length<4294967296) (hb:∀w∈ws,wB w):∀(x:List ak) (i m:Nat),ws.drop i=x→x.length+2000000<m→wI (FC n0) m ws ws (ws.length:Int) (i:Int) s=some (dW s (if i=0 then none else ws[i-1]?) x)
 | [],i,m+1,hd,hm=>by
  have hq':ws.length≤i:=by simpa using hd
  have hq:¬((i:Int)<(ws.length:Int)):=by omega
  simp only[wI,FD,FC,hq,decide_false,Bool.false_eq_true,if_false];simp[dW]
 |w::x,i,m+1,hd,hm=>by
  obtain ⟨g1,g2,g3⟩:=aP hd;have hq:(i:Int)<(ws.length:Int):=by omega
  have hbw:=hb w (List.mem_of_getElem? g1);simp at hm;have ih:=UZ n0 s hs ws hl hb x (i+1) m g2 (by omega)
  rw[if_neg (by omega),show i+1-1=i by omega,g1] at ih
  simp only[wI,FD,hq,decide_true,if_true,aW,g1,Option.bind_some,bB g3 hl,ih,dW];by_cases h1:w.fOp<1
  ·have hor:w.fOp<1∨3<w.fOp:=.inl h1;cases hT:idx s.ae w.aD<;>simp[h1]
  ·by_cases h2:3<w.fOp
   ·cases hT:idx s.ae w.aD<;>simp[h1,h2]
   ·simp only[h1,h2,decide_false,Bool.false_eq_true,if_false,or_self];by_cases h3:w.aD<0
    ·have:idx s.ae w.aD=none:=by unfold idx;rw[if_neg (by omega)]
     simp[h3,this]
    ·by_cases h4:w.aD<(s.ae.length:Int)
     ·obtain ⟨T,hT⟩:∃T,idx s.ae w.aD=some T:=by
       unfold idx;rw[if_pos (by omega),List.getElem?_eq_getElem (by omega)];exact ⟨_,rfl⟩
      have ht:=hs.tab _ _ hT;have hc:=ht.aC;have hkl:=xP ht;have k2:=ht.bQ;simp only[h3,h4,decide_false,decide_true,Bool.not_true,Bool.false_eq_true,if_false,hT,adw hT ht (by omega:1000<m),Option.bind_some,U4 m w.az (kE T) (by omega) (by omega),adv w hT ht (by omega:2000000≤m) hbw.1,wOK]
      rcases Bool.eq_false_or_eq_true (bA (kE T) w.az) with hv|hv
      rotate_left
      ·simp[hv]
      ·rcases Bool.eq_false_or_eq_true (ja T w) with hf|hf
       rotate_left
       ·simp[hv,hf]
       ·simp only[hv,hf,Bool.not_true,Bool.false_eq_true,if_false,Bool.and_self];by_cases h0:i=0
        ·subst h0;simp[mr]
        ·have h0':0<(i:Int):=by omega
         have hw:w64 ((i:Int)-1)=((i-1:Nat):Int):=by rw[bZ (by omega) (by omega)];omega
         have hg:ws[i-1]? =some (ws[i-1]'(by omega)):=List.getElem?_eq_getElem _
         have hbp:=hb _ (List.mem_of_getElem? hg);generalize ws[i-1]=p at hg hbp;simp only[h0',decide_true,if_true,hw,aW,hg,Option.bind_some,h0,if_false,adu m p w (by have:=hbp.2;omega) (by have:=hbp.2;omega),mr]
         by_cases h5:gE p.aD p.az w.aD w.az<0
         ·simp[h5]
         ·simp[h5]
     ·have:idx s.ae w.aD=none:=Cg (by omega) h4
      simp[h3,h4,this]
 |_,_,0,_,hm=>by simp at hm
theorem UY (n0:Nat) (s:J) (hs:SOK s) (ws:List ak) (hl:ws.length<4294967296) (hb:∀w∈ws,wB w):∀(x:List ak) (i m:Nat),ws.drop i=x→x.length+2000000<m→wH (FA n0) m ws ws (ws.length:Int) (i:Int) s=some (dW s (if i=0 then none else ws[i-1]?) x)
 | [],i,m+1,hd,hm=>by
  have hq':ws.length≤i:=by simpa using hd
  have hq:¬((i:Int)<(ws.length:Int)):=by omega
  simp only[wH,FB,FA,hq,decide_false,Bool.false_eq_true,if_false];simp[dW]
 |w::x,i,m+1,hd,hm=>by
  obtain ⟨g1,g2,g3⟩:=aP hd;have hq:(i:Int)<(ws.length:Int):=by omega
  have hbw:=hb w (List.mem_of_getElem? g1);simp at hm;have ih:=UY n0 s hs ws hl hb x (i+1) m g2 (by omega)
  rw[if_neg (by omega),show i+1-1=i by omega,g1] at ih
  simp only[wH,FB,hq,decide_true,if_true,aW,g1,Option.bind_some,bB g3 hl,ih,dW];by_cases h1:w.fOp<1
  ·have hor:w.fOp<1∨3<w.fOp:=.inl h1;cases hT:idx s.ae w.aD<;>simp[h1]
  ·by_cases h2:3<w.fOp
   ·cases hT:idx s.ae w.aD<;>simp[h1,h2]
   ·simp only[h1,h2,decide_false,Bool.false_eq_true,if_false,or_self];by_cases h3:w.aD<0
    ·have:idx s.ae w.aD=none:=by unfold idx;rw[if_neg (by omega)]
     simp[h3,this]
    ·by_cases h4:w.aD<(s.ae.length:Int)
     ·obtain ⟨T,hT⟩:∃T,idx s.ae w.aD=some T:=by
       unfold idx;rw[if_pos (by omega),List.getElem?_eq_getElem (by omega)];exact ⟨_,rfl⟩
      have ht:=hs.tab _ _ hT;simp only[h3,h4,decide_false,decide_true,Bool.not_true,Bool.false_eq_true,if_false,hT,Option.bind_some,ads w hT ht (by omega:2000000≤m) hbw.1]
      rcases Bool.eq_false_or_eq_true (wOK T w) with hf|hf
      rotate_left
      ·simp[hf]
      · simp only[hf,Bool.not_true,Bool.false_eq_true,if_false];by_cases h0:i=0
        ·subst h0;simp[mr]
        ·have h0':0<(i:Int):=by omega
         have hw:w64 ((i:Int)-1)=((i-1:Nat):Int):=by rw[bZ (by omega) (by omega)];omega
         have hg:ws[i-1]? =some (ws[i-1]'(by omega)):=List.getElem?_eq_getElem _
         have hbp:=hb _ (List.mem_of_getElem? hg);generalize ws[i-1]=p at hg hbp;simp only[h0',decide_true,if_true,hw,aW,hg,Option.bind_some,h0,if_false,U5 m _ _ p.az w.az (by have:=hbp.2;omega) (by have:=hbp.2;omega),mr]
         by_cases h5:gE p.aD p.az w.aD w.az<0
         ·simp[h5]
         ·simp[h5]
     ·have:idx s.ae w.aD=none:=Cg (by omega) h4
      simp[h3,h4,this]
 |_,_,0,_,hm=>by simp at hm
def tJ (s:J) (e:Int) (ws:List ak):Int:=if e=0 then (if 64<ws.length then 2 else dW s none ws) else e
theorem adD (n:Nat) (s:J) (e:Int) (he:F38 n s=some e) (hs:e=0→SOK s) (ws:List ak) (hb:∀w∈ws,wB w) (hn:2000100≤n):F12 n s ws=some (tJ s e ws):=by
 unfold F12 QI tJ;rw[he,Option.bind_some];by_cases h0:e=0
 ·subst h0;simp only[bne_self_eq_false,Bool.false_eq_true,if_false,if_true];by_cases h1:64<ws.length
  ·have h1':(64:Int)<(ws.length:Int):=by omega
   simp only[h1,h1',decide_true,if_true]
  ·have h1':¬(64:Int)<(ws.length:Int):=by omega
   simp only[h1,h1',decide_false,Bool.false_eq_true,if_false];have:=UZ n s (hs rfl) ws (by omega) hb ws 0 n rfl (by omega)
   rw[if_pos rfl] at this;exact this
 ·have:(e !=0)=true:=by simpa using h0
  simp[this,h0]
theorem adB (n:Nat) (s:J) (e:Int) (he:F44 n s=some e) (hs:e=0→SOK s) (ws:List ak) (hb:∀w∈ws,wB w) (hn:2000100≤n):F14 n s ws=some (tJ s e ws):=by
 unfold F14 QG tJ;rw[he,Option.bind_some];by_cases h0:e=0
 ·subst h0;simp only[bne_self_eq_false,Bool.false_eq_true,if_false,if_true];by_cases h1:64<ws.length
  ·have h1':(64:Int)<(ws.length:Int):=by omega
   simp only[h1,h1',decide_true,if_true]
  ·have h1':¬(64:Int)<(ws.length:Int):=by omega
   simp only[h1,h1',decide_false,Bool.false_eq_true,if_false];have:=UY n s (hs rfl) ws (by omega) hb ws 0 n rfl (by omega)
   rw[if_pos rfl] at this;exact this
 ·have:(e !=0)=true:=by simpa using h0
  simp[this,h0]
end Go.Proofs.YtmealahmjddpcaaGreatDoor
end
noncomputable section
namespace Go.Proofs.YtmealahmjddpcaaGreatDoor
open Go.Sim
def nmL (b:UInt8):Bool:=decide (97≤b.toNat)&&decide (b.toNat≤122)
def nmC (b:UInt8):Bool:=nmL b||((decide (48≤b.toNat)&&decide (b.toNat≤57))||decide (b.toNat=95))
def zi:List UInt8→Bool
 | []=>false
 |b::l=>nmL b&&l.all nmC
def mw (s:ByteArray):Bool:=decide (s.size≤32)&&zi s.data.toList
theorem ke (s:ByteArray):s.data.toList.length=s.size:=by simp
theorem abW {s:ByteArray} {p:Nat} {b:UInt8} (h:s.data.toList[p]? =some b):∃hp:p<s.size,s[p]'hp=b:=by
 have h1:=(List.getElem?_eq_some_iff.1 h);obtain ⟨q1,q2⟩:=h1;have hp:p<s.size:=by simpa using q1
 have q3:s.data[p]=b:=by simpa using q2
 exact ⟨hp,q3⟩
theorem DG (k:ByteArray→Nat→Option Bool) (m:Nat) (s:ByteArray) (p:Nat) (q:Nat) (c:Int) (l:Bool):vl k m (p:Int) c l s q=if l=true then k s q else if p=0 then some false else if c=95∨(48≤c∧c≤57) then k s q else some false:=by
 unfold vl;cases l with
 |true=>simp
 |false=>
  by_cases hp:p=0
  ·simp[hp]
  ·have hp':¬(p:Int)=0:=by omega
   by_cases h1:c=95
   ·simp[hp,h1]
   ·by_cases h2:c<48
    ·have:¬48≤c:=by omega
     simp[hp,h1,h2,this]
    ·by_cases h3:57<c
     ·have:¬c≤57:=by omega
      simp[hp,h1,h2,h3,this]
     ·have h2':48≤c:=by omega
      have h3':c≤57:=by omega
      simp[hp,h1,h2,h3,h2',h3']
theorem DD (n0:Nat) (m:Nat) (s:ByteArray) (p:Nat) (b:UInt8) (hb:s.data.toList[p]? =some b):lJ (pd n0) (m+1) s p=if nmL b=true then lJ (pd n0) m s (p+1) else if p=0 then some false else if nmC b=true then lJ (pd n0) m s (p+1) else some false:=by
 obtain ⟨hp,he⟩:=abW hb;simp only[lJ,AZ,hp,decide_true,if_true];rw[DG,DG];by_cases ha:b.toNat<128
 ·have hd:=decode_ascii s p hp (by rw[he];exact ha)
  rw[he] at hd;rw[hd];simp only[nmL,nmC];by_cases h1:97≤b.toNat
  ·have h1':¬((b.toNat:Int)<97):=by omega
   by_cases h2:b.toNat≤122
   ·have h2':¬(122<(b.toNat:Int)):=by omega
    simp[h1,h1',h2,h2']
   ·have h2':(122<(b.toNat:Int)):=by omega
    have e1:¬(b.toNat:Int)=95:=by omega
    have e2:¬(b.toNat:Int)≤57:=by omega
    have e3:¬b.toNat≤57:=by omega
    have e4:¬b.toNat=95:=by omega
    simp[h1,h1',h2,h2',e1,e2,e3,e4]
  ·have h1':((b.toNat:Int)<97):=by omega
   by_cases e1:b.toNat=95
   ·simp[h1,h1',e1]
   ·have e1':¬(b.toNat:Int)=95:=by omega
    by_cases e2:48≤b.toNat
    ·have e2':48≤(b.toNat:Int):=by omega
     by_cases e3:b.toNat≤57
     ·have e3':(b.toNat:Int)≤57:=by omega
      simp[h1,h1',e1,e1',e2,e2',e3,e3']
     ·have e3':¬(b.toNat:Int)≤57:=by omega
      simp[h1,h1',e1,e1',e2,e2',e3,e3']
    ·have e2':¬48≤(b.toNat:Int):=by omega
     simp[h1,h1',e1,e1',e2,e2']
 ·have hd:=(decode_high s p hp (by rw[he];omega)).1
  generalize (Utf8.decode s p)=d at hd;obtain ⟨c,q⟩:=d;simp only at hd;have a1:¬((c:Int)<97):=by omega
  have a2:122<(c:Int):=by omega
  have a3:¬((c:Int)=95∨(48≤(c:Int)∧(c:Int)≤57)):=by omega
  have b1:nmL b=false:=by simp[nmL];omega
  have b2:nmC b=false:=by simp[nmC,b1];omega
  simp[a1,a2,a3,b1,b2]
theorem MO (n0:Nat) (s:ByteArray):∀(x:List UInt8) (p m:Nat),s.data.toList.drop p=x→0<p→x.length<m→lJ (pd n0) m s p=some (x.all nmC)
 | [],p,m+1,hd,hp,hm=>by
  have:s.data.toList.length≤p:=by simpa using hd
  have hq:¬p<s.size:=by rw[ke] at this;omega
  simp only[lJ,AZ,pd,hq,decide_false,Bool.false_eq_true,if_false];rfl
 |b::x,p,m+1,hd,hp,hm=>by
  obtain ⟨g1,g2,g3⟩:=aP hd;have ih:=MO n0 s x (p+1) m g2 (by omega) (by simp at hm;omega)
  rw[DD n0 m s p b g1,if_neg (by omega:¬p=0),ih]
  simp only[List.all_cons];have:nmL b=true→nmC b=true:=fun h=>by simp[nmC,h]
  cases hl:nmL b with
  |true=>simp[this hl]
  |false=>cases hc:nmC b<;>simp
 |_,_,0,_,_,hm=>by simp at hm
theorem MV (n:Nat) (s:ByteArray) (hn:100<n):J7 n s=some (mw s):=by
 unfold J7 Kz mw;by_cases h0:s.size=0
 ·have:s.data.toList= []:=by
   have:=ke s;exact List.eq_nil_of_length_eq_zero (by omega)
  simp[h0,this,zi]
 ·have e1:¬(s.size:Int)<1:=by omega
  by_cases h1:s.size≤32
  ·have e2:¬32<(s.size:Int):=by omega
   simp only[e1,e2,decide_false,Bool.false_eq_true,if_false,h1,decide_true,Bool.true_and];obtain ⟨m,rfl⟩:∃m,n=m+1:=⟨n-1,by omega⟩
   cases hx:s.data.toList with
   |nil=>have:=ke s;rw[hx] at this;simp at this;omega
   |cons b l=>
    have hl:l.length<32:=by have:=ke s;rw[hx] at this;simp at this;omega
    rw[DD (m+1) m s 0 b (by rw[hx];rfl)]
    simp only[if_true,zi];cases hb:nmL b with
    |false=>simp
    |true=>
     simp only[if_true,Bool.true_and];exact MO (m+1) s l 1 m (by rw[hx];rfl) (by omega) (by omega)
  ·have e2:32<(s.size:Int):=by omega
   simp only[e1,e2,decide_false,decide_true,Bool.false_eq_true,if_false,if_true,h1,Bool.false_and]
theorem U0 (n0:Nat) (m:Nat) (s:ByteArray) (p:Nat) (hs:s.size<4294967296) (b:UInt8) (hb:s.data.toList[p]? =some b):mS (rJ n0) (m+1) s (p:Int)=if nmC b=true then mS (rJ n0) m s ((p+1:Nat):Int) else some false:=by
 have hp:p<s.size:=by have:=(List.getElem?_eq_some_iff.1 hb).1;rwa[ke] at this
 have hq:(p:Int)<(s.size:Int):=by omega
 have hi:uw s (p:Int)=some b:=by simp[uw];simpa using hb
 simp only[mS,AQ,lL,hq,decide_true,if_true,hi,Option.bind_some,bB hp hs];simp only[nmC,nmL];by_cases h1:97≤b.toNat
 ·have h1':¬((b.toNat:Int)<97):=by omega
  by_cases h2:b.toNat≤122
  ·have h2':¬(122<(b.toNat:Int)):=by omega
   simp[h1,h1',h2,h2']
  ·have h2':(122<(b.toNat:Int)):=by omega
   have e1:¬(b.toNat:Int)=95:=by omega
   have e2:¬(b.toNat:Int)<48:=by omega
   have e5:57<(b.toNat:Int):=by omega
   have e3:¬b.toNat≤57:=by omega
   have e4:¬b.toNat=95:=by omega
   simp[h1,h1',h2,h2',e1,e2,e3,e4,e5]
 ·have h1':((b.toNat:Int)<97):=by omega
  by_cases e2:48≤b.toNat
  ·have e2':¬(b.toNat:Int)<48:=by omega
   by_cases e3:b.toNat≤57
   ·have e3':¬57<(b.toNat:Int):=by omega
    simp[h1,h1',e2,e2',e3,e3']
   ·have e3':57<(b.toNat:Int):=by omega
    by_cases e1:b.toNat=95
    ·simp[e1]
    ·have e1':¬(b.toNat:Int)=95:=by omega
     simp[h1,h1',e2,e2',e3,e3',e1,e1']
  ·have e2':(b.toNat:Int)<48:=by omega
   have e1:¬b.toNat=95:=by omega
   have e1':¬(b.toNat:Int)=95:=by omega
   simp[h1,h1',e2,e2',e1,e1']
theorem MM (n0:Nat) (s:ByteArray) (hs:s.size<4294967296):∀(x:List UInt8) (p m:Nat),s.data.toList.drop p=x→x.length<m→mS (rJ n0) m s (p:Int)=some (x.all nmC)
 | [],p,m+1,hd,hm=>by
  have:s.data.toList.length≤p:=by simpa using hd
  have hq:¬(p:Int)<(s.size:Int):=by rw[ke] at this;omega
  simp only[mS,AQ,rJ,hq,decide_false,Bool.false_eq_true,if_false];rfl
 |b::x,p,m+1,hd,hm=>by
  obtain ⟨g1,g2,g3⟩:=aP hd;have ih:=MM n0 s hs x (p+1) m g2 (by simp at hm;omega)
  rw[U0 n0 m s p hs b g1,ih];simp only[List.all_cons];cases hc:nmC b<;>simp
 |_,_,0,_,hm=>by simp at hm
theorem MS (n:Nat) (s:ByteArray) (hn:100<n):J5 n s=some (mw s):=by
 unfold J5 Kt mw;by_cases h0:s.size=0
 ·have:s.data.toList= []:=by
   have:=ke s;exact List.eq_nil_of_length_eq_zero (by omega)
  simp[h0,this,zi]
 ·have e1:((s.size:Int)==0)=false:=by rw[beq_eq_false_iff_ne];omega
  by_cases h1:s.size≤32
  ·have e2:¬32<(s.size:Int):=by omega
   simp only[e1,e2,decide_false,Bool.false_eq_true,if_false,h1,decide_true,Bool.true_and];cases hx:s.data.toList with
   |nil=>have:=ke s;rw[hx] at this;simp at this;omega
   |cons b l=>
    have hi:uw s 0=some b:=by simp only[uw,hx];rfl
    have hl:l.length<32:=by have:=ke s;rw[hx] at this;simp at this;omega
    simp only[hi,Option.bind_some,zi];have:=MM n s (by omega) s.data.toList 0 n rfl (by rw[ke];omega)
    rw[show ((0:Nat):Int)=0 from rfl,hx,List.all_cons] at this;rw[this];by_cases h3:97≤b.toNat
    ·have h3':¬((b.toNat:Int)<97):=by omega
     by_cases h4:b.toNat≤122
     ·have h4':¬(122<(b.toNat:Int)):=by omega
      have hb:nmL b=true:=by simp[nmL,h3,h4]
      simp[h3',h4',hb,nmC]
     ·have h4':(122<(b.toNat:Int)):=by omega
      have hb:nmL b=false:=by simp[nmL];omega
      simp[h3',h4',hb]
    ·have h3':((b.toNat:Int)<97):=by omega
     have hb:nmL b=false:=by simp[nmL];omega
     simp[h3',hb]
  ·have e2:32<(s.size:Int):=by omega
   simp only[e1,e2,decide_false,decide_true,Bool.false_eq_true,if_false,if_true,h1,Bool.false_and]
end Go.Proofs.YtmealahmjddpcaaGreatDoor
end
noncomputable section
namespace Go.Proofs.YtmealahmjddpcaaGreatDoor
open Go.Sim
theorem zk {β:Type} (d:β) (k:ByteArray) (v:β) (x:ByteArray):∀m:List (ByteArray×β),eS (fg m k v) x d=if x=k then v else eS m x d
 | []=>by simp[fg,eS]
 |p::m=>by
  simp only[fg];by_cases h:k=p.1
  ·simp only[h,if_true,eS];by_cases h2:x=p.1
   ·simp[h2]
   ·simp[h2]
  ·simp only[h,if_false,eS];by_cases h2:x=p.1
   ·have:¬x=k:=fun e=>h (e.symm.trans h2)
    simp[h2];intro e;exact absurd e.symm h
   ·simp only[h2,if_false];exact zk d k v x m
def gu (x:ByteArray):List ByteArray→Bool
 | []=>false
 |y::l=>decide (x=y)||gu x l
theorem H7 (x:ByteArray):∀(a b:List ByteArray),gu x (a++b)=(gu x a||gu x b)
 | [],b=>by simp[gu]
 |y::a,b=>by simp[gu,H7 x a b,Bool.or_assoc]
def lD:List ByteArray→List aL→Bool
 |_,[]=>true
 |seen,c::cs=>mw c.bk&&(!gu c.bk seen&&(kOK c.ar&&lD (seen++ [c.bk]) cs))
def xq (seen:List ByteArray) (T:aj):Bool:=mw T.bk&&(!gu T.bk seen&&(decide (1≤T.az)&&(decide (T.az≤(T.af.length:Int))&&lD [] T.af)))
def g9:List ByteArray→List aj→Bool
 |_,[]=>true
 |seen,T::Ts=>xq seen T&&g9 (seen++ [T.bk]) Ts
def yR (m:List (ByteArray×Bool)) (seen:List ByteArray):Prop:=∀x,eS m x false=gu x seen
theorem yR.put {m:List (ByteArray×Bool)} {seen:List ByteArray} (h:yR m seen) (k:ByteArray):yR (fg m k true) (seen++ [k]):=fun x=>by
 rw[zk,h x,H7];by_cases hx:x=k
 ·simp[hx,gu]
 ·simp[hx,gu]
theorem JJ (k:List aj→Int→Int→ByteArray→Int→Int→List aL→Int→List (ByteArray×Bool)→aj→Option Bool) (cs:List aL) (hl:cs.length≤8) (a1:List aj) (a2 a3:Int) (a4:ByteArray) (a5 a6:Int) (a7:List aL) (a8:Int) (a9:List (ByteArray×Bool)) (T:aj):∀(x:List aL) (i m:Nat) (mp:List (ByteArray×Bool)) (seen:List ByteArray),cs.drop i=x→x.length+200<m→yR mp seen→
  wj k m a1 a2 a3 a4 a5 a6 a7 a8 cs (cs.length:Int) (i:Int) a9 mp T=if lD seen x=true then k a1 a2 a3 a4 a5 a6 a7 a8 a9 T else some false
 | [],i,m+1,mp,seen,hd,hm,hs=>by
  have:cs.length≤i:=by simpa using hd
  have hq:¬((i:Int)<(cs.length:Int)):=by omega
  simp only[wj,EX,hq,decide_false,Bool.false_eq_true,if_false,lD,if_true]
 |c::x,i,m+1,mp,seen,hd,hm,hs=>by
  obtain ⟨g1,g2,g3⟩:=aP hd;have hq:(i:Int)<(cs.length:Int):=by omega
  simp at hm;have ih:=JJ k cs hl a1 a2 a3 a4 a5 a6 a7 a8 a9 T x (i+1) m _ _ g2 (by omega) (hs.put c.bk)
  simp only[wj,EX,hq,decide_true,if_true,aW,g1,Option.bind_some,MV m c.bk (by omega),hs c.bk,bB g3 (by omega),ih,lD]
  rcases Bool.eq_false_or_eq_true (mw c.bk) with hv|hv<;>rcases Bool.eq_false_or_eq_true (gu c.bk seen) with h2|h2<;>by_cases h3:c.ar=3<;>by_cases h4:c.ar=4<;>by_cases h5:c.ar=5<;>simp[hv,h2,h3,h4,h5,kOK]
 |_,_,0,_,_,_,hm,_=>by simp at hm
theorem JI (n0:Nat) (ts:List aj) (hl:ts.length≤8) (hc:∀T∈ts,T.af.length≤8):∀(x:List aj) (i m:Nat) (mp:List (ByteArray×Bool)) (seen:List ByteArray),ts.drop i=x→x.length+1000<m→yR mp seen→
  th (AG n0) m ts (ts.length:Int) (i:Int) mp=some (g9 seen x)
 | [],i,m+1,mp,seen,hd,hm,hs=>by
  have:ts.length≤i:=by simpa using hd
  have hq:¬((i:Int)<(ts.length:Int)):=by omega
  simp only[th,EV,AG,hq,decide_false,Bool.false_eq_true,if_false,g9]
 |T::x,i,m+1,mp,seen,hd,hm,hs=>by
  obtain ⟨g1,g2,g3⟩:=aP hd;have hq:(i:Int)<(ts.length:Int):=by omega
  simp at hm;have hT:=hc T (List.mem_of_getElem? g1);have ih:=JI n0 ts hl hc x (i+1) m _ _ g2 (by omega) (hs.put T.bk)
  have hcol:=JJ (EW (th (AG n0) m) m) T.af hT ts (ts.length:Int) (i:Int) T.bk T.az T.az T.af (T.af.length:Int) (fg mp T.bk true) T T.af 0 m [] [] rfl (by omega) (fun x=>by simp[eS,gu])
  rw[show ((0:Nat):Int)=0 from rfl] at hcol;simp only[th,EV,hq,decide_true,if_true,aW,g1,Option.bind_some,MV m T.bk (by omega),hs T.bk,hcol,EW,bB g3 (by omega),ih,g9,xq]
  have q1:decide (T.az<1)= !decide (1≤T.az):=by rw[←decide_not];exact decide_eq_decide.2 (by omega)
  have q2:decide ((T.af.length:Int)<T.az)= !decide (T.az≤(T.af.length:Int)):=by rw[←decide_not];exact decide_eq_decide.2 (by omega)
  rw[q1,q2];rcases Bool.eq_false_or_eq_true (mw T.bk) with hv|hv<;>rcases Bool.eq_false_or_eq_true (gu T.bk seen) with h2|h2<;>rcases Bool.eq_false_or_eq_true (decide (1≤T.az)) with h3|h3<;>rcases Bool.eq_false_or_eq_true (decide (T.az≤(T.af.length:Int))) with h4|h4<;>rcases Bool.eq_false_or_eq_true (lD [] T.af) with h5|h5<;>simp only[hv,h2,h3,h4,h5,Bool.not_true,Bool.not_false,Bool.false_eq_true,if_false,if_true,Bool.true_and,Bool.false_and]
 |_,_,0,_,_,_,hm,_=>by simp at hm
theorem adp (n:Nat) (s:J) (hl:s.ae.length≤8) (hc:∀T∈s.ae,T.af.length≤8) (hn:2000<n):F76 n s=some (g9 [] s.ae):=
 JI n s.ae hl hc s.ae 0 n [] [] rfl (by omega) (fun x=>by simp[eS,gu])
theorem JE (k:aj→Option Bool) (s:J) (hl:s.ae.length≤8) (i:Nat) (hi:i≤s.ae.length) (T:aj):∀(x:List aj) (j m:Nat),(s.ae.take i).drop j=x→x.length<m→j≤i→wg k m (i:Int) (j:Int) s T=if gu T.bk (x.map (·.bk))=true then some false else k T
 | [],j,m+1,hd,hm,hj=>by
  have:(s.ae.take i).length≤j:=by simpa using hd
  rw[List.length_take] at this;have hq:¬((j:Int)<(i:Int)):=by omega
  simp only[wg,EM,hq,decide_false,Bool.false_eq_true,if_false,List.map_nil,gu]
 |G::x,j,m+1,hd,hm,hj=>by
  obtain ⟨g1,g2,g3⟩:=aP hd;rw[List.length_take] at g3;have hq:(j:Int)<(i:Int):=by omega
  have hg:s.ae[j]? =some G:=by rw[List.getElem?_take,if_pos (by omega)] at g1;exact g1
  have ih:=JE k s hl i hi T x (j+1) m g2 (by simp at hm;omega) (by omega)
  have hw:w64 ((j:Int)+1)=((j+1:Nat):Int):=by rw[bZ (by omega) (by omega)];rfl
  simp only[wg,EM,hq,decide_true,if_true,aW,hg,Option.bind_some,hw,ih,List.map_cons,gu];by_cases h:G.bk=T.bk
  ·simp[h]
  ·have h':¬T.bk=G.bk:=fun e=>h e.symm
   simp[h,h']
 |_,_,0,_,hm,_=>by simp at hm
theorem JD (k:Int→Int→List aL→Int→aL→aL→Int→Bool→aj→Option Bool) (T:aj) (hl:T.af.length≤8) (i:Nat) (c:aL) (hc:T.af[i]? =some c) (a1 a2:Int) (a3:List aL) (a4:Int) (a5 a6:aL) (a7:Int) (a8:Bool):∀(x:List aL) (j m:Nat),(T.af.take i).drop j=x→x.length<m→j≤i→
  we k m (i:Int) (j:Int) a1 a2 a3 a4 a5 a6 a7 a8 T=if gu c.bk (x.map (·.bk))=true then some false else k a1 a2 a3 a4 a5 a6 a7 a8 T
 | [],j,m+1,hd,hm,hj=>by
  have:(T.af.take i).length≤j:=by simpa using hd
  have hi:=(List.getElem?_eq_some_iff.1 hc).1;rw[List.length_take] at this;have hq:¬((j:Int)<(i:Int)):=by omega
  simp only[we,EL,hq,decide_false,Bool.false_eq_true,if_false,List.map_nil,gu]
 |G::x,j,m+1,hd,hm,hj=>by
  obtain ⟨g1,g2,g3⟩:=aP hd;have hi:=(List.getElem?_eq_some_iff.1 hc).1;rw[List.length_take] at g3;have hq:(j:Int)<(i:Int):=by omega
  have hg:T.af[j]? =some G:=by rw[List.getElem?_take,if_pos (by omega)] at g1;exact g1
  have ih:=JD k T hl i c hc a1 a2 a3 a4 a5 a6 a7 a8 x (j+1) m g2 (by simp at hm;omega) (by omega)
  have hw:w64 ((j:Int)+1)=((j+1:Nat):Int):=by rw[bZ (by omega) (by omega)];rfl
  simp only[we,EL,hq,decide_true,if_true,aW,hg,hc,Option.bind_some,hw,ih,List.map_cons,gu];by_cases h:G.bk=c.bk
  ·simp[h]
  ·have h':¬c.bk=G.bk:=fun e=>h e.symm
   simp[h,h']
 |_,_,0,_,hm,_=>by simp at hm
theorem JC (n0:Nat) (T:aj) (hl:T.af.length≤8):∀(x:List aL) (i m:Nat),T.af.drop i=x→x.length+200<m→td (AE n0) m (T.af.length:Int) (i:Int) T=some (lD ((T.af.take i).map (·.bk)) x)
 | [],i,m+1,hd,hm=>by
  have:T.af.length≤i:=by simpa using hd
  have hq:¬((i:Int)<(T.af.length:Int)):=by omega
  simp only[td,EJ,AE,hq,decide_false,Bool.false_eq_true,if_false,lD]
 |c::x,i,m+1,hd,hm=>by
  obtain ⟨g1,g2,g3⟩:=aP hd;have hq:(i:Int)<(T.af.length:Int):=by omega
  simp at hm;have ih:=JC n0 T hl x (i+1) m g2 (by omega)
  have hin:=fun b=>JD (EK (td (AE n0) m) m) T hl i c g1 (T.af.length:Int) (i:Int) T.af (i:Int) c c c.ar b (T.af.take i) 0 m rfl (by simp;omega) (by omega)
  rw[show ((0:Nat):Int)=0 from rfl] at hin;rw[List.take_succ,g1] at ih;simp only[Option.toList_some,List.map_append,List.map_cons,List.map_nil] at ih;simp only[td,EJ,hq,decide_true,if_true,aW,g1,Option.bind_some,MS m c.bk (by omega),MR,hin,EK,bB g3 (by omega),ih,lD]
  rcases Bool.eq_false_or_eq_true (mw c.bk) with hv|hv<;>rcases Bool.eq_false_or_eq_true (kOK c.ar) with h3|h3<;>rcases Bool.eq_false_or_eq_true (gu c.bk ((T.af.take i).map (·.bk))) with h2|h2<;>simp only[hv,h2,h3,Bool.not_true,Bool.not_false,Bool.false_eq_true,if_false,if_true,Bool.true_and,Bool.false_and]
 |_,_,0,_,hm=>by simp at hm
theorem adl (n:Nat) (s:J) (hl:s.ae.length≤8) (i:Nat) (T:aj) (hT:s.ae[i]? =some T) (hc:T.af.length≤8) (hn:1000<n):F83 n s (i:Int)=some (xq ((s.ae.take i).map (·.bk)) T):=by
 have hi:=(List.getElem?_eq_some_iff.1 hT).1;unfold F83 Qa xq;simp only[aW,hT,Option.bind_some,MS n T.bk (by omega)]
 rcases Bool.eq_false_or_eq_true (mw T.bk) with OI|OI
 rotate_left
 ·simp[OI]
 ·simp only[OI,Bool.not_true,Bool.false_eq_true,if_false,Bool.true_and];have h0:=JE (EI n) s hl i (by omega) T (s.ae.take i) 0 n rfl (by simp;omega) (by omega)
  rw[show ((0:Nat):Int)=0 from rfl] at h0;have h1:=JC n T hc T.af 0 n rfl (by omega)
  rw[show ((0:Nat):Int)=0 from rfl,List.take_zero,List.map_nil] at h1;simp only[h0,EI,h1];by_cases e0:T.af.length=0
  ·have e1:((T.af.length:Int)==0)=true:=by simp[e0]
   by_cases h3:1≤T.az
   ·have:¬T.az≤(T.af.length:Int):=by omega
    simp only[e1,if_true,this,decide_false,Bool.false_and,Bool.and_false]
   ·simp only[e1,if_true,h3,decide_false,Bool.false_and,Bool.and_false]
  ·have e1:((T.af.length:Int)==0)=false:=by rw[beq_eq_false_iff_ne];omega
   simp only[e1,Bool.false_eq_true,if_false];by_cases h3:T.az<1
   ·have:¬1≤T.az:=by omega
    simp[h3,this]
   ·have h3':1≤T.az:=by omega
    by_cases h4:(T.af.length:Int)<T.az
    ·have:¬T.az≤(T.af.length:Int):=by omega
     simp[h3,h3',h4,this]
    ·have h4':T.az≤(T.af.length:Int):=by omega
     rcases Bool.eq_false_or_eq_true (gu T.bk ((s.ae.take i).map (·.bk))) with h2|h2<;>simp only[h2,h3,h3',h4,h4',decide_true,decide_false,Bool.not_true,Bool.not_false,Bool.false_eq_true,if_false,if_true,Bool.true_and,Bool.false_and]
theorem Jf:∀{cs:List aL} {seen:List ByteArray},lD seen cs=true→dL (cs.map (·.ar))=true
 | [],_,_=>rfl
 |c::cs,seen,h=>by
  simp only[lD,Bool.and_eq_true] at h;simp only[List.map_cons,dL,List.all_cons,Bool.and_eq_true];exact ⟨h.2.2.1,Jf h.2.2.2⟩
theorem ZV {seen:List ByteArray} {T:aj} (hc:T.af.length≤8) (h:xq seen T=true):dk T:=by
 simp only[xq,Bool.and_eq_true,decide_eq_true_eq] at h;exact ⟨h.2.2.1,h.2.2.2.1,hc,Jf h.2.2.2.2⟩
theorem FV:∀{ts:List aj} {seen:List ByteArray},(∀T∈ts,T.af.length≤8)→g9 seen ts=true→∀T∈ts,dk T
 | [],_,_,_,T,hT=>by simp at hT
 |G::ts,seen,hc,h,T,hT=>by
  simp only[g9,Bool.and_eq_true] at h;rcases List.mem_cons.1 hT with rfl|hT
  ·exact ZV (hc _ (by simp)) h.1
  ·exact FV (fun T hT=>hc T (by simp[hT])) h.2 T hT
end Go.Proofs.YtmealahmjddpcaaGreatDoor
end
noncomputable section
namespace Go.Proofs.YtmealahmjddpcaaGreatDoor
open Go.Sim
def iY (tc:List aL):List aL→List Int→Bool
 |_,[]=>true
 | [],_::_=>false
 |g::gs,c::cs=>match idx tc c with|none=>false|some x=>x.ar==g.ar&&iY tc gs cs
def Vw (s:J) (T:aj) (r:aB):Bool:=match idx s.ae r.aD with|none=>false|some G=>((r.af.length:Int)==G.az)&&iY T.af G.af r.af
def ll (s:J) (T:aj):List aB→Bool
 | []=>true
 |r::rs=>Vw s T r&&ll s T rs
def allRefs (s:J):List aj→Bool
 | []=>true
 |T::ts=>ll s T T.aU&&allRefs s ts
theorem pS {α:Type} (xs:List α) (i:Int):(i<0∧idx xs i=none)∨(¬i<0∧¬i<(xs.length:Int)∧idx xs i=none)∨(¬i<0∧i<(xs.length:Int)∧∃x,idx xs i=some x):=by
 by_cases h:i<0
 ·exact .inl ⟨h,by unfold idx;rw[if_neg (by omega)]⟩
 ·by_cases h2:i<(xs.length:Int)
  ·refine .inr (.inr ⟨h,h2,xs[i.toNat]'(by omega),?_⟩)
   unfold idx;rw[if_pos (by omega),List.getElem?_eq_getElem (by omega)]
  ·exact .inr (.inl ⟨h,h2,Cg (by omega) h2⟩)
theorem JH (k:List aj→Int→Int→List aB→Int→Int→Int→List aj→Int→J→aj→aB→Option Bool) (T G:aj) (cs:List Int) (hc:cs.length≤G.af.length) (hg:G.af.length≤8) (a1:List aj) (a2 a3:Int) (a4:List aB) (a5 a6 a7:Int) (a8:List aj) (a9:Int) (s:J) (r:aB):∀(x:List Int) (i m:Nat),cs.drop i=x→x.length<m→
  wi k m a1 a2 a3 a4 a5 a6 a7 a8 a9 cs (cs.length:Int) (i:Int) s T G r=if iY T.af (G.af.drop i) x=true then k a1 a2 a3 a4 a5 a6 a7 a8 a9 s T r else some false
 | [],i,m+1,hd,hm=>by
  have:cs.length≤i:=by simpa using hd
  have hq:¬((i:Int)<(cs.length:Int)):=by omega
  simp only[wi,EU,hq,decide_false,Bool.false_eq_true,if_false,iY,if_true]
 |c::x,i,m+1,hd,hm=>by
  obtain ⟨g1,g2,g3⟩:=aP hd;have hq:(i:Int)<(cs.length:Int):=by omega
  have hlt:i<G.af.length:=by omega
  have hgi:G.af[i]? =some G.af[i]:=List.getElem?_eq_getElem hlt;have hdr:G.af.drop i=G.af[i]::G.af.drop (i+1):=List.drop_eq_getElem_cons hlt;generalize G.af[i]=g at hgi hdr;have ih:=JH k T G cs hc hg a1 a2 a3 a4 a5 a6 a7 a8 a9 s r x (i+1) m g2 (by simp at hm;omega)
  simp only[wi,EU,hq,decide_true,if_true,aW,g1,hgi,Option.bind_some,bB g3 (by omega),ih]
  rw[hdr];simp only[iY];rcases pS T.af c with ⟨h1,h2⟩|⟨h1,h3,h2⟩|⟨h1,h3,y,h2⟩
  ·simp only[h1,h2,decide_true,if_true,Bool.false_eq_true,if_false]
  ·simp only[h1,h2,h3,decide_false,Bool.not_false,if_true,Bool.false_eq_true,if_false]
  ·simp only[h1,h2,h3,decide_false,decide_true,Bool.not_true,Bool.false_eq_true,if_false,Option.bind_some];by_cases h4:y.ar=g.ar
   ·simp[h4]
   ·simp[h4]
 |_,_,0,_,hm=>by simp at hm
theorem JG (k:List aj→Int→Int→J→Option Bool) (s:J) (hs:∀t G,idx s.ae t=some G→dk G) (T:aj) (rs:List aB) (hl:rs.length≤8) (a1:List aj) (a2 a3:Int):∀(x:List aB) (i m:Nat),rs.drop i=x→x.length+100<m→
  tg k m a1 a2 a3 rs (rs.length:Int) (i:Int) s T=if ll s T x=true then k a1 a2 a3 s else some false
 | [],i,m+1,hd,hm=>by
  have:rs.length≤i:=by simpa using hd
  have hq:¬((i:Int)<(rs.length:Int)):=by omega
  simp only[tg,ES,hq,decide_false,Bool.false_eq_true,if_false,ll,if_true]
 |r::x,i,m+1,hd,hm=>by
  obtain ⟨g1,g2,g3⟩:=aP hd;have hq:(i:Int)<(rs.length:Int):=by omega
  simp at hm;have ih:=JG k s hs T rs hl a1 a2 a3 x (i+1) m g2 (by omega)
  simp only[tg,ES,hq,decide_true,if_true,aW,g1,Option.bind_some,ll,Vw];rcases pS s.ae r.aD with ⟨h1,h2⟩|⟨h1,h3,h2⟩|⟨h1,h3,G,h2⟩
  ·simp only[h1,h2,decide_true,if_true,Bool.false_and,Bool.false_eq_true,if_false]
  ·simp only[h1,h2,h3,decide_false,Bool.not_false,if_true,Bool.false_and,Bool.false_eq_true,if_false]
  ·have hG:=hs _ _ h2;have k2:=hG.bQ;have k3:=hG.aC;simp only[h1,h2,h3,decide_false,decide_true,Bool.not_true,Bool.false_eq_true,if_false,Option.bind_some];by_cases h4:(r.af.length:Int)=G.az
   ·have e:((r.af.length:Int) !=G.az)=false:=by simp[h4]
    have e':((r.af.length:Int)==G.az)=true:=by simp[h4]
    have hin:=JH (ET (tg k m) m) T G r.af (by omega) k3 a1 a2 a3 rs (rs.length:Int) (i:Int) r.aD s.ae (s.ae.length:Int) s r r.af 0 m rfl (by omega)
    rw[show ((0:Nat):Int)=0 from rfl,List.drop_zero] at hin;simp only[e,e',Bool.false_eq_true,if_false,hin,ET,bB g3 (by omega),ih,Bool.true_and]
    rcases Bool.eq_false_or_eq_true (iY T.af G.af r.af) with hv|hv<;>simp only[hv,if_true,Bool.true_and,Bool.false_and,Bool.false_eq_true,if_false]
   ·have e:((r.af.length:Int) !=G.az)=true:=by simpa using h4
    have e':((r.af.length:Int)==G.az)=false:=by simpa using h4
    simp only[e,e',if_true,Bool.false_and,Bool.false_eq_true,if_false]
 |_,_,0,_,hm=>by simp at hm
theorem JF (n0:Nat) (s:J) (hs:∀t G,idx s.ae t=some G→dk G) (ts:List aj) (hl:ts.length≤8) (hr:∀T∈ts,T.aU.length≤4):∀(x:List aj) (i m:Nat),ts.drop i=x→x.length+200<m→
  tf (AF n0) m ts (ts.length:Int) (i:Int) s=some (allRefs s x)
 | [],i,m+1,hd,hm=>by
  have:ts.length≤i:=by simpa using hd
  have hq:¬((i:Int)<(ts.length:Int)):=by omega
  simp only[tf,EP,AF,hq,decide_false,Bool.false_eq_true,if_false,allRefs]
 |T::x,i,m+1,hd,hm=>by
  obtain ⟨g1,g2,g3⟩:=aP hd;have hq:(i:Int)<(ts.length:Int):=by omega
  simp at hm;have hT:=hr T (List.mem_of_getElem? g1);have ih:=JF n0 s hs ts hl hr x (i+1) m g2 (by omega)
  have hin:=JG (ER (tf (AF n0) m) m) s hs T T.aU (by omega) ts (ts.length:Int) (i:Int) T.aU 0 m rfl (by omega)
  rw[show ((0:Nat):Int)=0 from rfl] at hin;simp only[tf,EP,hq,decide_true,if_true,aW,g1,Option.bind_some,hin,ER,bB g3 (by omega),ih,allRefs]
  rcases Bool.eq_false_or_eq_true (ll s T T.aU) with hv|hv<;>simp only[hv,if_true,Bool.true_and,Bool.false_and,Bool.false_eq_true,if_false]
 |_,_,0,_,hm=>by simp at hm
theorem ado (n:Nat) (s:J) (hs:∀t G,idx s.ae t=some G→dk G) (hl:s.ae.length≤8) (hr:∀T∈s.ae,T.aU.length≤4) (hn:1000<n):F77 n s=some (allRefs s s.ae):=
 JF n s hs s.ae hl hr s.ae 0 n rfl (by omega)
theorem JB (k:List aB→Int→Int→Int→List aj→Int→List Int→Int→List aj→Int→aj→aj→Int→J→aj→aB→Option Bool) (s:J) (T G:aj) (r:aB) (hG:idx s.ae r.aD=some G) (cs:List Int) (hc:cs.length≤G.af.length) (hg:G.af.length≤8) (a1:List aB) (a2 a3 a4:Int) (a5:List aj) (a6:Int) (a7:List Int) (a8:Int) (a9:List aj) (a10:Int) (a11 a12:aj) (a13:Int):∀(x:List Int) (i m:Nat),cs.drop i=x→x.length<m→
  wc k m a1 a2 a3 a4 a5 a6 a7 a8 a9 a10 a11 a12 a13 cs (cs.length:Int) (i:Int) s T r=if iY T.af (G.af.drop i) x=true then k a1 a2 a3 a4 a5 a6 a7 a8 a9 a10 a11 a12 a13 s T r else some false
 | [],i,m+1,hd,hm=>by
  have:cs.length≤i:=by simpa using hd
  have hq:¬((i:Int)<(cs.length:Int)):=by omega
  simp only[wc,EH,hq,decide_false,Bool.false_eq_true,if_false,iY,if_true]
 |c::x,i,m+1,hd,hm=>by
  obtain ⟨g1,g2,g3⟩:=aP hd;have hq:(i:Int)<(cs.length:Int):=by omega
  have hlt:i<G.af.length:=by omega
  have hgi:G.af[i]? =some G.af[i]:=List.getElem?_eq_getElem hlt;have hdr:G.af.drop i=G.af[i]::G.af.drop (i+1):=List.drop_eq_getElem_cons hlt;generalize G.af[i]=g at hgi hdr;have ih:=JB k s T G r hG cs hc hg a1 a2 a3 a4 a5 a6 a7 a8 a9 a10 a11 a12 a13 x (i+1) m g2 (by simp at hm;omega)
  simp only[wc,EH,hq,decide_true,if_true,aW,g1,hG,hgi,Option.bind_some,bB g3 (by omega),ih]
  rw[hdr];simp only[iY];rcases pS T.af c with ⟨h1,h2⟩|⟨h1,h3,h2⟩|⟨h1,h3,y,h2⟩
  ·simp only[h1,h2,decide_true,if_true,Bool.false_eq_true,if_false]
  ·simp only[h1,h2,h3,decide_false,Bool.not_false,if_true,Bool.false_eq_true,if_false]
  ·simp only[h1,h2,h3,decide_false,decide_true,Bool.not_true,Bool.false_eq_true,if_false,Option.bind_some];by_cases h4:y.ar=g.ar
   ·simp[h4]
   ·simp[h4]
 |_,_,0,_,hm=>by simp at hm
theorem JA (n0:Nat) (s:J) (hs:∀t G,idx s.ae t=some G→dk G) (T:aj) (rs:List aB) (hl:rs.length≤8):∀(x:List aB) (i m:Nat),rs.drop i=x→x.length+100<m→
  ta (AD n0) m rs (rs.length:Int) (i:Int) s T=some (ll s T x)
 | [],i,m+1,hd,hm=>by
  have:rs.length≤i:=by simpa using hd
  have hq:¬((i:Int)<(rs.length:Int)):=by omega
  simp only[ta,EF,AD,hq,decide_false,Bool.false_eq_true,if_false,ll]
 |r::x,i,m+1,hd,hm=>by
  obtain ⟨g1,g2,g3⟩:=aP hd;have hq:(i:Int)<(rs.length:Int):=by omega
  simp at hm;have ih:=JA n0 s hs T rs hl x (i+1) m g2 (by omega)
  simp only[ta,EF,hq,decide_true,if_true,aW,g1,Option.bind_some,ll,Vw];rcases pS s.ae r.aD with ⟨h1,h2⟩|⟨h1,h3,h2⟩|⟨h1,h3,G,h2⟩
  ·simp only[h1,h2,decide_true,if_true,Bool.false_and]
  ·simp only[h1,h2,h3,decide_false,Bool.not_false,if_true,Bool.false_and,Bool.false_eq_true,if_false]
  ·have hG:=hs _ _ h2;have k2:=hG.bQ;have k3:=hG.aC;simp only[h1,h2,h3,decide_false,decide_true,Bool.not_true,Bool.false_eq_true,if_false,Option.bind_some];by_cases h4:(r.af.length:Int)=G.az
   ·have e:((r.af.length:Int) !=G.az)=false:=by simp[h4]
    have e':((r.af.length:Int)==G.az)=true:=by simp[h4]
    have hin:=JB (EG (ta (AD n0) m) m) s T G r h2 r.af (by omega) k3 rs (rs.length:Int) (i:Int) r.aD s.ae (s.ae.length:Int) r.af (r.af.length:Int) s.ae r.aD G G G.az r.af 0 m rfl (by omega)
    rw[show ((0:Nat):Int)=0 from rfl,List.drop_zero] at hin;simp only[e,e',Bool.false_eq_true,if_false,hin,EG,bB g3 (by omega),ih,Bool.true_and]
    rcases Bool.eq_false_or_eq_true (iY T.af G.af r.af) with hv|hv<;>simp only[hv,if_true,Bool.true_and,Bool.false_and,Bool.false_eq_true,if_false]
   ·have e:((r.af.length:Int) !=G.az)=true:=by simpa using h4
    have e':((r.af.length:Int)==G.az)=false:=by simpa using h4
    simp only[e,e',if_true,Bool.false_and]
 |_,_,0,_,hm=>by simp at hm
theorem adk (n:Nat) (s:J) (hs:∀t G,idx s.ae t=some G→dk G) (i:Nat) (T:aj) (hT:s.ae[i]? =some T) (hr:T.aU.length≤4) (hn:1000<n):F84 n s (i:Int)=some (ll s T T.aU):=by
 unfold F84 P9;simp only[aW,hT,Option.bind_some];exact JA n s hs T T.aU (by omega) T.aU 0 n rfl (by omega)
def jY (ks:List Int):List ag→Int
 | []=>0
 |p::ps=>if kB ks [] p=0 then jY ks ps else kB ks [] p
def qE:List aj→Int
 | []=>0
 |T::ts=>if jY (bl T) T.bK=0 then qE ts else jY (bl T) T.bK
theorem JR (k:List aj→Int→Int→J→Option Int) (ks:List Int) (hk:ks.length≤8) (s:J) (ps:List ag) (hl:ps.length≤4) (hp:∀p∈ps,szP p≤1500000) (a1:List aj) (a2 a3:Int):∀(x:List ag) (i m:Nat),ps.drop i=x→x.length+1500000<m→m<4294967296→
  wD k m ks a1 a2 a3 ps (ps.length:Int) (i:Int) s=if jY ks x=0 then k a1 a2 a3 s else some (jY ks x)
 | [],i,m+1,hd,hm,hm'=>by
  have:ps.length≤i:=by simpa using hd
  have hq:¬((i:Int)<(ps.length:Int)):=by omega
  simp only[wD,Fp,hq,decide_false,Bool.false_eq_true,if_false,jY,if_true]
 |p::x,i,m+1,hd,hm,hm'=>by
  obtain ⟨g1,g2,g3⟩:=aP hd;have hq:(i:Int)<(ps.length:Int):=by omega
  simp at hm;have ih:=JR k ks hk s ps hl hp a1 a2 a3 x (i+1) m g2 (by omega) (by omega)
  have hpp:=hp p (List.mem_of_getElem? g1);simp only[wD,Fp,hq,decide_true,if_true,aW,g1,Option.bind_some,adn m ks [] p (by omega) (by simp;omega) (by omega) (by omega),bB g3 (by omega),ih,jY]
  by_cases h:kB ks [] p=0
  ·simp only[h,bne_self_eq_false,Bool.false_eq_true,if_false,if_true]
  ·have:(kB ks [] p !=0)=true:=by simpa using h
   simp only[h,this,if_true,if_false]
 |_,_,0,_,hm,_=>by simp at hm
theorem JM (k:Int→Int→J→Option Int) (T:aj) (s:J) (t:Int) (hT:idx s.ae t=some T) (hk:T.af.length≤8) (ps:List ag) (hl:ps.length≤4) (hp:∀p∈ps,szP p≤1500000) (a1 a2:Int):∀(x:List ag) (i m:Nat),ps.drop i=x→x.length+1500000<m→m<4294967296→
  wu k m t a1 a2 ps (ps.length:Int) (i:Int) s=if jY (bl T) x=0 then k a1 a2 s else some (jY (bl T) x)
 | [],i,m+1,hd,hm,hm'=>by
  have:ps.length≤i:=by simpa using hd
  have hq:¬((i:Int)<(ps.length:Int)):=by omega
  simp only[wu,Fb,hq,decide_false,Bool.false_eq_true,if_false,jY,if_true]
 |p::x,i,m+1,hd,hm,hm'=>by
  obtain ⟨g1,g2,g3⟩:=aP hd;have hq:(i:Int)<(ps.length:Int):=by omega
  simp at hm;have ih:=JM k T s t hT hk ps hl hp a1 a2 x (i+1) m g2 (by omega) (by omega)
  have hpp:=hp p (List.mem_of_getElem? g1);have hkl:=cA T;simp only[wu,Fb,hq,decide_true,if_true,aW,g1,Option.bind_some,rH hT (by omega) (by omega:1000<m),U2 m (bl T) [] p (by omega) (by simp;omega) (by omega) (by omega),bB g3 (by omega),ih,jY]
  by_cases h:kB (bl T) [] p=0
  ·simp only[h,bne_self_eq_false,Bool.false_eq_true,if_false,if_true]
  ·have:(kB (bl T) [] p !=0)=true:=by simpa using h
   simp only[h,this,if_true,if_false]
 |_,_,0,_,hm,_=>by simp at hm
def jX (T:aj):Bool:=decide (T.af.length≤8)&&(decide (T.aU.length≤4)&&decide (T.bK.length≤4))
theorem kD {T:aj} (h:jX T=true):T.af.length≤8∧T.aU.length≤4∧T.bK.length≤4:=by simpa[jX] using h
def szT (T:aj):Prop:=∀p∈T.bK,szP p≤1500000
theorem JQ (n0:Nat) (s:J) (hl:s.ae.length≤8) (hb:∀T∈s.ae,jX T=true) (hz:∀T∈s.ae,szT T):∀(x:List aj) (i m:Nat),s.ae.drop i=x→x.length+1500010<m→m<4294967296→
  tj (AL n0) m s.ae (s.ae.length:Int) (i:Int) s=some (qE x)
 | [],i,m+1,hd,hm,hm'=>by
  have:s.ae.length≤i:=by simpa using hd
  have hq:¬((i:Int)<(s.ae.length:Int)):=by omega
  simp only[tj,Fl,AL,hq,decide_false,Bool.false_eq_true,if_false,qE]
 |T::x,i,m+1,hd,hm,hm'=>by
  obtain ⟨g1,g2,g3⟩:=aP hd;have hq:(i:Int)<(s.ae.length:Int):=by omega
  simp at hm;have ju:=List.mem_of_getElem? g1;obtain ⟨b1,b2,b3⟩:=kD (hb T ju);have hT:idx s.ae (i:Int)=some T:=by rw[aW];exact g1
  have hkl:=cA T;have ih:=JQ n0 s hl hb hz x (i+1) m g2 (by omega) (by omega)
  have hin:=JR (Fm (tj (AL n0) m) m) (bl T) (by omega) s T.bK b3 (hz T ju) s.ae (s.ae.length:Int) (i:Int) T.bK 0 m rfl (by omega) (by omega)
  rw[show ((0:Nat):Int)=0 from rfl] at hin;simp only[tj,Fl,hq,decide_true,if_true,hT,Option.bind_some,JZ hT (by omega) (by omega:1000<m),hin,Fm,bB g3 (by omega),ih,qE]
  by_cases h:jY (bl T) T.bK=0
  ·simp only[h,if_true]
  ·simp only[h,if_false]
 |_,_,0,_,hm,_=>by simp at hm
theorem JL (n0:Nat) (s:J) (hl:s.ae.length≤8) (hb:∀T∈s.ae,jX T=true) (hz:∀T∈s.ae,szT T):∀(x:List aj) (i m:Nat),s.ae.drop i=x→x.length+1500010<m→m<4294967296→
  ti (AK n0) m (s.ae.length:Int) (i:Int) s=some (qE x)
 | [],i,m+1,hd,hm,hm'=>by
  have:s.ae.length≤i:=by simpa using hd
  have hq:¬((i:Int)<(s.ae.length:Int)):=by omega
  simp only[ti,E9,AK,hq,decide_false,Bool.false_eq_true,if_false,qE]
 |T::x,i,m+1,hd,hm,hm'=>by
  obtain ⟨g1,g2,g3⟩:=aP hd;have hq:(i:Int)<(s.ae.length:Int):=by omega
  simp at hm;have ju:=List.mem_of_getElem? g1;obtain ⟨b1,b2,b3⟩:=kD (hb T ju);have hT:idx s.ae (i:Int)=some T:=by rw[aW];exact g1
  have ih:=JL n0 s hl hb hz x (i+1) m g2 (by omega) (by omega)
  have hin:=JM (Fa (ti (AK n0) m) m) T s (i:Int) hT b1 T.bK b3 (hz T ju) (s.ae.length:Int) (i:Int) T.bK 0 m rfl (by omega) (by omega)
  rw[show ((0:Nat):Int)=0 from rfl] at hin;simp only[ti,E9,hq,decide_true,if_true,hT,Option.bind_some,hin,Fa,bB g3 (by omega),ih,qE]
  by_cases h:jY (bl T) T.bK=0
  ·simp only[h,if_true]
  ·simp only[h,if_false]
 |_,_,0,_,hm,_=>by simp at hm
theorem JS (k:J→Option Int) (s:J) (ts:List aj) (hl:ts.length≤8):∀(x:List aj) (i m:Nat),ts.drop i=x→x.length<m→wE k m ts (ts.length:Int) (i:Int) s=if x.all jX=true then k s else some 2
 | [],i,m+1,hd,hm=>by
  have:ts.length≤i:=by simpa using hd
  have hq:¬((i:Int)<(ts.length:Int)):=by omega
  simp only[wE,Fq,hq,decide_false,Bool.false_eq_true,if_false,List.all_nil,if_true]
 |T::x,i,m+1,hd,hm=>by
  obtain ⟨g1,g2,g3⟩:=aP hd;have hq:(i:Int)<(ts.length:Int):=by omega
  have ih:=JS k s ts hl x (i+1) m g2 (by simp at hm;omega)
  simp only[wE,Fq,hq,decide_true,if_true,aW,g1,Option.bind_some,bB g3 (by omega),ih,List.all_cons,jX]
  by_cases h1:T.af.length≤8
  ·have e1:¬(8:Int)<(T.af.length:Int):=by omega
   by_cases h2:T.aU.length≤4
   ·have e2:¬(4:Int)<(T.aU.length:Int):=by omega
    by_cases h3:T.bK.length≤4
    ·have e3:¬(4:Int)<(T.bK.length:Int):=by omega
     simp only[h1,h2,h3,e1,e2,e3,decide_true,decide_false,Bool.false_eq_true,if_false,Bool.and_self,Bool.true_and]
    ·have e3:(4:Int)<(T.bK.length:Int):=by omega
     simp only[h1,h2,h3,e1,e2,e3,decide_true,decide_false,Bool.false_eq_true,if_false,if_true,Bool.and_false,Bool.false_and]
   ·have e2:(4:Int)<(T.aU.length:Int):=by omega
    simp only[h1,h2,e1,e2,decide_true,decide_false,Bool.false_eq_true,if_false,if_true,Bool.and_false,Bool.false_and]
  ·have e1:(8:Int)<(T.af.length:Int):=by omega
   simp only[h1,e1,decide_true,decide_false,Bool.false_eq_true,if_false,if_true,Bool.false_and]
 |_,_,0,_,hm=>by simp at hm
theorem JP (k:J→Option Int) (s:J) (ts:List aj) (hl:ts.length≤8):∀(x:List aj) (i m:Nat),ts.drop i=x→x.length<m→wz k m ts (ts.length:Int) (i:Int) s=if x.all jX=true then k s else some 2
 | [],i,m+1,hd,hm=>by
  have:ts.length≤i:=by simpa using hd
  have hq:¬((i:Int)<(ts.length:Int)):=by omega
  simp only[wz,Ff,hq,decide_false,Bool.false_eq_true,if_false,List.all_nil,if_true]
 |T::x,i,m+1,hd,hm=>by
  obtain ⟨g1,g2,g3⟩:=aP hd;have hq:(i:Int)<(ts.length:Int):=by omega
  have ih:=JP k s ts hl x (i+1) m g2 (by simp at hm;omega)
  simp only[wz,Ff,hq,decide_true,if_true,aW,g1,Option.bind_some,bB g3 (by omega),ih,List.all_cons,jX]
  by_cases h1:T.af.length≤8
  ·have e1:¬(8:Int)<(T.af.length:Int):=by omega
   by_cases h2:T.aU.length≤4
   ·have e2:¬(4:Int)<(T.aU.length:Int):=by omega
    by_cases h3:T.bK.length≤4
    ·have e3:¬(4:Int)<(T.bK.length:Int):=by omega
     simp only[h1,h2,h3,e1,e2,e3,decide_true,decide_false,Bool.false_eq_true,if_false,Bool.and_self,Bool.true_and]
    ·have e3:(4:Int)<(T.bK.length:Int):=by omega
     simp only[h1,h2,h3,e1,e2,e3,decide_true,decide_false,Bool.false_eq_true,if_false,if_true,Bool.and_false,Bool.false_and]
   ·have e2:(4:Int)<(T.aU.length:Int):=by omega
    simp only[h1,h2,e1,e2,decide_true,decide_false,Bool.false_eq_true,if_false,if_true,Bool.and_false,Bool.false_and]
  ·have e1:(8:Int)<(T.af.length:Int):=by omega
   simp only[h1,e1,decide_true,decide_false,Bool.false_eq_true,if_false,if_true,Bool.false_and]
 |_,_,0,_,hm=>by simp at hm
theorem JO (k:J→Option Int) (s:J) (hl:s.ae.length≤8) (hc:∀T∈s.ae,jX T=true):∀(x:List aj) (i m:Nat),s.ae.drop i=x→x.length+2000<m→wy k m (s.ae.length:Int) (i:Int) s=if g9 ((s.ae.take i).map (·.bk)) x=true then k s else some 70
 | [],i,m+1,hd,hm=>by
  have:s.ae.length≤i:=by simpa using hd
  have hq:¬((i:Int)<(s.ae.length:Int)):=by omega
  simp only[wy,Fe,hq,decide_false,Bool.false_eq_true,if_false,g9,if_true]
 |T::x,i,m+1,hd,hm=>by
  obtain ⟨g1,g2,g3⟩:=aP hd;have hq:(i:Int)<(s.ae.length:Int):=by omega
  simp at hm;have ih:=JO k s hl hc x (i+1) m g2 (by omega)
  rw[List.take_succ,g1] at ih;simp only[Option.toList_some,List.map_append,List.map_cons,List.map_nil] at ih;simp only[wy,Fe,hq,decide_true,if_true,adl m s hl i T g1 (kD (hc T (List.mem_of_getElem? g1))).1 (by omega),Option.bind_some,bB g3 (by omega),ih,g9]
  rcases Bool.eq_false_or_eq_true (xq ((s.ae.take i).map (·.bk)) T) with hv|hv<;>simp only[hv,Bool.not_true,Bool.not_false,Bool.false_eq_true,if_true,if_false,Bool.true_and,Bool.false_and]
 |_,_,0,_,hm=>by simp at hm
theorem JN (k:J→Option Int) (s:J) (hs:∀t G,idx s.ae t=some G→dk G) (hl:s.ae.length≤8) (hc:∀T∈s.ae,jX T=true):∀(x:List aj) (i m:Nat),s.ae.drop i=x→x.length+2000<m→wx k m (s.ae.length:Int) (i:Int) s=if allRefs s x=true then k s else some 70
 | [],i,m+1,hd,hm=>by
  have:s.ae.length≤i:=by simpa using hd
  have hq:¬((i:Int)<(s.ae.length:Int)):=by omega
  simp only[wx,Fc,hq,decide_false,Bool.false_eq_true,if_false,allRefs,if_true]
 |T::x,i,m+1,hd,hm=>by
  obtain ⟨g1,g2,g3⟩:=aP hd;have hq:(i:Int)<(s.ae.length:Int):=by omega
  simp at hm;have ih:=JN k s hs hl hc x (i+1) m g2 (by omega)
  simp only[wx,Fc,hq,decide_true,if_true,adk m s hs i T g1 (kD (hc T (List.mem_of_getElem? g1))).2.1 (by omega),Option.bind_some,bB g3 (by omega),ih,allRefs]
  rcases Bool.eq_false_or_eq_true (ll s T T.aU) with hv|hv<;>simp only[hv,Bool.not_true,Bool.not_false,Bool.false_eq_true,if_true,if_false,Bool.true_and,Bool.false_and]
 |_,_,0,_,hm=>by simp at hm
def oh (s:J):Int:=
 if 8<s.ae.length then 2
 else if s.ae.all jX=true then
  (if s.bz<0 then 70 else if 1000<s.bz then 70
   else if g9 [] s.ae=true then (if allRefs s s.ae=true then qE s.ae else 70) else 70)
 else 2
theorem Bk {s:J} (hb:∀T∈s.ae,jX T=true) (h:g9 [] s.ae=true):∀t G,idx s.ae t=some G→dk G:=fun t G hG=>
 FV (fun T hT=>(kD (hb T hT)).1) h G (List.mem_of_getElem? (uv hG).2.2)
theorem xv {s:J} (h:oh s=0):SOK s:=by
 unfold oh at h;split at h
 ·cases h
 ·rename_i h8;split at h
  ·rename_i hb;rw[List.all_eq_true] at hb;split at h
   ·cases h
   ·split at h
    ·cases h
    ·split at h
     ·rename_i ht;exact ⟨by omega,Bk hb ht⟩
     ·cases h
  ·cases h
theorem adx (n:Nat) (s:J) (hz:∀T∈s.ae,szT T) (hn:1600000<n) (hn':n<4294967296):F38 n s=some (oh s):=by
 unfold F38 Qw oh;by_cases h8:8<s.ae.length
 ·have:(8:Int)<(s.ae.length:Int):=by omega
  simp only[h8,this,decide_true,if_true]
 ·have h8':¬(8:Int)<(s.ae.length:Int):=by omega
  have h0:=JS (Fk n) s s.ae (by omega) s.ae 0 n rfl (by omega)
  rw[show ((0:Nat):Int)=0 from rfl] at h0;simp only[h8,h8',decide_false,Bool.false_eq_true,if_false,h0];by_cases hb:s.ae.all jX=true
  ·simp only[hb,if_true,Fk];have hb':=List.all_eq_true.1 hb;by_cases v1:s.bz<0
   ·simp only[v1,decide_true,if_true]
   ·by_cases v2:1000<s.bz
    ·simp only[v1,v2,decide_true,decide_false,Bool.false_eq_true,if_false,if_true]
    ·simp only[v1,v2,decide_false,Bool.false_eq_true,if_false,adp n s (by omega) (fun T hT=>(kD (hb' T hT)).1) (by omega),Option.bind_some]
     by_cases ht:g9 [] s.ae=true
     ·simp only[ht,Bool.not_true,Bool.false_eq_true,if_false,if_true,ado n s (Bk hb' ht) (by omega) (fun T hT=>(kD (hb' T hT)).2.1) (by omega),Option.bind_some]
      by_cases hr:allRefs s s.ae=true
      ·have h3:=JQ n s (by omega) hb' hz s.ae 0 n rfl (by omega) hn'
       rw[show ((0:Nat):Int)=0 from rfl] at h3;simp only[hr,Bool.not_true,Bool.false_eq_true,if_false,if_true,h3]
      ·simp only[hr,Bool.not_eq_true] at hr ⊢;simp[hr]
     ·have ht':g9 [] s.ae=false:=by simpa using ht
      simp[ht']
  ·simp only[hb,if_false,Bool.false_eq_true]
theorem adt (n:Nat) (s:J) (hz:∀T∈s.ae,szT T) (hn:1600000<n) (hn':n<4294967296):F44 n s=some (oh s):=by
 unfold F44 Kg oh;by_cases h8:8<s.ae.length
 ·have:(8:Int)<(s.ae.length:Int):=by omega
  simp only[h8,this,decide_true,if_true]
 ·have h8':¬(8:Int)<(s.ae.length:Int):=by omega
  have h0:=JP (E6 n) s s.ae (by omega) s.ae 0 n rfl (by omega)
  rw[show ((0:Nat):Int)=0 from rfl] at h0;simp only[h8,h8',decide_false,Bool.false_eq_true,if_false,h0];by_cases hb:s.ae.all jX=true
  ·simp only[hb,if_true,E6];have hb':=List.all_eq_true.1 hb;by_cases v1:s.bz<0
   ·simp only[v1,decide_true,if_true]
   ·by_cases v2:1000<s.bz
    ·simp only[v1,v2,decide_true,decide_false,Bool.false_eq_true,if_false,if_true]
    ·have h1:=JO (E7 n) s (by omega) hb' s.ae 0 n rfl (by omega)
     rw[show ((0:Nat):Int)=0 from rfl,List.take_zero,List.map_nil] at h1;simp only[v1,v2,decide_false,Bool.false_eq_true,if_false,h1];by_cases ht:g9 [] s.ae=true
     ·have h2:=JN (E8 n) s (Bk hb' ht) (by omega) hb' s.ae 0 n rfl (by omega)
      rw[show ((0:Nat):Int)=0 from rfl] at h2;simp only[ht,if_true,E7,h2];by_cases hr:allRefs s s.ae=true
      ·have h3:=JL n s (by omega) hb' hz s.ae 0 n rfl (by omega) hn'
       rw[show ((0:Nat):Int)=0 from rfl] at h3;simp only[hr,if_true,E8,h3]
      ·simp only[hr,if_false,Bool.false_eq_true]
     ·simp only[ht,if_false,Bool.false_eq_true]
  ·simp only[hb,if_false,Bool.false_eq_true]
end Go.Proofs.YtmealahmjddpcaaGreatDoor
end
