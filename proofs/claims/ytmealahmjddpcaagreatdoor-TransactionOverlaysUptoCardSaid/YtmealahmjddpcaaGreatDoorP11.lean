/- Texts that belong together. The first: Plain laws: which predicates are valid: the program's Check and the reference's are one function. Condition: sizes below 2^32, enough steps. -/
import Derived.Test.YtmealahmjddpcaaGreatDoorP10
import Derived.Laws.RangeString
import Derived.Laws.RangeAny
set_option linter.all false
set_option maxRecDepth 100000
noncomputable section
namespace Go.Proofs.YtmealahmjddpcaaGreatDoor
open Go.Sim
def kOK (k:Int):Bool:=k==3||k==4||k==5
def dx (l:Wq0):Bool:=l.all kOK
theorem aY {i L:Nat} (h:i<L) (hl:L<4294967296):w64 ((i:Int)+1)=((i+1:Nat):Int):=by rw[bI (by omega) (by omega)];rfl
theorem PK (n:Nat) (k:Int):M1 n k=some (kOK k):=by
 unfold M1 Nq kOK;by_cases h3:k=3
 ·simp[h3]
 ·by_cases h4:k=4
  ·simp[h4]
  ·simp[h3,h4]
theorem PG (xs:Wq0) (hl:xs.length<4294967296):∀(l:Wq0) (i n:Nat),xs.drop i=l->l.length<n->tv (some true) n xs (xs.length:Int) (i:Int)=some (dx l)
 | [],i,n+1,hd,hn=>by
  have:xs.length<=i:=by simpa using hd
  have h:¬((i:Int)<(xs.length:Int)):=by omega
  simp[tv,CP,h,dx]
 |x::l,i,n+1,hd,hn=>by
  obtain ⟨h1,h2,h3⟩:=aK hd;have h:((i:Int)<(xs.length:Int)):=by omega
  have ih:=PG xs hl l (i+1) n h2 (by simp at hn;omega)
  simp only[tv,CP,h,decide_true,if_true,aJ,h1,Option.bind_some,PK,aY h3 hl,ih];simp only[dx,List.all_cons];cases kOK x<;>simp
 |_,_,0,_,hn=>by simp at hn
theorem PU (n:Nat) (xs:Wq0) (hl:xs.length<4294967296) (hn:xs.length<n):M6 n xs=some (dx xs):=by
 have:=PG xs hl xs 0 n rfl hn;simpa[M6,ND,NF] using this
theorem PE (xs:Wq0) (hl:xs.length<4294967296):∀(l:Wq0) (i n:Nat),xs.drop i=l->l.length<n->tk (some true) n xs (xs.length:Int) (i:Int)=some (dx l)
 | [],i,n+1,hd,hn=>by
  have:xs.length<=i:=by simpa using hd
  have h:¬((i:Int)<(xs.length:Int)):=by omega
  simp[tk,CH,h,dx]
 |x::l,i,n+1,hd,hn=>by
  obtain ⟨h1,h2,h3⟩:=aK hd;have h:((i:Int)<(xs.length:Int)):=by omega
  have ih:=PE xs hl l (i+1) n h2 (by simp at hn;omega)
  simp only[tk,CH,h,decide_true,if_true,aJ,h1,Option.bind_some,aY h3 hl,ih];simp only[dx,List.all_cons,kOK];by_cases q3:x=3
  ·simp[q3]
  ·by_cases q4:x=4
   ·simp[q4]
   ·by_cases q5:x=5<;>simp[q3,q4,q5]
 |_,_,0,_,hn=>by simp at hn
theorem PO (n:Nat) (xs:Wq0) (hl:xs.length<4294967296) (hn:xs.length<n):M4 n xs=some (dx xs):=by
 have:=PE xs hl xs 0 n rfl hn;simpa[M4,Nu,Nv] using this
mutual
def ndP:an->Nat
 |⟨_,_,_,_,args⟩=>1+ndL args
def ndL:Wq7->Nat
 | []=>0
 |x::xs=>ndP x+ndL xs
end
mutual
def dpP:an->Nat
 |⟨_,_,_,_,args⟩=>1+dpL args
def dpL:Wq7->Nat
 | []=>0
 |x::xs=>max (dpP x) (dpL xs)
end
theorem Pg (p:an):1<=ndP p:=by obtain ⟨_,_,_,_,_⟩:=p;simp[ndP]
theorem PT:∀(n:Nat) (p:an) (m:Int),szP p<=n->szP p<4294967296->0<=m->m<=24->Ok (EG n p m) fun r=>r<=25/\(m+ndP p<=24->r=m+ndP p)/\(24<m+ndP p->24<r)
 |0,⟨_,_,_,_,_⟩,_,h,_,_,_=>by simp[szP] at h
 |n+1,⟨op,c,l,r,args⟩,m,h,hb,h0,h1=>by
  simp only[szP] at h hb;have hlen:=pE args;have loop:∀(xs:Wq7) (i k:Nat) (m:Int),args.drop i=xs->xs.length<k->0<=m->m<=25->
    Ok (tu (EG n) (fun r=>some r) k m (i:Int) ⟨op,c,l,r,args⟩) fun r=>r<=25/\(m+ndL xs<=24->r=m+ndL xs)/\(24<m+ndL xs->24<r):=by
   intro xs;induction xs with
   |nil=>
    intro i k m hd hk m0 m1;have:args.length<=i:=by simpa using hd
    have hq:¬((i:Int)<(args.length:Int)):=by omega
    cases k with
    |zero=>simp at hk
    |succ k=>
     simp only[tu,CO,hq,decide_false,Bool.false_eq_true,if_false];exact Ok.pure ⟨m1,fun _=>by simp[ndL],fun h=>by simp[ndL] at h;exact h⟩
   |cons x xs ih=>
    intro i k m hd hk m0 m1;obtain ⟨g1,g2,g3⟩:=aK hd;have hq:((i:Int)<(args.length:Int)):=by omega
    cases k with
    |zero=>simp at hk
    |succ k=>
     simp only[tu,CO,hq,decide_true,if_true];have hx:x∈args:=List.mem_of_getElem? g1;have hs:=pD hx;have hnd:=Pg x;refine Ok.ite (fun hm=> ?_) fun hm=> ?_
     ·simp at hm;rw[aJ,g1,Option.bind_some];refine Ok.bind (PT n x m (by omega) (by omega) m0 hm) fun r ⟨r1,r2,r3⟩=> ?_
      rw[aY g3 (by omega)]
      have hr0:0<=r:=by
       by_cases hz:m+ndP x<=24
       ·have:=r2 hz;omega
       ·have:=r3 (by omega);omega
      refine (ih (i+1) k r g2 (by simp at hk;omega) hr0 r1).mono fun r' ⟨q1,q2,q3⟩=>⟨q1,fun hle=> ?_,fun hlt=> ?_⟩
      ·simp only[ndL] at hle ⊢;have e:=r2 (by omega)
       have:=q2 (by omega)
       omega
      ·simp only[ndL] at hlt;by_cases hz:m+ndP x<=24
       ·have e:=r2 hz;exact q3 (by omega)
       ·have e:=r3 (by omega)
        exact q3 (by omega)
     ·simp at hm;exact Ok.pure ⟨m1,fun hle=>by simp only[ndL] at hle;omega,fun _=>hm⟩
  unfold EG NC;rw[bI (by omega) (by omega)]
  refine (loop args 0 n (m+1) rfl (by omega) (by omega) (by omega)).mono fun r' ⟨q1,q2,q3⟩=>⟨q1,fun hle=> ?_,fun hlt=> ?_⟩
  ·simp only[ndP] at hle ⊢;have:=q2 (by omega)
   omega
  ·simp only[ndP] at hlt;exact q3 (by omega)
theorem PS:∀(n:Nat) (p:an) (m:Nat),szP p<=n->szP p<4294967296->m<=1000->xc n p (m:Int)=some (decide (m<dpP p))
 |0,⟨_,_,_,_,_⟩,_,h,_,_=>by simp[szP] at h
 |n+1,⟨op,c,l,r,args⟩,0,h,hb,hm=>by
  have:0<dpP ⟨op,c,l,r,args⟩:=by simp only[dpP];omega
  simp[xc,CM,this]
 |n+1,⟨op,c,l,r,args⟩,m+1,h,hb,hm=>by
  simp only[szP] at h hb;have hlen:=pE args;have loop:∀(xs:Wq7) (i k:Nat),args.drop i=xs->xs.length<k->
    tr (xc n) (some false) k ((m+1:Nat):Int) (args.length:Int) (i:Int) ⟨op,c,l,r,args⟩=some (decide (m<dpL xs)):=by
   intro xs;induction xs with
   |nil=>
    intro i k hd hk;have:args.length<=i:=by simpa using hd
    have hq:¬((i:Int)<(args.length:Int)):=by omega
    cases k with
    |zero=>simp at hk
    |succ k=>simp[tr,CN,hq,dpL]
   |cons x xs ih=>
    intro i k hd hk;obtain ⟨g1,g2,g3⟩:=aK hd;have hq:((i:Int)<(args.length:Int)):=by omega
    cases k with
    |zero=>simp at hk
    |succ k=>
     have hx:x∈args:=List.mem_of_getElem? g1;have hs:=pD hx;have hw:w64 (((m+1:Nat):Int)-1)=(m:Int):=by rw[bI (by omega) (by omega)];omega
     simp only[tr,CN,hq,decide_true,if_true,aJ,g1,Option.bind_some,hw,PS n x m (by omega) (by omega) (by omega),aY g3 (by omega:args.length<4294967296),
      ih (i+1) k g2 (by simp at hk;omega)]
     by_cases hd1:m<dpP x
     ·have:m<dpL (x::xs):=by simp only[dpL];omega
      simp[hd1,this]
     ·have:(m<dpL (x::xs))↔m<dpL xs:=by simp only[dpL];omega
      simp[hd1,this]
  have hne:¬(((m+1:Nat):Int)=0):=by omega
  have hl:=loop args 0 n rfl (by omega)
  have e:(m+1<dpP ⟨op,c,l,r,args⟩)↔m<dpL args:=by simp only[dpP];omega
  simp only[xc,CM,beq_iff_eq,hne,if_false,NB];rw[show ((0:Int))=((0:Nat):Int) from rfl,hl];simp[e]
theorem PN:∀(n:Nat) (p:an) (v b:Int),szP p<=n->szP p<4294967296->1<=v->v<=9->0<=b->b<=24->
  Ok (EF n p v b) fun r=>(r.1=true↔((ndP p:Int)<=b/\v+dpP p<=9))/\(r.1=true->r.2=b-ndP p)
 |0,⟨_,_,_,_,_⟩,_,_,h,_,_,_,_,_=>by simp[szP] at h
 |n+1,⟨op,c,l,r,args⟩,v,b,h,hb,v1,v2,b1,b2=>by
  simp only[szP] at h hb;have hlen:=pE args;have loop:∀(xs:Wq7) (i k:Nat) (b:Int),args.drop i=xs->xs.length<k->v<=8->0<=b->b<=24->
    Ok (tj (EF n) (fun b=>some (true,b)) k v args (args.length:Int) (i:Int) b) fun r=>(r.1=true↔((ndL xs:Int)<=b/\v+dpL xs<=8))/\(r.1=true->r.2=b-ndL xs):=by
   intro xs;induction xs with
   |nil=>
    intro i k b hd hk hv b1 b2;have:args.length<=i:=by simpa using hd
    have hq:¬((i:Int)<(args.length:Int)):=by omega
    cases k with
    |zero=>simp at hk
    |succ k=>
     simp only[tj,CG,hq,decide_false,Bool.false_eq_true,if_false];exact Ok.pure ⟨by simp[ndL,dpL];omega,by simp[ndL]⟩
   |cons x xs ih=>
    intro i k b hd hk hv b1 b2;obtain ⟨g1,g2,g3⟩:=aK hd;have hq:((i:Int)<(args.length:Int)):=by omega
    cases k with
    |zero=>simp at hk
    |succ k=>
     have hx:x∈args:=List.mem_of_getElem? g1;have hs:=pD hx;simp only[tj,CG,hq,decide_true,if_true,aJ,g1,Option.bind_some];rw[bI (x:=v+1) (by omega) (by omega)]
     refine Ok.bind (PN n x (v+1) b (by omega) (by omega) (by omega) (by omega) b1 b2) fun r ⟨r1,r2⟩=> ?_
     refine Ok.ite (fun hr=> ?_) fun hr=> ?_
     ·simp at hr;refine Ok.pure ⟨⟨fun h=>by simp at h,fun ⟨h1,h2⟩=> ?_⟩,fun h=>by simp at h⟩
      simp only[ndL,dpL] at h1 h2;have:=r1.2 ⟨by omega,by omega⟩
      rw[hr] at this;exact absurd this (by simp)
     ·simp at hr;have e:=r2 hr;have q:=r1.1 hr;rw[aY g3 (by omega)]
      have hnd:=Pg x;refine (ih (i+1) k r.2 g2 (by simp at hk;omega) hv (by omega) (by omega)).mono fun r' ⟨q1,q2⟩=>⟨⟨fun h=> ?_,fun ⟨h1,h2⟩=> ?_⟩,fun h=> ?_⟩
      ·have:=q1.1 h;simp only[ndL,dpL];omega
      ·simp only[ndL,dpL] at h1 h2;exact q1.2 ⟨by omega,by omega⟩
      ·have:=q2 h;simp only[ndL];omega
  unfold EF Nt;rw[bI (by omega) (by omega)]
  simp only[ndP,dpP];refine Ok.ite (fun hb0=> ?_) fun hb0=> ?_
  ·simp at hb0;refine Ok.pure ⟨⟨fun h=>by simp at h,fun h=> ?_⟩,fun h=>by simp at h⟩
   omega
  ·simp at hb0;refine Ok.ite (fun hv=> ?_) fun hv=> ?_
   ·simp at hv;refine Ok.pure ⟨⟨fun h=>by simp at h,fun h=> ?_⟩,fun h=>by simp at h⟩
    omega
   ·simp at hv;refine (loop args 0 n (b-1) rfl (by omega) hv (by omega) (by omega)).mono fun r' ⟨q1,q2⟩=>⟨⟨fun h=> ?_,fun ⟨h1,h2⟩=> ?_⟩,fun h=> ?_⟩
    ·have:=q1.1 h;omega
    ·exact q1.2 ⟨by omega,by omega⟩
    ·have:=q2 h;omega
def q9 (v:aI):Bool:=v.aw==0&&(v.bM==0&&(decide (v.bl=ByteArray.empty)&&true))
def tY (o:aH):Bool:=o.aw==0&&(o.bP==0&&(q9 o.aR&&true))
def kAt (l:Wq0) (o:aH):Int:=if 0<=o.bP/\o.bP<l.length/\q9 o.aR=true then (l[o.bP.toNat]?).getD 0 else 0
def fg (aB params:Wq0) (o:aH):Int:=
 if o.aw==3 then (if o.bP==0&&fD o.aR then o.aR.aw else 0) else if o.aw==2 then kAt params o else if o.aw==1 then kAt aB o else 0
theorem xf (n:Nat) (l:Wq0) (o:aH):xg n l o=some (kAt l o):=by
 unfold xg kAt;by_cases h1:o.bP<0
 ·have:¬0<=o.bP:=by omega
  simp[h1,this]
 ·by_cases h2:(l.length:Int)<=o.bP
  ·have:¬o.bP<l.length:=by omega
   simp[h1,h2,this]
  ·have e1:0<=o.bP:=by omega
   have e2:o.bP<l.length:=by omega
   have e3:o.bP.toNat<l.length:=by omega
   have hid:idx l o.bP=some (l[o.bP.toNat]):=by simp[idx,e1,e3]
   cases h3:q9 o.aR with
   |false=>
    simp only[q9] at h3;simp only[h1,h2,decide_false,Bool.false_eq_true,if_false,ge_iff_le,h3,Bool.not_false,if_true,and_false,e2,decide_true,Bool.not_true]
   |true=>
    simp only[q9] at h3;simp only[h1,h2,decide_false,Bool.false_eq_true,if_false,ge_iff_le,h3,Bool.not_true,hid,Option.bind_some,e1,e2,and_self,if_true,decide_true,Bool.not_true];simp[e3]
theorem aff (n:Nat) (aB params:Wq0) (o:aH):M0 n aB params o=some (fg aB params o):=by
 unfold M0 Nk fg;rw[xf,xf,afd];simp only[Option.bind_some];by_cases h3:o.aw=3
 ·by_cases hi:o.bP=0<;>cases fD o.aR<;>simp[h3,hi]
 ·by_cases h2:o.aw=2
  ·simp[h2]
  ·by_cases h1:o.aw=1<;>simp[h1,h2,h3]
theorem afe (n:Nat) (k:db) (o:aH):MZ n k o=some (fg k.fm k.gk o):=by
 have h0:∀l,Cz n l o=some (kAt l o):=fun l=>by rw[<-xf n l o];rfl
 unfold MZ Nj fg;rw[h0,h0,XT];simp only[Option.bind_some];by_cases h3:o.aw=3
 ·by_cases hi:o.bP=0<;>cases fD o.aR<;>simp[h3,hi]
 ·by_cases h2:o.aw=2
  ·simp[h2]
  ·by_cases h1:o.aw=1<;>simp[h1,h2,h3]
def fI (c:Int) (l r:aH):Bool:=c==0&&tY l&&tY r
mutual
def pV (aB params:Wq0):an->Bool
 |⟨op,c,l,r,args⟩=>
  if op==1||op==2 then fI c l r&&args.length==0
  else if op==3 then args.length==0&&decide (1<=c)&&decide (c<=6)&&fg aB params l !=0&&fg aB params l==fg aB params r
  else if op==4||op==5 then fI c l r&&pVs aB params args
  else if op==6 then args.length==1&&(fI c l r&&pVs aB params args)
  else false
def pVs (aB params:Wq0):Wq7->Bool
 | []=>true
 |x::xs=>pV aB params x&&pVs aB params xs
end
theorem PJ (n:Nat) (p:an):ED n p=some (fI p.gM p.bz p.bg):=by
 unfold ED Nl fI tY q9;by_cases h:p.gM=0
 ·simp only[h,beq_self_eq_true,if_true,Bool.true_and];split
  ·rename_i h1;simp only[h1,Bool.true_and]
  ·rename_i h1;rw[Bool.not_eq_true] at h1;simp only[h1,Bool.false_and]
 ·simp[h]
theorem PR (aB params:Wq0):∀(n:Nat) (p:an),szP p<=n->szP p<4294967296->xb n aB params p=some (pV aB params p)
 |0,⟨_,_,_,_,_⟩,h,_=>by simp[szP] at h
 |n+1,⟨op,c,l,r,args⟩,h,hb=>by
  simp only[szP] at h hb;have hlen:=pE args;have loop:∀(xs:Wq7) (i k:Nat),args.drop i=xs->xs.length<k->
    qL (xb n) (some true) k aB params (args.length:Int) (i:Int) ⟨op,c,l,r,args⟩=some (pVs aB params xs):=by
   intro xs;induction xs with
   |nil=>
    intro i k hd hk;have:args.length<=i:=by simpa using hd
    have hq:¬((i:Int)<(args.length:Int)):=by omega
    cases k with
    |zero=>simp at hk
    |succ k=>simp[qL,CL,hq,pVs]
   |cons x xs ih=>
    intro i k hd hk;obtain ⟨g1,g2,g3⟩:=aK hd;have hq:((i:Int)<(args.length:Int)):=by omega
    cases k with
    |zero=>simp at hk
    |succ k=>
     have hx:x∈args:=List.mem_of_getElem? g1;have hs:=pD hx;simp only[qL,CL,hq,decide_true,if_true,aJ,g1,Option.bind_some,PR aB params n x (by omega) (by omega),aY g3 (by omega:args.length<4294967296),
      ih (i+1) k g2 (by simp at hk;omega),pVs]
     cases pV aB params x<;>simp
  have hl:=loop args 0 n rfl (by omega)
  have hl:qL (xb n) (some true) n aB params (args.length:Int) 0 ⟨op,c,l,r,args⟩=some (pVs aB params args):=hl;have hB:tG (xb n) n aB params ⟨op,c,l,r,args⟩=some (fI c l r&&pVs aB params args):=by
   unfold tG NA;rw[PJ,Option.bind_some,hl];cases fI c l r<;>simp
  unfold xb Nz;simp only[PJ,aff,Option.bind_some,hB];unfold pV;have hz:((args.length:Int)==0)=(args.length==0):=by
   rw[Bool.eq_iff_iff];simp
  have ho:((args.length:Int) !=1)= !(args.length==1):=by
   rw[Bool.eq_iff_iff];simp;omega
  simp only[hz,ho];by_cases h1:op=1
  ·cases hp:fI c l r<;>simp[h1]
  ·by_cases h2:op=2
   ·cases hp:fI c l r<;>simp[h2]
   ·by_cases h3:op=3
    ·cases ha:(args.length==0) with
     |false=>simp[h3]
     |true=>
      by_cases c1:1<=c
      ·by_cases c2:c<=6
       ·by_cases c3:fg aB params l=0<;>simp[h3,c1,c2,c3]
       ·simp[h3,c1,c2]
      ·simp[h3,c1]
    ·by_cases h4:op=4
     ·simp[h4]
     ·by_cases h5:op=5
      ·simp[h5]
      ·by_cases h6:op=6
       ·cases ha:(args.length==1)<;>simp[h6]
       ·simp[h1,h2,h3,h4,h5,h6]
theorem EE (k:db):∀(n:Nat) (p:an),szP p<=n->szP p<4294967296->lT n k p=some (pV k.fm k.gk p)
 |0,⟨_,_,_,_,_⟩,h,_=>by simp[szP] at h
 |n+1,⟨op,c,l,r,args⟩,h,hb=>by
  simp only[szP] at h hb;have hlen:=pE args;have aiq:∀(xs:Wq7) (i m:Nat),args.drop i=xs->xs.length<m->
    og (lT n) (some true) m args (args.length:Int) (i:Int) k=some (pVs k.fm k.gk xs):=by
   intro xs;induction xs with
   |nil=>
    intro i m hd hk;have:args.length<=i:=by simpa using hd
    have hq:¬((i:Int)<(args.length:Int)):=by omega
    cases m with
    |zero=>simp at hk
    |succ m=>simp[og,CF,hq,pVs]
   |cons x xs ih=>
    intro i m hd hk;obtain ⟨g1,g2,g3⟩:=aK hd;have hq:((i:Int)<(args.length:Int)):=by omega
    cases m with
    |zero=>simp at hk
    |succ m=>
     have hx:x∈args:=List.mem_of_getElem? g1;have hs:=pD hx;simp only[og,CF,hq,decide_true,if_true,aJ,g1,Option.bind_some,EE k n x (by omega) (by omega),aY g3 (by omega:args.length<4294967296),
      ih (i+1) m g2 (by simp at hk;omega),pVs]
     cases pV k.fm k.gk x<;>simp
  have aip:∀(xs:Wq7) (i m:Nat),args.drop i=xs->xs.length<m->
    oe (lT n) (some true) m args (args.length:Int) (i:Int) k=some (pVs k.fm k.gk xs):=by
   intro xs;induction xs with
   |nil=>
    intro i m hd hk;have:args.length<=i:=by simpa using hd
    have hq:¬((i:Int)<(args.length:Int)):=by omega
    cases m with
    |zero=>simp at hk
    |succ m=>simp[oe,CD,hq,pVs]
   |cons x xs ih=>
    intro i m hd hk;obtain ⟨g1,g2,g3⟩:=aK hd;have hq:((i:Int)<(args.length:Int)):=by omega
    cases m with
    |zero=>simp at hk
    |succ m=>
     have hx:x∈args:=List.mem_of_getElem? g1;have hs:=pD hx;simp only[oe,CD,hq,decide_true,if_true,aJ,g1,Option.bind_some,EE k n x (by omega) (by omega),aY g3 (by omega:args.length<4294967296),
      ih (i+1) m g2 (by simp at hk;omega),pVs]
     cases pV k.fm k.gk x<;>simp
  have hl0:og (lT n) (some true) n args (args.length:Int) 0 k=some (pVs k.fm k.gk args):=aiq args 0 n rfl (by omega)
  have hl3:oe (lT n) (some true) n args (args.length:Int) 0 k=some (pVs k.fm k.gk args):=aip args 0 n rfl (by omega)
  have W7:∀X:Option Bool,(if c !=0 then some false else if !(tY l) then some false else if !(tY r) then some false else X)=if fI c l r then X else some false:=by
   intro X;unfold fI;by_cases hc:c=0
   ·cases tY l<;>cases tY r<;>simp[hc]
   ·simp[hc]
  have hB5:tF (lT n) n k ⟨op,c,l,r,args⟩=some (fI c l r&&pVs k.fm k.gk args):=by
   have:=W7 (oe (lT n) (CC (lT n) n) n args (args.length:Int) 0 k);unfold tF;refine Eq.trans this ?_;unfold CC;rw[hl3];cases fI c l r<;>simp
  have hB2:∀b,xh (lT n) n b k ⟨op,c,l,r,args⟩=some (!b&&(fI c l r&&pVs k.fm k.gk args)):=by
   intro b;have:=W7 (og (lT n) (CE (lT n) n) n args (args.length:Int) 0 k);unfold xh;cases b with
   |true=>simp
   |false=>
    simp only[Bool.false_eq_true,if_false,Bool.not_false,Bool.true_and];refine Eq.trans this ?_;unfold CE;rw[hl0];cases fI c l r<;>simp
  unfold lT Ns;simp only[afe,Option.bind_some,hB5,hB2];unfold pV;have hz:((args.length:Int)==0)=(args.length==0):=by
   rw[Bool.eq_iff_iff];simp
  have hz':((args.length:Int) !=0)= !(args.length==0):=by
   rw[Bool.eq_iff_iff];simp
  have ho:((args.length:Int) !=1)= !(args.length==1):=by
   rw[Bool.eq_iff_iff];simp;omega
  simp only[hz,hz',ho];have he:(args.length==0)=true->pVs k.fm k.gk args=true:=by
   intro h;have:args= []:=by simpa using h
   simp[this,pVs]
  by_cases h3:op=3
  ·cases ha:(args.length==0) with
   |false=>simp[h3]
   |true=>
    by_cases c1:1<=c
    ·by_cases c2:c<=6
     ·by_cases c3:fg k.fm k.gk l=0<;>simp[h3,c1,c2,c3]
     ·simp[h3,c1,c2]
    ·simp[h3,c1]
  ·by_cases h1:op=1
   ·cases ha:(args.length==0) with
    |false=>simp[h1]
    |true=>simp[h1,he ha]
   ·by_cases h2:op=2
    ·cases ha:(args.length==0) with
     |false=>simp[h2]
     |true=>simp[h2,he ha]
    ·by_cases h6:op=6
     ·cases ha:(args.length==1)<;>simp[h6]
     ·by_cases h4:op=4
      ·simp[h4]
      ·by_cases h5:op=5
       ·simp[h5]
       ·simp[h1,h2,h3,h4,h5,h6]
def lH (aB params:Wq0) (p:an):Int:=
 if !dx aB then 1 else if !dx params then 1 else if decide (24<ndP p)||decide (8<dpP p) then 2 else if !pV aB params p then 50 else 0
theorem XU (n:Nat) (aB params:Wq0) (p:an) (h1:aB.length<n) (h2:params.length<n) (h3:szP p<=n) (h4:n<4294967296):F73 n aB params p=some (lH aB params p):=by
 obtain ⟨r,e,r1,r2,r3⟩:=PT n p 0 h3 (by omega) (by omega) (by omega)
 have hd:=PS n p 8 h3 (by omega) (by omega)
 have hd:xc n p 8=some (decide (8<dpP p)):=hd;unfold F73 S7 lH;simp only[PU n aB (by omega) h1,PU n params (by omega) h2,e,hd,PR aB params n p h3 (by omega),Option.bind_some]
 cases dx aB<;>cases dx params<;>simp
 by_cases hn:24<ndP p
 ·have:=r3 (by omega)
  simp[hn,this]
 ·have:=r2 (by omega)
  have h24:¬24<r:=by omega
  by_cases h8:8<dpP p<;>cases pV aB params p<;>simp[hn,h24,h8]
theorem ahE (n:Nat) (aB params:Wq0) (p:an) (h1:aB.length<n) (h2:params.length<n) (h3:szP p<=n) (h4:n<4294967296):F79 n aB params p=some (lH aB params p):=by
 obtain ⟨r,e,r1,r2⟩:=PN n p 1 24 h3 (by omega) (by omega) (by omega) (by omega) (by omega)
 unfold F79 S4 lH;simp only[PO n aB (by omega) h1,PO n params (by omega) h2,e,EE ⟨aB,params⟩ n p h3 (by omega),Option.bind_some]
 cases dx aB<;>cases dx params<;>simp
 cases hr:r.1 with
 |true=>
  have:=r1.1 hr;have e1:¬24<ndP p:=by omega
  have e2:¬8<dpP p:=by omega
  cases pV aB params p<;>simp[e1,e2]
 |false=>
  have:¬((ndP p:Int)<=24/\(1:Int)+dpP p<=9):=fun h=>by rw[r1.2 h] at hr;simp at hr
  have e1:24<ndP p\/8<dpP p:=by omega
  rcases e1 with h|h<;>simp[h]
theorem nW {k:Int} (h:kOK k=true):3<=k/\k<=5:=by simp[kOK] at h;omega
theorem j9 {l:Wq0} {i:Nat} {x:Int} (h:dx l=true) (hx:l[i]? =some x):kOK x=true:=by
 simp only[dx,List.all_eq_true] at h;exact h x (List.mem_of_getElem? hx)
def Yx (aB params:Wq0) (k:Int) (l:Wq5):Prop:=∀o∈l,fg aB params o=k
theorem Wx {aB params:Wq0} {i:Nat} {k:Int} (h:aB[i]? =some k):fg aB params ⟨1,(i:Int),⟨0,0,ByteArray.empty⟩⟩=k:=by
 have hi:i<aB.length:=(List.getElem?_eq_some_iff.1 h).1;have:(i:Int)<(aB.length:Int):=by omega
 simp[fg,kAt,q9,this,h]
theorem Ww {aB params:Wq0} {i:Nat} {k:Int} (h:params[i]? =some k):fg aB params ⟨2,(i:Int),⟨0,0,ByteArray.empty⟩⟩=k:=by
 have hi:i<params.length:=(List.getElem?_eq_some_iff.1 h).1;have:(i:Int)<(params.length:Int):=by omega
 simp[fg,kAt,q9,this,h]
theorem X3 (n:Nat) (hn:300<=n) (aB params:Wq0) (k:Int) (hk:kOK k=true) (l:Wq5) (c:ak) (hc:aT c) (hl:l.length<=300) (ho:Yx aB params k l) (z:aH):
  Ok (xj n k c z l) fun r=>aT r.2/\fg aB params r.1=k:=by
 have hkr:=nW hk;unfold xj;rw[bI (by omega) (by omega)]
 refine Ok.bind (dw n c ((l.length:Int)+1) hc) fun r ⟨hr,r0,r1,_⟩=> ?_
 have r1:=r1 (by omega)
 refine Ok.ite (fun h=> ?_) fun h=> ?_
 ·simp at h;have hlt:r.1.toNat<l.length:=by omega
  have:bnd l.length r.1=some r.1.toNat:=by simp[bnd,r0,hlt]
  rw[this,Option.bind_some,Nat.zero_add,List.getElem?_eq_getElem hlt,Option.bind_some];exact Ok.pure ⟨hr,ho _ (List.getElem_mem _)⟩
 ·refine Ok.bind (w9 n (by omega) r.2 k hr hkr.1 hkr.2) fun x ⟨hx,kx,rx⟩=>Ok.pure ⟨hx,?_⟩
  simp[fg,rx,kx]
theorem wZ (n:Nat) (hn:300<=n) (aB params:Wq0) (k:Int) (hk:kOK k=true) (hp:params.length<=100) (z:aH):∀(xs:Wq0) (i m:Nat) (l:Wq5) (c:ak),params.drop i=xs->xs.length<m->aT c->l.length+xs.length<=300->Yx aB params k l->
  Ok (tz (xj n) m k params (params.length:Int) (i:Int) c z l) fun r=>aT r.2/\fg aB params r.1=k
 | [],i,m+1,l,c,hd,hm,hc,hl,ho=>by
  have:params.length<=i:=by simpa using hd
  have hq:¬((i:Int)<(params.length:Int)):=by omega
  simp only[tz,CS,hq,decide_false,Bool.false_eq_true,if_false];exact X3 n hn aB params k hk l c hc (by simp at hl;omega) ho z
 |x::xs,i,m+1,l,c,hd,hm,hc,hl,ho=>by
  obtain ⟨g1,g2,g3⟩:=aK hd;have hq:((i:Int)<(params.length:Int)):=by omega
  simp only[tz,CS,hq,decide_true,if_true,aJ,g1,Option.bind_some];simp at hm hl;refine Ok.ite (fun h=> ?_) fun h=> ?_
  ·simp at h;subst h;rw[cB _ _ (by simp;omega),Option.bind_some,aY g3 (by omega)]
   refine wZ n hn aB params x hk hp z xs (i+1) m _ c g2 (by omega) hc (by simp;omega) fun o hx=> ?_
   rcases List.mem_append.1 hx with hx|hx
   ·exact ho o hx
   ·simp at hx;subst hx;exact Ww g1
  ·rw[aY g3 (by omega)]
   exact wZ n hn aB params k hk hp z xs (i+1) m l c g2 (by omega) hc (by omega) ho
 |_,_,0,_,_,_,hm,_,_,_=>by simp at hm
theorem w5 (n:Nat) (hn:300<=n) (aB params:Wq0) (k:Int) (hk:kOK k=true) (hp:params.length<=100) (hcl:aB.length<=100) (z:aH):∀(xs:Wq0) (i m:Nat) (l:Wq5) (c:ak),aB.drop i=xs->xs.length<m->aT c->l.length+xs.length<=100->Yx aB params k l->
  Ok (tA (CQ n) m params k aB (aB.length:Int) (i:Int) c z l) fun r=>aT r.2/\fg aB params r.1=k
 | [],i,m+1,l,c,hd,hm,hc,hl,ho=>by
  have:aB.length<=i:=by simpa using hd
  have hq:¬((i:Int)<(aB.length:Int)):=by omega
  simp only[tA,CT,hq,decide_false,Bool.false_eq_true,if_false,CQ];exact wZ n hn aB params k hk hp z params 0 n l c rfl (by omega) hc (by simp at hl;omega) ho
 |x::xs,i,m+1,l,c,hd,hm,hc,hl,ho=>by
  obtain ⟨g1,g2,g3⟩:=aK hd;have hq:((i:Int)<(aB.length:Int)):=by omega
  simp only[tA,CT,hq,decide_true,if_true,aJ,g1,Option.bind_some];simp at hm hl;refine Ok.ite (fun h=> ?_) fun h=> ?_
  ·simp at h;subst h;rw[cB _ _ (by simp;omega),Option.bind_some,aY g3 (by omega)]
   refine w5 n hn aB params x hk hp hcl z xs (i+1) m _ c g2 (by omega) hc (by simp;omega) fun o hx=> ?_
   rcases List.mem_append.1 hx with hx|hx
   ·exact ho o hx
   ·simp at hx;subst hx;exact Wx g1
  ·rw[aY g3 (by omega)]
   exact w5 n hn aB params k hk hp hcl z xs (i+1) m l c g2 (by omega) hc (by omega) ho
 |_,_,0,_,_,_,hm,_,_,_=>by simp at hm
theorem PV (n:Nat) (hn:300<=n) (c:ak) (aB params:Wq0) (k:Int) (hk:kOK k=true) (hc:aT c) (hcl:aB.length<=100) (hp:params.length<=100):Ok (SR n c aB params k) fun r=>aT r.2/\fg aB params r.1=k:=
 w5 n hn aB params k hk hp hcl _ aB 0 n [] c rfl (by omega) hc (by simp;omega) (fun o h=>by simp at h)
def nB:Nat->Nat
 |0=>1
 |d+1=>1+3*nB d
def sB:Nat->Nat
 |0=>2
 |d+1=>2+3*(1+sB d)
theorem age (d:Nat):1<=nB d:=by cases d<;>simp[nB]
theorem afI (d:Nat):2<=sB d:=by cases d<;>simp[sB]
structure kn (aB params:Wq0) (d:Nat) (r:an×ak):Prop where
 case:aT r.2
 val:pV aB params r.1=true
 dp:dpP r.1<=d+1
 nd:ndP r.1<=nB d
 sz:szP r.1<=sB d
theorem KM {aB params:Wq0} {d:Nat} {op c:Int} {l r:aH} {x:ak} (hx:aT x) (hv:pV aB params ⟨op,c,l,r,[]⟩=true):kn aB params d (⟨op,c,l,r,[]⟩,x):=
 ⟨hx,hv,by simp[dpP,dpL],by simp[ndP,ndL];exact age d,by simp[szP,szL];exact afI d⟩
def zo:aH:=⟨0,0,⟨0,0,ByteArray.empty⟩⟩
theorem zI:fI 0 zo zo=true:=by decide
theorem Nc (s:ak->Wq0->Wq0->Int->Option (an×ak)) (n:Nat) (aB params:Wq0) (d:Nat) (x:ak) (hx:aT x) (c:Int) (l r:aH) (h1:1<=c) (h2:c<=6) (h3:fg aB params l≠0) (h4:fg aB params l=fg aB params r) (z:an):
  Ok (Co s n x z ⟨3,c,l,r,[]⟩) (kn aB params d):=by
 unfold Co;refine Ok.bind (iM n x 6 hx) fun b hb=> ?_
 refine Ok.ite (fun _=>Ok.pure (KM hb ?_)) fun _=>Ok.pure (KM hb ?_)
 ·simp[pV,h1,h2,<-h4,h3]
 ·simp[pV,h1,h2,<-h4,h3]
theorem Nb (s:ak->Wq0->Wq0->Int->Option (an×ak)) (n:Nat) (hn:300<=n) (aB params:Wq0) (hcl:aB.length<=100) (hp:params.length<=100) (d:Nat) (k:Int) (hk:kOK k=true) (x:ak) (hx:aT x) (z:an):
  Ok (Cn s n aB params k x z) (kn aB params d):=by
 have hkr:=nW hk;unfold Cn;refine Ok.bind (dw n x 6 hx) fun r ⟨hr,r0,r1,_⟩=> ?_
 have r1:=r1 (by omega)
 rw[bI (by omega) (by omega)]
 refine Ok.bind (PV n hn r.2 aB params k hk hr hcl hp) fun l ⟨hl,kl⟩=> ?_
 refine Ok.bind (w9 n (by omega) l.2 k hl hkr.1 hkr.2) fun v ⟨hv,kv,rv⟩=> ?_
 refine Ok.bind (iM n v.2 3 hv) fun b hb=> ?_
 refine Ok.ite (fun _=> ?_) fun _=> ?_
 ·refine Ok.bind (PV n hn b.2 aB params k hk hb hcl hp) fun o ⟨ho,ko⟩=> ?_
  exact Nc s n aB params d o.2 ho _ _ _ (by omega) (by omega) (by omega) (by omega) _
 ·refine Nc s n aB params d b.2 hb _ _ _ (by omega) (by omega) (by omega) ?_ _
  simp[fg,rv,kv] at kl ⊢;exact kl
theorem MA (s:ak->Wq0->Wq0->Int->Option (an×ak)) (aB params:Wq0) (d:Nat) (hd:d<=1000)
  (hs:∀c,aT c->Ok (s c aB params (d:Int)) (kn aB params d)) (n0:Nat):∀(j n:Nat) (op:Int) (args:Wq7) (c:ak) (z:an) (a0:Wq7),aT c->j<n->args.length+j<=3->pVs aB params args=true->dpL args<=d+1->ndL args<=args.length*nB d->szL args<=args.length*(1+sB d)->(op=4\/op=5)->
  Ok (yn s (G5 s n0) n aB params ((d+1:Nat):Int) ((j:Int)-1) c z ⟨op,0,zo,zo,a0⟩ args) (kn aB params (d+1))
 |0,n+1,op,args,c,z,a0,hc,_,hj,h1,h2,h3,h4,hop=>by
  have:((0:Nat):Int)-1<0:=by omega
  simp only[yn,G6,G5,this,decide_true,Bool.not_true,Bool.false_eq_true,if_false];have e3:args.length*nB d<=3*nB d:=Nat.mul_le_mul_right _ (by omega)
  have e4:args.length*(1+sB d)<=3*(1+sB d):=Nat.mul_le_mul_right _ (by omega)
  refine Ok.pure ⟨hc,?_,by simp only[dpP];omega,by simp only[ndP,nB];omega,by simp only[szP,sB];omega⟩
  rcases hop with rfl|rfl<;>simp[pV,zI,h1]
 |j+1,n+1,op,args,c,z,a0,hc,hn,hj,h1,h2,h3,h4,hop=>by
  have:¬(((j+1:Nat):Int)-1<0):=by omega
  simp only[yn,G6,this,decide_false,Bool.not_false,if_true];have hw:w64 (((d+1:Nat):Int)-1)=(d:Int):=by rw[bI (by omega) (by omega)];omega
  have hw2:w64 (((j+1:Nat):Int)-1-1)=(j:Int)-1:=by rw[bI (by omega) (by omega)];omega
  rw[hw,hw2];refine Ok.bind (hs c hc) fun x hx=> ?_
  rw[cB _ _ (by simp;omega),Option.bind_some]
  have key:∀(l:Wq7) (y:an),pVs aB params (l++ [y])=(pVs aB params l&&pV aB params y)/\dpL (l++ [y])=max (dpL l) (dpP y)/\ndL (l++ [y])=ndL l+ndP y/\szL (l++ [y])=szL l+(1+szP y):=by
   intro l y;induction l with
   |nil=>simp[pVs,dpL,ndL,szL]
   |cons a l ih=>
    obtain ⟨i1,i2,i3,i4⟩:=ih;simp only[List.cons_append,pVs,dpL,ndL,szL,i1,i2,i3,i4];refine ⟨by rw[Bool.and_assoc],by omega,by omega,by omega⟩
  obtain ⟨k1,k2,k3,k4⟩:=key args x.1;refine MA s aB params d hd hs n0 j n op _ x.2 _ _ hx.case (by omega) (by simp;omega) (by rw[k1,h1,hx.val];rfl) (by rw[k2];have:=hx.dp;omega) ?_ ?_ hop
  ·rw[k3,List.length_append];have:=hx.nd;simp only[List.length_cons,List.length_nil,Nat.add_mul];omega
  ·rw[k4,List.length_append];have:=hx.sz;simp only[List.length_cons,List.length_nil,Nat.add_mul];omega
 |_,0,_,_,_,_,_,_,hn,_,_,_,_,_,_=>by simp at hn
theorem kn.up {aB params:Wq0} {r:an×ak} {d e:Nat} (h:kn aB params d r) (hd:d<=e):kn aB params e r:=by
 have hn:∀k,nB d<=nB (d+k):=by
  intro k;induction k with
  |zero=>simp
  |succ k ih=>rw[<-Nat.add_assoc];simp only[nB];omega
 have hs:∀k,sB d<=sB (d+k):=by
  intro k;induction k with
  |zero=>simp
  |succ k ih=>rw[<-Nat.add_assoc];simp only[sB];omega
 have e1:d+(e-d)=e:=by omega
 have a:=hn (e-d);have b:=hs (e-d);rw[e1] at a b;exact ⟨h.case,h.val,by have:=h.dp;omega,by have:=h.nd;omega,by have:=h.sz;omega⟩
theorem MW (aB params:Wq0) (hk:dx aB=true) (hcl:aB.length<=100) (hp:params.length<=100):∀(d n:Nat) (c:ak),aT c->300+d<n->d<=100->Ok (F72 n c aB params (d:Int)) (kn aB params d)
 |d,0,c,hc,hn,_=>by omega
 |d,n+1,c,hc,hn,hd=>by
  have leaf:∀(op:Int) (x:ak) (z:an),aT x->Ok (py (F72 n) n aB params (d:Int) op true x z) (kn aB params d):=by
   intro op x z hx;unfold py;simp only[if_true];refine Ok.ite (fun h=> ?_) fun h=> ?_
   ·simp at h;refine Ok.bind (dw n x (aB.length:Int) hx) fun r ⟨hr,r0,r1,_⟩=> ?_
    have r1:=r1 (by omega)
    have hlt:r.1.toNat<aB.length:=by omega
    have hid:idx aB r.1=some (aB[r.1.toNat]):=by simp[idx,r0,hlt]
    rw[hid,Option.bind_some];exact Nb (F72 n) n (by omega) aB params hcl hp d _ (j9 hk (i:=r.1.toNat) (by simp[hlt])) r.2 hr _
   ·exact Nb (F72 n) n (by omega) aB params hcl hp d 4 rfl x hx _
  have inner:∀(op:Int) (x:ak) (z:an),6<=op->op<=8->aT x->Ok (py (F72 n) n aB params (d:Int) op (decide ((d:Int)<1)) x z) (kn aB params d):=by
   intro op x z o1 o2 hx;cases d with
   |zero=>simpa using leaf op x z hx
   |succ d=>
    have hnd:¬(((d+1:Nat):Int)<1):=by omega
    have hw:w64 (((d+1:Nat):Int)-1)=(d:Int):=by rw[bI (by omega) (by omega)];omega
    have ih:=fun c hc=>MW aB params hk hcl hp d n c hc (by omega) (by omega)
    unfold py;simp only[hnd,decide_false,Bool.false_eq_true,if_false];refine Ok.ite (fun h6=> ?_) fun h6=> ?_
    ·rw[hw];refine Ok.bind (ih x hx) fun r hr=>Ok.pure ⟨hr.case,?_,?_,?_,?_⟩
     ·have:fI 0 ⟨0,0,⟨0,0,ByteArray.empty⟩⟩ ⟨0,0,⟨0,0,ByteArray.empty⟩⟩=true:=zI;simp[pV,this,pVs,hr.val]
     ·simp only[dpP,dpL];have:=hr.dp;omega
     ·simp only[ndP,ndL,nB];have:=hr.nd;omega
     ·simp only[szP,szL,sB];have:=hr.sz;omega
    ·simp at h6;refine Ok.bind (dw n x 3 hx) fun r ⟨hr,r0,r1,_⟩=> ?_
     have r1:=r1 (by omega)
     rw[bI (x:=4+op) (by omega) (by omega),bI (by omega) (by omega)]
     have e:r.1=((r.1.toNat+1:Nat):Int)-1:=by omega
     rw[e];exact MA (F72 n) aB params d (by omega) ih n (r.1.toNat+1) n (4+op-7) [] r.2 _ _ hr (by omega) (by simp;omega) rfl (by simp[dpL]) (by simp[ndL]) (by simp[szL]) (by omega)
  unfold F72 S8;refine Ok.bind (dw n c 9 hc) fun r ⟨hr,r0,r1,_⟩=> ?_
  have r1:=r1 (by omega)
  refine Ok.ite (fun h0=> ?_) fun h0=> ?_
  ·simp at h0;refine Ok.bind (iM n r.2 2 hr) fun b hb=> ?_
   refine Ok.ite (fun _=> ?_) fun _=> ?_
   ·refine Ok.bind (dw n b.2 2 hb) fun q ⟨hq,q0,q1,_⟩=> ?_
    have q1:=q1 (by omega)
    rw[bI (by omega) (by omega)]
    refine Ok.pure (KM hq ?_);have hz:fI 0 ⟨0,0,⟨0,0,ByteArray.empty⟩⟩ ⟨0,0,⟨0,0,ByteArray.empty⟩⟩=true:=zI;have:q.1=0\/q.1=1:=by omega
    rcases this with e|e<;>simp[pV,e,hz]
   ·refine Ok.ite (fun _=>leaf _ _ _ hb) fun h6=> ?_
    simp at h6;omega
  ·refine Ok.ite (fun _=>leaf _ _ _ hr) fun h6=> ?_
   simp at h6;exact inner r.1 r.2 _ h6 (by omega) hr
theorem ahV (aB params:Wq0) (hk:dx aB=true) (hk':dx params=true) (hcl:aB.length<=100) (hp:params.length<=100) (d n:Nat) (c:ak) (hc:aT c) (hn:1000<=n) (hn':n<4294967296) (hd1:1<=d) (hd:d<=3):
  Ok (F31 n c aB params (d:Int)) fun r=>aT r.2/\lH aB params r.1=0/\szP r.1<=119:=by
 unfold F31 TC;refine Ok.bind (MW aB params hk hcl hp d n c hc (by omega) (by omega)) fun r hr=> ?_
 have hs:szP r.1<=119:=(hr.up hd).sz;rw[XU n aB params r.1 (by omega) (by omega) (by omega) hn',Option.bind_some]
 refine Ok.ite (fun h2=> ?_) fun h2=> ?_
 ·refine Ok.bind (MW aB params hk hcl hp 1 n r.2 hr.case (by omega) (by omega)) fun q hq=>Ok.pure ⟨hq.case,?_,(hq.up (by omega:1<=3)).sz⟩
  have h1:=hq.nd;have h2:=hq.dp;have e1:¬24<ndP q.1:=by simp[nB] at h1;omega
  have e2:¬8<dpP q.1:=by omega
  simp[lH,hk,hk',e1,e2,hq.val]
 ·refine Ok.pure ⟨hr.case,?_,hs⟩;have:lH aB params r.1=2\/lH aB params r.1=0:=by
   unfold lH;cases decide (24<ndP r.1)||decide (8<dpP r.1)<;>simp[hk,hk',hr.val]
  simp at h2;exact this.resolve_left h2
def bf:Wq0->Wq2->Bool
 | [],[]=>true
 |k::ks,v::vs=>(fD v&&v.aw==k)&&bf ks vs
 |_,_=>false
theorem fK:∀{ks:Wq0} {vs:Wq2},bf ks vs=true->vs.length=ks.length
 | [],[],_=>rfl
 |k::ks,v::vs,h=>by simp[bf] at h;simp[fK h.2]
 | [],_::_,h=>by simp[bf] at h
 |_::_,[],h=>by simp[bf] at h
theorem vK:∀{ks:Wq0} {vs:Wq2} {k:Int} {v:aI},bf ks vs=true->v.aw=k->fD v=true->bf (ks++ [k]) (vs++ [v])=true
 | [],[],k,v,_,h1,h2=>by simp[bf,h1,h2]
 |k::ks,v::vs,_,_,h,h1,h2=>by
  simp[bf] at h;simp[bf,h.1,vK h.2 h1 h2]
 | [],_::_,_,_,h,_,_=>by simp[bf] at h
 |_::_,[],_,_,h,_,_=>by simp[bf] at h
theorem XN (ks:Wq0) (hk:dx ks=true) (hl:ks.length<=100) (key:Int) (n0:Nat):∀(xs:Wq0) (i m:Nat) (out:Wq2) (c:ak),ks.drop i=xs->300+xs.length<m->aT c->bf (ks.take i) out=true->
  Ok (ly (pB n0) m key 1 ks (ks.length:Int) (i:Int) c out) fun r=>aT r.2/\bf ks r.1=true
 | [],i,m+1,out,c,hd,hm,hc,ho=>by
  have:ks.length<=i:=by simpa using hd
  have hq:¬((i:Int)<(ks.length:Int)):=by omega
  simp only[ly,y8,pB,hq,decide_false,Bool.false_eq_true,if_false];exact Ok.pure ⟨hc,by rwa[List.take_of_length_le this] at ho⟩
 |x::xs,i,m+1,out,c,hd,hm,hc,ho=>by
  obtain ⟨g1,g2,g3⟩:=aK hd;have hq:((i:Int)<(ks.length:Int)):=by omega
  have hx:=j9 hk g1;have hkr:=nW hx;have hlen:=fK ho;rw[List.length_take] at hlen;simp only[ly,y8,hq,decide_true,if_true,aJ,g1,Option.bind_some];simp at hm;have cell:Ok (nI (lA (ly (pB n0) m) m) m key 1 x ks (ks.length:Int) (i:Int) false c out) fun r=>aT r.2/\bf ks r.1=true:=by
   unfold nI lA;simp only[Bool.false_eq_true,if_false];refine Ok.bind (w9 m (by omega) c x hc hkr.1 hkr.2) fun r ⟨hr,r1,r2⟩=> ?_
   rw[cB _ _ (by simp;omega),Option.bind_some,aY g3 (by omega)]
   refine XN ks hk hl key n0 xs (i+1) m _ _ g2 (by omega) hr ?_
   rw[List.take_succ,g1];exact vK ho r1 r2
  refine Ok.ite (fun _=> ?_) fun _=>cell
  exact cell
 |_,_,0,_,_,_,hm,_,_=>by simp at hm
theorem ahU (n:Nat) (hn:1000<=n) (c:ak) (ks:Wq0) (key:Int) (hk:dx ks=true) (hl:ks.length<=100) (hc:aT c):Ok (F33 n c ks key 1) fun r=>aT r.2/\bf ks r.1=true:=
 XN ks hk hl key n ks 0 n [] c rfl (by omega) hc rfl
section
theorem Ev (x y:UInt8) (a b:List UInt8):Op.bytesLess (x::a) (y::b)=(decide (x<y)||(x==y&&Op.bytesLess a b)):=by simp[Op.bytesLess]
theorem rJ:∀{a b:List UInt8},Op.bytesLess a b=true->Op.bytesLess b a=false
 | [],[],h=>by simp[Op.bytesLess] at h
 | [],_::_,_=>by simp[Op.bytesLess]
 |_::_,[],h=>by simp[Op.bytesLess] at h
 |x::a,y::b,h=>by
  rw[Ev] at h ⊢;by_cases h1:x<y
  ·have h2:¬y<x:=fun h2=>UInt8.lt_irrefl x (UInt8.lt_trans h1 h2)
   have h3:¬y=x:=fun e=>by subst e;exact UInt8.lt_irrefl _ h1
   simp[h2,h3]
  ·by_cases h3:x=y
   ·subst h3;simp[UInt8.lt_irrefl] at h ⊢;exact rJ h
   ·simp[h1,h3] at h
theorem rI:∀{a b:List UInt8},Op.bytesLess a b=false->a≠b->Op.bytesLess b a=true
 | [],[],_,h=>absurd rfl h
 | [],_::_,h,_=>by simp[Op.bytesLess] at h
 |_::_,[],_,_=>by simp[Op.bytesLess]
 |x::a,y::b,h,hne=>by
  rw[Ev] at h ⊢;by_cases h1:x<y
  ·simp[h1] at h
  ·by_cases h2:y<x
   ·simp[h2]
   ·have:x=y:=UInt8.le_antisymm (UInt8.not_lt.1 h2) (UInt8.not_lt.1 h1);subst this;simp[UInt8.lt_irrefl] at h ⊢;exact rI h (fun e=>hne (by rw[e]))
theorem X8 (a b:aI):fU b a= - fU a b:=by
 unfold fU;by_cases h1:a.aw<b.aw
 ·have:¬b.aw<a.aw:=by omega
  simp[h1,this]
 ·by_cases h2:b.aw<a.aw
  ·simp[h1,h2]
  ·by_cases h3:a.bM<b.bM
   ·have:¬b.bM<a.bM:=by omega
    simp[h1,h2,h3,this]
   ·by_cases h4:b.bM<a.bM
    ·simp[h1,h2,h3,h4]
    ·cases h5:Op.bytesLess a.bl.toList b.bl.toList with
     |true=>
      have h6:=rJ h5;have h7:¬b.bl=a.bl:=fun e=>by rw[e,g5] at h5;cases h5
      simp[h1,h2,h3,h4,h6,h7]
     |false=>
      by_cases h6:a.bl=b.bl
      ·simp[h1,h2,h3,h4,h6,g5]
      ·have h7:Op.bytesLess b.bl.toList a.bl.toList=true:=rI h5 (fun e=>h6 (oA (by rw[ma,ma] at e;exact e)))
       simp[h1,h2,h3,h4,h6,h7]
theorem P7 (a b:aI):fU a b= -1\/fU a b=0\/fU a b=1:=by
 unfold fU;repeat' split
 all_goals simp
def bZ:Wq2->Wq2->Int
 | [],[]=>0
 | [],_::_=> -1
 |_::_,[]=>1
 |a::x,b::y=>if fU a b=0 then bZ x y else fU a b
theorem tU:∀(x y:Wq2),bZ y x= - bZ x y
 | [],[]=>rfl
 | [],_::_=>rfl
 |_::_,[]=>rfl
 |a::x,b::y=>by
  have h:=X8 a b;simp only[bZ];rw[tU x y,h];by_cases h1:fU a b=0
  ·simp[h1]
  ·have:¬ -fU a b=0:=by omega
   simp[h1,this]
theorem oL:∀(x y:Wq2),bZ x y= -1\/bZ x y=0\/bZ x y=1
 | [],[]=>by simp[bZ]
 | [],_::_=>by simp[bZ]
 |_::_,[]=>by simp[bZ]
 |a::x,b::y=>by
  simp only[bZ];split
  ·exact oL x y
  ·exact P7 a b
theorem l4 (x:Wq2):bZ x x=0:=by have:=tU x x;omega
theorem XP (n0:Nat) (a b:Wq2) (ha:a.length<4294967296):∀(x:Wq2) (i m:Nat),a.drop i=x->i<=a.length->i<=b.length->x.length<m->yL (Cy n0) m a b (i:Int)=some (bZ (a.drop i) (b.drop i))
 | [],i,m+1,hd,h1,h2,hm=>by
  have hl:a.length<=i:=by simpa using hd
  have hq:¬((i:Int)<(a.length:Int)):=by omega
  simp only[yL,H8,Cy,hq,decide_false,Bool.false_eq_true,if_false];rw[hd];cases hb:b.drop i with
  |nil=>
   have:b.length<=i:=by simpa using hb
   have e1:¬(a.length:Int)<b.length:=by omega
   have e2:¬(b.length:Int)<a.length:=by omega
   simp[e1,e2,bZ]
  |cons y l=>
   obtain ⟨_,_,g3⟩:=aK hb;have e1:(a.length:Int)<b.length:=by omega
   simp[e1,bZ]
 |x::xs,i,m+1,hd,h1,h2,hm=>by
  obtain ⟨g1,g2,g3⟩:=aK hd;have hq:(i:Int)<(a.length:Int):=by omega
  simp only[yL,H8,hq,decide_true,if_true];cases hb:b.drop i with
  |nil=>
   have hl:b.length<=i:=by simpa using hb
   have e0:¬(i:Int)<b.length:=by omega
   have e1:¬(a.length:Int)<b.length:=by omega
   have e2:(b.length:Int)<a.length:=by omega
   simp[e0,e1,e2,Cy,hd,bZ]
  |cons y l=>
   obtain ⟨k1,k2,k3⟩:=aK hb;have e0:(i:Int)<b.length:=by omega
   simp only[e0,decide_true,if_true,aJ,g1,k1,Option.bind_some,ahL];rw[hd,aY g3 ha];simp only[bZ];by_cases h:fU x y=0
   ·simp only[h,bne_self_eq_false,Bool.false_eq_true,if_false,if_true];rw[XP n0 a b ha xs (i+1) m g2 (by omega) (by omega) (by simp at hm;omega),g2,k2]
   ·have:(fU x y !=0)=true:=by simpa using h
    simp only[this,h,if_true,if_false]
 |_,_,0,_,_,_,hm=>by simp at hm
theorem qN (n:Nat) (a b:Wq2) (ha:a.length<4294967296) (hn:a.length<n):F22 n a b=some (bZ a b):=by
 have:=XP n a b ha a 0 n rfl (by omega) (by omega) hn
 simp only[List.drop_zero] at this;exact this
theorem XA (n0:Nat) (a b:Wq2) (ha:a.length<4294967296):∀(x:Wq2) (i m:Nat),a.drop i=x->i<=a.length->i<=b.length->x.length<m->uX (Ci n0) m a b a (a.length:Int) (i:Int)=some (bZ (a.drop i) (b.drop i))
 | [],i,m+1,hd,h1,h2,hm=>by
  have hl:a.length<=i:=by simpa using hd
  have hq:¬((i:Int)<(a.length:Int)):=by omega
  simp only[uX,GF,Ci,hq,decide_false,Bool.false_eq_true,if_false];rw[hd];cases hb:b.drop i with
  |nil=>
   have:b.length<=i:=by simpa using hb
   have e1:¬(a.length:Int)<b.length:=by omega
   simp[e1,bZ]
  |cons y l=>
   obtain ⟨_,_,g3⟩:=aK hb;have e1:(a.length:Int)<b.length:=by omega
   simp[e1,bZ]
 |x::xs,i,m+1,hd,h1,h2,hm=>by
  obtain ⟨g1,g2,g3⟩:=aK hd;have hq:(i:Int)<(a.length:Int):=by omega
  simp only[uX,GF,hq,decide_true,if_true,aJ,g1,Option.bind_some];cases hb:b.drop i with
  |nil=>
   have hl:b.length<=i:=by simpa using hb
   have e0:¬(i:Int)<b.length:=by omega
   simp[e0,hd,bZ]
  |cons y l=>
   obtain ⟨k1,k2,k3⟩:=aK hb;have e0:(i:Int)<b.length:=by omega
   simp only[e0,decide_true,Bool.not_true,Bool.false_eq_true,if_false,k1,Option.bind_some,ahx];rw[hd,aY g3 ha];simp only[bZ];by_cases h:fU x y=0
   ·simp only[h,bne_self_eq_false,Bool.false_eq_true,if_false,if_true];rw[XA n0 a b ha xs (i+1) m g2 (by omega) (by omega) (by simp at hm;omega),g2,k2]
   ·have:(fU x y !=0)=true:=by simpa using h
    simp only[this,h,if_true,if_false]
 |_,_,0,_,_,_,hm=>by simp at hm
theorem xa (n:Nat) (a b:Wq2) (ha:a.length<4294967296) (hn:a.length<n):F52 n a b=some (bZ a b):=by
 have:=XA n a b ha a 0 n rfl (by omega) (by omega) hn
 simp only[List.drop_zero] at this;show (uX (Ci n) n a b a (a.length:Int) 0).bind (fun x=>some x)=_
 rw[show (0:Int)=((0:Nat):Int) from rfl,this];rfl
def gA (t:Int) (a:Wq2) (u:Int) (b:Wq2):Int:=if t=u then bZ a b else if t<u then -1 else 1
theorem aaa (t:Int) (a:Wq2) (u:Int) (b:Wq2):gA u b t a= - gA t a u b:=by
 unfold gA;by_cases h:t=u
 ·subst h;simp[tU a b]
 ·have h':¬u=t:=fun e=>h e.symm
  by_cases h2:t<u
  ·have:¬u<t:=by omega
   simp[h,h',h2,this]
  ·have:u<t:=by omega
   simp[h,h',h2,this]
theorem Sl (t:Int) (a:Wq2) (u:Int) (b:Wq2):gA t a u b= -1\/gA t a u b=0\/gA t a u b=1:=by
 unfold gA;split
 ·exact oL a b
 ·split<;>simp
theorem XX (n:Nat) (t u:Int) (a b:Wq2) (ha:a.length<4294967296) (hn:a.length<n):F36 n t a u b=some (gA t a u b):=by
 unfold F36 Tz gA;rw[qN n a b ha hn];by_cases h:t=u
 ·simp[h]
 ·have:(t !=u)=true:=by simpa using h
  by_cases h2:t<u<;>simp[h,h2]
theorem ahP (n:Nat) (a b:aA) (ha:a.aq.length<4294967296) (hn:a.aq.length<n):F42 n a b=some (gA a.au a.aq b.au b.aq):=by
 unfold F42 Tt gA;rw[xa n a.aq b.aq ha hn];by_cases h:a.au=b.au
 ·simp[h]
 ·by_cases h2:a.au<b.au<;>simp[h,h2]
def aS (T:av):Wq0:=T.ah.map (·.aw)
theorem nY {α:Type} {xs:List α} {i:Int} {x:α} (h:idx xs i=some x):0<=i/\i.toNat<xs.length/\xs[i.toNat]? =some x:=by
 unfold idx at h;split at h
 ·exact ⟨by assumption,(List.getElem?_eq_some_iff.1 h).1,h⟩
 ·cases h
theorem XO (n0:Nat) (cs:Wq4) (hl:cs.length<=1000):∀(x:Wq4) (i m:Nat) (out:Wq0),cs.drop i=x->x.length<m->out=(cs.take i).map (·.aw)->yH (HT n0) m cs (cs.length:Int) (i:Int) out=some (cs.map (·.aw))
 | [],i,m+1,out,hd,hm,ho=>by
  have hl:cs.length<=i:=by simpa using hd
  have hq:¬((i:Int)<(cs.length:Int)):=by omega
  simp only[yH,HU,HT,hq,decide_false,Bool.false_eq_true,if_false];rw[ho,List.take_of_length_le hl]
 |x::xs,i,m+1,out,hd,hm,ho=>by
  obtain ⟨g1,g2,g3⟩:=aK hd;have hq:(i:Int)<(cs.length:Int):=by omega
  simp only[yH,HU,hq,decide_true,if_true,aJ,g1,Option.bind_some];rw[cB _ _ (by rw[ho];simp;omega),Option.bind_some,aY g3 (by omega)]
  refine XO n0 cs hl xs (i+1) m _ g2 (by simp at hm;omega) ?_
  rw[ho,List.take_succ,g1];simp
 |_,_,0,_,_,hm,_=>by simp at hm
theorem XE (n0:Nat) (cs:Wq4) (hl:cs.length<=1000):∀(x:Wq4) (i m:Nat) (out:Wq0),cs.drop i=x->x.length<m->out=(cs.take i).map (·.aw)->yk (GU n0) m cs (cs.length:Int) (i:Int) out=some (cs.map (·.aw))
 | [],i,m+1,out,hd,hm,ho=>by
  have hl:cs.length<=i:=by simpa using hd
  have hq:¬((i:Int)<(cs.length:Int)):=by omega
  simp only[yk,GV,GU,hq,decide_false,Bool.false_eq_true,if_false];rw[ho,List.take_of_length_le hl]
 |x::xs,i,m+1,out,hd,hm,ho=>by
  obtain ⟨g1,g2,g3⟩:=aK hd;have hq:(i:Int)<(cs.length:Int):=by omega
  simp only[yk,GV,hq,decide_true,if_true,aJ,g1,Option.bind_some];rw[cB _ _ (by rw[ho];simp;omega),Option.bind_some,aY g3 (by omega)]
  refine XE n0 cs hl xs (i+1) m _ g2 (by simp at hm;omega) ?_
  rw[ho,List.take_succ,g1];simp
 |_,_,0,_,_,hm,_=>by simp at hm
section
variable {s:ag} {t:Int} {T:av} {n:Nat}
theorem DZ {α:Type} {xs:List α} {i:Int} (h0:0<=i) (h:¬i<(xs.length:Int)):idx xs i=none:=by
 unfold idx;rw[if_pos h0,List.getElem?_eq_none (by omega)]
theorem w8 (hT:idx s.ae t=some T):F81 n s t=some true:=by
 obtain ⟨h0,h1,_⟩:=nY hT;have e1:¬t<0:=by omega
 have e2:t<(s.ae.length:Int):=by omega
 simp[F81,S2,e1,e2]
theorem tC (hT:idx s.ae t=some T) (hl:T.ah.length<=1000) (hn:1000<n):F32 n s t=some (aS T):=by
 obtain ⟨h0,h1,_⟩:=nY hT;have e1:¬t<0:=by omega
 have e2:t<(s.ae.length:Int):=by omega
 simp only[F32,TB,e1,e2,decide_false,decide_true,Bool.not_true,Bool.false_eq_true,if_false,hT,Option.bind_some];exact XO n T.ah hl T.ah 0 n [] rfl (by omega) rfl
theorem MV (hT:idx s.ae t=some T) (hl:T.ah.length<=1000) (hn:1000<n):F78 n s t=some (aS T):=by
 simp only[F78,S5,w8 hT,Option.bind_some,Bool.not_true,Bool.false_eq_true,if_false,hT];have:lE (T.ah.length:Int) (0:Int)=some (List.replicate T.ah.length 0):=by simp[lE];omega
 rw[this,Option.bind_some];exact XE n T.ah hl T.ah 0 n [] rfl (by omega) rfl
structure cn (T:av):Prop where
 hZ:1<=T.aq
 bO:T.aq<=(T.ah.length:Int)
 aB:T.ah.length<=8
 ks:dx (aS T)=true
def lL (T:av):Wq0:=(aS T).take T.aq.toNat
theorem bW (T:av):(aS T).length=T.ah.length:=by simp[aS]
theorem ahR (hT:idx s.ae t=some T) (ht:cn T) (hn:1000<n):F40 n s t=some (lL T):=by
 have:=ht.aB;have h1:=ht.hZ;have h2:=ht.bO;have hl:=bW T;have e1:¬T.aq<0:=by omega
 have e2:¬((aS T).length:Int)<T.aq:=by omega
 simp only[F40,Tv,MV hT (by omega) hn,w8 hT,Option.bind_some,Bool.not_true,Bool.false_eq_true,if_false,hT,e1,e2,decide_false]
 have:gd (aS T).length T.aq=some T.aq.toNat:=by unfold gd;rw[if_pos (by omega)]
 rw[this,Option.bind_some];rfl
theorem tg {α:Type} {xs:List α} {k:Int} (h0:0<=k) (h:k.toNat<=xs.length):cut xs none (some k)=some (xs.take k.toNat):=by
 obtain ⟨m,rfl⟩:∃m:Nat,k=m:=⟨k.toNat,by omega⟩
 simp at h;simp[cut,h]
theorem afi (hT:idx s.ae t=some T) (ht:cn T) (hn:1000<n):SN n s t=some (lL T):=by
 have:=ht.aB;have h1:=ht.hZ;have h2:=ht.bO;have hl:=bW T;have e0:(aS T).isEmpty=false:=by
  cases h:aS T with
  |nil=>rw[h] at hl;simp at hl;omega
  |cons=>rfl
 have e2:¬((aS T).length:Int)<T.aq:=by omega
 have e3:0<T.aq:=by omega
 simp only[SN,Np,tC hT (by omega) hn,Option.bind_some,e0,Bool.false_eq_true,if_false,hT,e2,e3,if_true]
 rw[tg (by omega) (by omega),Option.bind_some]
 rfl
theorem qM (r:Wq2) (h:r.length<=1000000):F54 n r=some r:=by
 simp only[F54,Tn];rw[cB _ _ (by simpa using h)]
 rfl
theorem oh (hT:idx s.ae t=some T) (ht:cn T) (r:Wq2) (hr:r.length=T.ah.length):F34 n s t r=some (r.take T.aq.toNat):=by
 obtain ⟨h0,h1,_⟩:=nY hT;have:=ht.aB;have k1:=ht.hZ;have k2:=ht.bO;have e1:¬t<0:=by omega
 have e2:t<(s.ae.length:Int):=by omega
 have e3:¬(r.length:Int)<T.aq:=by omega
 have e4:0<T.aq:=by omega
 simp only[F34,TA,e1,e2,decide_false,decide_true,Bool.not_true,Bool.false_eq_true,if_false,hT,Option.bind_some,e3,e4,if_true];rw[tg (by omega) (by omega),Option.bind_some,qM _ (by simp;omega)]
 rfl
theorem ahD (hT:idx s.ae t=some T) (ht:cn T) (r:Wq2) (hr:r.length=T.ah.length):F82 n s t r=some (r.take T.aq.toNat):=by
 have:=ht.aB;have k1:=ht.hZ;have k2:=ht.bO;have e3:¬(r.length:Int)<T.aq:=by omega
 have e4:¬T.aq<0:=by omega
 simp only[F82,S1,w8 hT,Option.bind_some,Bool.not_true,Bool.false_eq_true,if_false,hT,e3,e4,decide_false];rw[tg (by omega) (by omega),Option.bind_some,cB _ _ (by simp;omega),Option.bind_some]
 rfl
end
theorem XM (n0:Nat) (ks:Wq0) (r:Wq2) (hr:r.length=ks.length) (hl:r.length<4294967296):∀(x:Wq2) (i m:Nat),r.drop i=x->i<=r.length->x.length<m->yE (HI n0) m ks r (r.length:Int) (i:Int)=some (bf (ks.drop i) (r.drop i))
 | [],i,m+1,hd,h1,hm=>by
  have hq':r.length<=i:=by simpa using hd
  have hq:¬((i:Int)<(r.length:Int)):=by omega
  simp only[yE,HJ,HI,hq,decide_false,Bool.false_eq_true,if_false];rw[hd,List.drop_of_length_le (by omega)]
  rfl
 |x::xs,i,m+1,hd,h1,hm=>by
  obtain ⟨g1,g2,g3⟩:=aK hd;have hq:(i:Int)<(r.length:Int):=by omega
  obtain ⟨k,ks',hk⟩:∃k ks',ks.drop i=k::ks':=by
   rw[List.drop_eq_getElem_cons (by omega)]
   exact ⟨_,_,rfl⟩
  obtain ⟨k1,k2,k3⟩:=aK hk;simp only[yE,HJ,hq,decide_true,if_true,aJ,g1,k1,Option.bind_some,XT];rw[hd,hk,aY g3 hl];simp only[bf];cases hv:fD x with
  |false=>simp
  |true=>
   by_cases he:x.aw=k
   ·simp only[he,bne_self_eq_false,Bool.not_true,Bool.false_eq_true,if_false,beq_self_eq_true,Bool.true_and];rw[XM n0 ks r hr hl xs (i+1) m g2 (by omega) (by simp at hm;omega),g2,k2]
   ·simp[he]
 |_,_,0,_,_,hm=>by simp at hm
theorem sR {ks:Wq0} {r:Wq2} (h:¬r.length=ks.length):bf ks r=false:=by
 cases hr:bf ks r with
 |false=>rfl
 |true=>exact absurd (fK hr) h
theorem XW (n:Nat) (r:Wq2) (ks:Wq0) (hl:ks.length<n) (hk:ks.length<4294967296):F39 n r ks=some (bf ks r):=by
 unfold F39 Tw;by_cases h:r.length=ks.length
 ·have e:((r.length:Int) !=(ks.length:Int))=false:=by simp[h]
  rw[e];simp only[Bool.false_eq_true,if_false];have:=XM n ks r h (by omega) r 0 n rfl (by omega) (by omega)
  simpa using this
 ·have e:((r.length:Int) !=(ks.length:Int))=true:=by simp;omega
  rw[e,sR h];rfl
theorem qq {v:aI} {k:Int} (hk:kOK k=true) (h:v.aw=k):fD v=dk v:=by
 have:=nW hk;have:3<=v.aw:=by omega
 simp[fD,this]
theorem E7 {l:Wq0} (h:dx l=true) (i:Nat):dx (l.drop i)=true:=by
 unfold dx at h ⊢;rw[List.all_eq_true] at h ⊢;exact fun x hx=>h x (List.mem_of_mem_drop hx)
theorem WU {l:Wq0} (h:dx l=true) (i:Nat):dx (l.take i)=true:=by
 unfold dx at h ⊢;rw[List.all_eq_true] at h ⊢;exact fun x hx=>h x (List.mem_of_mem_take hx)
theorem XD (n0:Nat) (ks:Wq0) (hks:dx ks=true) (r:Wq2) (hr:r.length=ks.length) (hl:r.length<4294967296):∀(x:Wq2) (i m:Nat),r.drop i=x->i<=r.length->x.length<m->yg (GJ n0) m ks r (r.length:Int) (i:Int)=some (bf (ks.drop i) (r.drop i))
 | [],i,m+1,hd,h1,hm=>by
  have hq':r.length<=i:=by simpa using hd
  have hq:¬((i:Int)<(r.length:Int)):=by omega
  simp only[yg,GK,GJ,hq,decide_false,Bool.false_eq_true,if_false];rw[hd,List.drop_of_length_le (by omega)]
  rfl
 |x::xs,i,m+1,hd,h1,hm=>by
  obtain ⟨g1,g2,g3⟩:=aK hd;have hq:(i:Int)<(r.length:Int):=by omega
  obtain ⟨k,ks',hk⟩:∃k ks',ks.drop i=k::ks':=by
   rw[List.drop_eq_getElem_cons (by omega)]
   exact ⟨_,_,rfl⟩
  obtain ⟨k1,k2,k3⟩:=aK hk;have hkk:=j9 hks k1;simp only[yg,GK,hq,decide_true,if_true,aJ,g1,k1,Option.bind_some,tB];rw[hd,hk,aY g3 hl];simp only[bf];by_cases he:x.aw=k
  ·rw[qq hkk he];cases hv:dk x with
   |false=>simp
   |true=>
    simp only[he,bne_self_eq_false,Bool.not_true,Bool.false_eq_true,if_false,beq_self_eq_true,Bool.true_and];rw[XD n0 ks hks r hr hl xs (i+1) m g2 (by omega) (by simp at hm;omega),g2,k2]
  ·cases dk x<;>simp[he]
 |_,_,0,_,_,hm=>by simp at hm
section
variable {s:ag} {t:Int} {T:av} {n:Nat}
theorem zW (ht:cn T):(lL T).length=T.aq.toNat:=by
 have h1:=ht.hZ;have h2:=ht.bO;simp[lL,bW];omega
theorem ahA (hT:idx s.ae t=some T) (ht:cn T) (r:Wq2) (hn:1000<n):F85 n s t r=some (bf (lL T) r):=by
 have hc:=ht.aB;have hl:=zW ht;have h1:=ht.hZ;have h2:=ht.bO;simp only[F85,SY,afi hT ht hn,Option.bind_some];by_cases h:r.length=(lL T).length
 ·have e:(((lL T).length:Int) !=(r.length:Int))=false:=by simp[h]
  rw[e];simp only[Bool.false_eq_true,if_false];have:=XD n (lL T) (WU ht.ks _) r h (by omega) r 0 n rfl (by omega) (by omega)
  simpa using this
 ·have e:(((lL T).length:Int) !=(r.length:Int))=true:=by simp;omega
  rw[e,sR h];rfl
end
end
section
theorem ub {T:av} {i:Nat} {c:cP} (h:T.ah[i]? =some c):(aS T)[i]? =some c.aw:=by simp[aS,h]
theorem nA {T:av} {i:Nat} {c:cP} (h:T.ah[i]? =some c):(aS T).drop i=c.aw::(aS T).drop (i+1):=by
 have h1:i<(aS T).length:=by rw[bW];exact (List.getElem?_eq_some_iff.1 h).1
 have h2:=ub h;rw[List.drop_eq_getElem_cons h1];rw[List.getElem?_eq_getElem h1] at h2;rw[Option.some.inj h2]
theorem XG (n0:Nat) (T:av) (ht:dx (aS T)=true) (r:Wq2) (hr:r.length=T.ah.length) (hl:r.length<4294967296):∀(x:Wq2) (i m:Nat),r.drop i=x->i<=r.length->x.length<m->lx (pA n0) m 1 r (r.length:Int) (i:Int) T=some (bf ((aS T).drop i) (r.drop i))
 | [],i,m+1,hd,h1,hm=>by
  have hq':r.length<=i:=by simpa using hd
  have hq:¬((i:Int)<(r.length:Int)):=by omega
  simp only[lx,yZ,pA,hq,decide_false,Bool.false_eq_true,if_false];rw[hd,List.drop_of_length_le (by rw[bW];omega)]
  rfl
 |x::xs,i,m+1,hd,h1,hm=>by
  obtain ⟨g1,g2,g3⟩:=aK hd;have hq:(i:Int)<(r.length:Int):=by omega
  have hlt:i<T.ah.length:=by omega
  have hc:T.ah[i]? =some T.ah[i]:=List.getElem?_eq_getElem hlt;have hk:=nA hc;have hkk:=j9 ht (ub hc);generalize T.ah[i]=c at hc hk hkk;have key:rT (lx (pA n0) m) m 1 (i:Int) false r (r.length:Int) (i:Int) T x=if x.aw=c.aw then lx (pA n0) m 1 r (r.length:Int) (w64 ((i:Int)+1)) T else some false:=by
   unfold rT y6;simp only[aJ,hc,Option.bind_some];by_cases he:x.aw=c.aw
   ·simp[he]
   ·simp[he]
  simp only[lx,yZ,hq,decide_true,if_true,aJ,g1,Option.bind_some,EH];rw[hd,hk];simp only[bf];by_cases he:x.aw=c.aw
  ·rw[qq hkk he];cases hv:dk x with
   |false=>simp
   |true=>
    have ih:=XG n0 T ht r hr hl xs (i+1) m g2 (by omega) (by simp at hm;omega)
    rw[g2] at ih;simp only[Bool.not_true,Bool.false_eq_true,if_false,bne_self_eq_false,key,he,if_true,aY g3 hl,ih];simp
  ·cases hv:dk x with
   |false=>simp[he]
   |true=>
    simp only[Bool.not_true,Bool.false_eq_true,if_false,bne_self_eq_false,key,he];simp[he]
 |_,_,0,_,_,hm=>by simp at hm
section
variable {s:ag} {t:Int} {T:av} {n:Nat}
theorem ahH (hT:idx s.ae t=some T) (ht:cn T) (r:Wq2) (hn:1000<n):F70 n s t r 1=some (bf (aS T) r):=by
 have hc:=ht.aB;have hl:=bW T;simp only[F70,G7,rS,bne_self_eq_false,Bool.false_eq_true,if_false,w8 hT,Option.bind_some,Bool.not_true,hT];by_cases h:r.length=T.ah.length
 ·have e:((r.length:Int) !=(T.ah.length:Int))=false:=by simp[h]
  rw[e];simp only[Bool.false_eq_true,if_false];have:=XG n T ht.ks r h (by omega) r 0 n rfl (by omega) (by omega)
  simp only[List.drop_zero] at this;exact this
 ·have e:((r.length:Int) !=(T.ah.length:Int))=true:=by simp;omega
  rw[e,sR (by omega)]
  rfl
end
theorem XC (n0:Nat) (s:ag) (t:Int) (T:av) (hT:idx s.ae t=some T) (ht:dx (aS T)=true) (r:Wq2) (hr:r.length=T.ah.length) (hl:r.length<4294967296):∀(x:Wq2) (i m:Nat),r.drop i=x->i<=r.length->x.length<m->pq (yV n0) m t 1 r (r.length:Int) (i:Int) s=some (bf ((aS T).drop i) (r.drop i))
 | [],i,m+1,hd,h1,hm=>by
  have hq':r.length<=i:=by simpa using hd
  have hq:¬((i:Int)<(r.length:Int)):=by omega
  simp only[pq,yW,yV,hq,decide_false,Bool.false_eq_true,if_false];rw[hd,List.drop_of_length_le (by rw[bW];omega)]
  rfl
 |x::xs,i,m+1,hd,h1,hm=>by
  obtain ⟨g1,g2,g3⟩:=aK hd;have hq:(i:Int)<(r.length:Int):=by omega
  have hlt:i<T.ah.length:=by omega
  have hc:T.ah[i]? =some T.ah[i]:=List.getElem?_eq_getElem hlt;have hk:=nA hc;have hkk:=j9 ht (ub hc);generalize T.ah[i]=c at hc hk hkk;simp only[pq,yW,hq,decide_true,if_true,aJ,g1,Option.bind_some,tB];rw[hd,hk];simp only[bf];by_cases he:x.aw=c.aw
  ·rw[qq hkk he];cases hv:dk x with
   |false=>simp
   |true=>
    have ih:=XC n0 s t T hT ht r hr hl xs (i+1) m g2 (by omega) (by simp at hm;omega)
    rw[g2] at ih;simp only[Bool.not_true,Bool.false_eq_true,if_false,hT,hc,Option.bind_some,he,beq_self_eq_true,if_true,jW,aY g3 hl,ih];simp
  ·cases hv:dk x with
   |false=>simp[he]
   |true=>
    have e1:(x.aw==c.aw)=false:=by simpa using he
    simp only[Bool.not_true,Bool.false_eq_true,if_false,hT,hc,Option.bind_some,e1,bne_self_eq_false,lz,show ((1:Int)==3)=false from rfl,ite_self,Bool.and_false,Bool.false_and]
 |_,_,0,_,_,hm=>by simp at hm
section
variable {s:ag} {t:Int} {T:av} {n:Nat}
theorem ahz (hT:idx s.ae t=some T) (ht:cn T) (r:Wq2) (hn:1000<n):F86 n s t r 1=some (bf (aS T) r):=by
 obtain ⟨h0,h1,_⟩:=nY hT;have e1:¬t<0:=by omega
 have e2:t<(s.ae.length:Int):=by omega
 have hc:=ht.aB;have hl:=bW T;simp only[F86,GI,show ¬(1:Int)<1 by omega,show ¬(3:Int)<1 by omega,e1,e2,decide_false,decide_true,Bool.not_true,Bool.false_eq_true,if_false,hT,Option.bind_some]
 by_cases h:r.length=T.ah.length
 ·have e:((r.length:Int) !=(T.ah.length:Int))=false:=by simp[h]
  rw[e];simp only[Bool.false_eq_true,if_false];have:=XC n s t T hT ht.ks r h (by omega) r 0 n rfl (by omega) (by omega)
  simp only[List.drop_zero] at this;exact this
 ·have e:((r.length:Int) !=(T.ah.length:Int))=true:=by simp;omega
  rw[e,sR (by omega)]
  rfl
end
def cS (ks:Wq0):Int->Wq0->Option Wq0
 |_,[]=>some []
 |last,c::cs=>if last<c/\c<(ks.length:Int) then (cS ks c cs).map (fun l=>(ks[c.toNat]?).getD 0::l) else none
theorem XL (n0:Nat) (hn0:1000<n0) (ks:Wq0) (hk:ks.length<=8) (w:aA) (hl:w.ah.length<4294967296):∀(x:Wq0) (i m:Nat) (last:Int) (acc:Wq0),w.ah.drop i=x->x.length<m-> -1<=last->last<8->(acc.length:Int)<=last+1->
  yD (HG n0) m last w.ah (w.ah.length:Int) (i:Int) w ks acc=some (match cS ks last x with|some l=>bf (acc++l) w.aF|none=>false)
 | [],i,m+1,last,acc,hd,hm,h1,h2,h3=>by
  have hq':w.ah.length<=i:=by simpa using hd
  have hq:¬((i:Int)<(w.ah.length:Int)):=by omega
  simp only[yD,HH,HG,hq,decide_false,Bool.false_eq_true,if_false,cS,List.append_nil];rw[XW n0 w.aF acc (by omega) (by omega)]
  rfl
 |c::cs,i,m+1,last,acc,hd,hm,h1,h2,h3=>by
  obtain ⟨g1,g2,g3⟩:=aK hd;have hq:(i:Int)<(w.ah.length:Int):=by omega
  simp only[yD,HH,hq,decide_true,if_true,aJ,g1,Option.bind_some,cS];by_cases h4:last<c
  ·by_cases h5:c<(ks.length:Int)
   ·have hb:bnd ks.length c=some c.toNat:=by unfold bnd;rw[if_pos (by omega)]
    have hg:ks[c.toNat]? =some (ks[c.toNat]'(by omega)):=List.getElem?_eq_getElem _
    simp only[h4,h5,decide_true,Bool.not_true,Bool.false_eq_true,if_false,hb,Option.bind_some,Nat.zero_add,hg,and_self,if_true,Option.getD_some];rw[cB _ _ (by simp;omega),Option.bind_some,aY g3 hl,XL n0 hn0 ks hk w hl cs (i+1) m c _ g2 (by simp at hm;omega) (by omega) (by omega) (by simp;omega)]
    cases cS ks c cs with
    |none=>rfl
    |some l=>simp
   ·simp[h4,h5]
  ·simp[h4]
 |_,_,0,_,_,_,hm,_,_,_=>by simp at hm
theorem mD {ks:Wq0} (hk:dx ks=true):∀{last:Int} {cs l:Wq0}, -1<=last->cS ks last cs=some l->l.length=cs.length/\∀(i:Nat) (c:Int),cs[i]? =some c->0<=c/\c.toNat<ks.length/\l[i]? =ks[c.toNat]? /\∀k,l[i]? =some k->kOK k=true
 |last,[],l,_,h=>by simp[cS] at h;subst h;exact ⟨rfl,fun i c hc=>by simp at hc⟩
 |last,c::cs,l,h1,h=>by
  simp only[cS] at h;split at h
  ·rename_i hc;cases h2:cS ks c cs with
   |none=>rw[h2] at h;cases h
   |some l'=>
    rw[h2] at h;simp at h;subst h;obtain ⟨e1,e2⟩:=mD hk (by omega) h2
    refine ⟨by simp[e1],fun i d hd=> ?_⟩
    cases i with
    |zero=>
     simp at hd;subst hd;have hg:ks[c.toNat]? =some (ks[c.toNat]'(by omega)):=List.getElem?_eq_getElem _
     refine ⟨by omega,by omega,by simp[hg],fun k hk'=> ?_⟩
     simp[hg] at hk';exact j9 hk (hg.trans (by rw[hk']))
    |succ i=>simpa using e2 i d (by simpa using hd)
  ·cases h
def oM:Option Int->Int->Bool
 |none,_=>true
 |some p,c=>decide (p<c)
def wU (low high:Int):Option Int->Wq0->Bool
 |_,[]=>true
 |prev,c::cs=>decide (low<=c)&&(decide (c<high)&&(oM prev c&&wU low high (some c) cs))
theorem FA {ks:Wq0} {low:Int}:∀{cs:Wq0} {prev:Option Int} {last:Int},((prev=none/\last=low-1)\/(prev=some last/\low<=last))->wU low (ks.length:Int) prev cs=(cS ks last cs).isSome
 | [],prev,last,h=>rfl
 |c::cs,prev,last,h=>by
  simp only[wU,cS];have hk:(oM prev c=true/\low<=c)↔last<c:=by
   rcases h with ⟨rfl,rfl⟩|⟨rfl,h⟩
   ·simp[oM];omega
   ·simp[oM];omega
  by_cases h1:last<c
  ·obtain ⟨k1,k2⟩:=hk.2 h1;have ih:wU low (ks.length:Int) (some c) cs=(cS ks c cs).isSome:=FA (.inr ⟨rfl,k2⟩);by_cases h2:c<(ks.length:Int)
   ·simp[k1,k2,h1,h2,ih]
   ·simp[h1,h2]
  ·by_cases h3:low<=c
   ·have:oM prev c=false:=by
     cases hm:oM prev c with
     |false=>rfl
     |true=>exact absurd (hk.1 ⟨hm,h3⟩) h1
    simp[h1,this]
   ·simp[h1,h3]
theorem XB (n0:Nat) (aB:Wq0) (low high:Int) (hl:aB.length<4294967296):∀(x:Wq0) (i m:Nat),aB.drop i=x->x.length<m->yf (GG n0) m aB low high aB (aB.length:Int) (i:Int)=some (wU low high (if i=0 then none else aB[i-1]?) x)
 | [],i,m+1,hd,hm=>by
  have hq':aB.length<=i:=by simpa using hd
  have hq:¬((i:Int)<(aB.length:Int)):=by omega
  simp only[yf,GH,GG,hq,decide_false,Bool.false_eq_true,if_false];simp[wU]
 |c::cs,i,m+1,hd,hm=>by
  obtain ⟨g1,g2,g3⟩:=aK hd;have hq:(i:Int)<(aB.length:Int):=by omega
  have ih:=XB n0 aB low high hl cs (i+1) m g2 (by simp at hm;omega)
  rw[if_neg (by omega),show i+1-1=i by omega,g1] at ih
  simp only[yf,GH,hq,decide_true,if_true,aJ,g1,Option.bind_some,wU,aY g3 hl,ih];by_cases h1:c<low
  ·have:¬low<=c:=by omega
   simp[h1,this]
  ·have h1':low<=c:=by omega
   by_cases h2:c<high
   ·simp only[h1,h1',h2,decide_false,decide_true,Bool.not_true,Bool.false_eq_true,if_false,Bool.true_and];by_cases h0:i=0
    ·subst h0;simp[oM]
    ·have h0':0<(i:Int):=by omega
     have hw:w64 ((i:Int)-1)=((i-1:Nat):Int):=by rw[bI (by omega) (by omega)];omega
     have hg:aB[i-1]? =some (aB[i-1]'(by omega)):=List.getElem?_eq_getElem _
     simp only[h0',decide_true,if_true,hw,aJ,hg,Option.bind_some,h0,if_false];by_cases h3:aB[i-1]<c
     ·simp[h3,oM]
     ·simp[h3,oM]
   ·simp[h1,h1',h2]
 |_,_,0,_,hm=>by simp at hm
theorem ahy (n:Nat) (aB:Wq0) (low high:Int) (hl:aB.length<4294967296) (hn:aB.length<n):F87 n aB low high=some (wU low high none aB):=by
 have:=XB n aB low high hl aB 0 n rfl hn;rw[if_pos rfl] at this;exact this
theorem XK (n0:Nat) (ks:Wq0) (hks:dx ks=true) (w:aA) (l:Wq0) (last:Int) (h0: -1<=last) (hc:cS ks last w.ah=some l) (hr:w.aF.length=l.length) (hl:w.aF.length<4294967296):∀(x:Wq2) (i m:Nat),w.aF.drop i=x->i<=w.aF.length->x.length<m->yy (Hv n0) m w.aF (w.aF.length:Int) (i:Int) w ks=some (bf (l.drop i) (w.aF.drop i))
 | [],i,m+1,hd,h1,hm=>by
  have hq':w.aF.length<=i:=by simpa using hd
  have hq:¬((i:Int)<(w.aF.length:Int)):=by omega
  simp only[yy,Hw,Hv,hq,decide_false,Bool.false_eq_true,if_false];rw[hd,List.drop_of_length_le (by omega)]
  rfl
 |x::xs,i,m+1,hd,h1,hm=>by
  obtain ⟨g1,g2,g3⟩:=aK hd;have hq:(i:Int)<(w.aF.length:Int):=by omega
  obtain ⟨k,l',hk⟩:∃k l',l.drop i=k::l':=by
   rw[List.drop_eq_getElem_cons (by omega)]
   exact ⟨_,_,rfl⟩
  obtain ⟨k1,k2,k3⟩:=aK hk;obtain ⟨e1,e2⟩:=mD hks h0 hc;have hcl:i<w.ah.length:=by omega
  have hci:w.ah[i]? =some w.ah[i]:=List.getElem?_eq_getElem hcl;generalize w.ah[i]=c at hci;obtain ⟨f1,f2,f3,f4⟩:=e2 i c hci;have hkk:=f4 k k1;have hb:bnd ks.length c=some c.toNat:=by unfold bnd;rw[if_pos ⟨f1,f2⟩]
  simp only[yy,Hw,hq,decide_true,if_true,aJ,g1,Option.bind_some,tB];rw[hd,hk];simp only[bf];by_cases he:x.aw=k
  ·rw[qq hkk he];cases hv:dk x with
   |false=>simp
   |true=>
    have ih:=XK n0 ks hks w l last h0 hc hr hl xs (i+1) m g2 (by omega) (by simp at hm;omega)
    rw[g2,k2] at ih;simp only[Bool.not_true,Bool.false_eq_true,if_false,hci,hb,Option.bind_some,Nat.zero_add,<-f3,k1,he,bne_self_eq_false,aY g3 hl,ih];simp
  ·cases hv:dk x with
   |false=>simp[he]
   |true=>
    simp only[Bool.not_true,Bool.false_eq_true,if_false,hci,hb,Option.bind_some,Nat.zero_add,<-f3,k1];simp[he]
 |_,_,0,_,_,hm=>by simp at hm
def gm (T:av) (w:aA):Bool:=
 if w.fOp=1 then w.ah.isEmpty&&(bf (aS T) w.aF&&bZ (w.aF.take T.aq.toNat) w.aq==0)
 else if w.fOp=2 then (match cS (aS T) (T.aq-1) w.ah with|some l=>bf l w.aF|none=>false)
 else w.ah.isEmpty&&w.aF.isEmpty
def wOK (T:av) (w:aA):Bool:=bf (lL T) w.aq&&gm T w
section
variable {s:ag} {T:av} {n:Nat}
theorem KK {α:Type} (l:List α):((l.length:Int)==0)=l.isEmpty:=by cases l<;>simp;omega
theorem ahQ (w:aA) (hT:idx s.ae w.au=some T) (ht:cn T) (hn:2000000<=n) (hl:w.ah.length<=1500000):F41 n s w=some (gm T w):=by
 have hc:=ht.aB;have k1:=ht.hZ;have k2:=ht.bO;have hkl:=bW T;unfold F41 Tu gm;by_cases h1:w.fOp=1
 ·simp only[h1,beq_self_eq_true,if_true,KK,ahH hT ht w.aF (by omega:1000<n),Option.bind_some]
  cases w.ah.isEmpty with
  |false=>simp
  |true=>
   simp only[if_true,Bool.true_and];cases hr:bf (aS T) w.aF with
   |false=>simp
   |true=>
    have hlen:=fK hr;simp only[if_true,ahD (n:=n) hT ht w.aF (by omega),Option.bind_some]
    rw[xa n _ _ (by simp;omega) (by simp;omega)]
    simp
 ·have e1:(w.fOp==1)=false:=by simpa using h1
  simp only[e1,Bool.false_eq_true,if_false,h1];by_cases h2:w.fOp=2
  ·simp only[h2,beq_self_eq_true,if_true,MV hT (by omega) (by omega:1000<n),Option.bind_some,hT]
   rw[bI (by omega) (by omega)]
   have:=XL n (by omega) (aS T) (by omega) w (by omega) w.ah 0 n (T.aq-1) [] rfl (by omega) (by omega) (by omega) (by simp;omega)
   simpa using this
  ·have e2:(w.fOp==2)=false:=by simpa using h2
   simp only[e2,Bool.false_eq_true,if_false,h2,KK];cases w.ah.isEmpty<;>simp
theorem ahN (w:aA) (hT:idx s.ae w.au=some T) (ht:cn T) (hn:2000000<=n) (hl:w.ah.length<=1500000):F45 n s w=some (wOK T w):=by
 have hc:=ht.aB;have k1:=ht.hZ;have k2:=ht.bO;have hkl:=bW T;unfold F45 Tp wOK gm;rw[ahA hT ht w.aq (by omega),Option.bind_some]
 cases bf (lL T) w.aq with
 |false=>simp
 |true=>
  simp only[Bool.not_true,Bool.false_eq_true,if_false,Bool.true_and,tC hT (by omega) (by omega:1000<n),Option.bind_some]
  by_cases h1:w.fOp=1
  ·simp only[h1,beq_self_eq_true,if_true,KK,ahz hT ht w.aF (by omega:1000<n),Option.bind_some]
   cases w.ah.isEmpty with
   |false=>simp
   |true=>
    simp only[if_true,Bool.true_and];cases hr:bf (aS T) w.aF with
    |false=>simp
    |true=>
     have hlen:=fK hr;simp only[if_true,oh (n:=n) hT ht w.aF (by omega),Option.bind_some]
     rw[qN n _ _ (by simp;omega) (by simp;omega)]
     simp
  ·have e1:(w.fOp==1)=false:=by simpa using h1
   simp only[e1,Bool.false_eq_true,if_false,h1];by_cases h2:w.fOp=2
   ·simp only[h2,beq_self_eq_true,if_true,hT,Option.bind_some];rw[ahy n _ _ _ (by omega) (by omega),Option.bind_some,FA (ks:=aS T) (last:=T.aq-1) (.inl ⟨rfl,rfl⟩)]
    cases hcl:cS (aS T) (T.aq-1) w.ah with
    |none=>simp
    |some l=>
     obtain ⟨q1,q2⟩:=mD ht.ks (by omega) hcl
     simp only[Option.isSome_some,Bool.not_true,Bool.false_eq_true,if_false];by_cases hlen:w.aF.length=w.ah.length
     ·have e:((w.aF.length:Int) !=(w.ah.length:Int))=false:=by simp[hlen]
      rw[e];simp only[Bool.false_eq_true,if_false];have:=XK n (aS T) ht.ks w l (T.aq-1) (by omega) hcl (by omega) (by omega) w.aF 0 n rfl (by omega) (by omega)
      simpa using this
     ·have e:((w.aF.length:Int) !=(w.ah.length:Int))=true:=by simp;omega
      rw[e,sR (by omega)]
      rfl
   ·have e2:(w.fOp==2)=false:=by simpa using h2
    simp only[e2,Bool.false_eq_true,if_false,h2,KK];cases w.ah.isEmpty<;>simp
end
end
structure SOK (s:ag):Prop where
 len:s.ae.length<=8
 tab:∀t T,idx s.ae t=some T->cn T
def nv:Option aA->aA->Bool
 |none,_=>false
 |some p,w=> !decide (gA p.au p.aq w.au w.aq<0)
def eH (s:ag):Option aA->Wq3->Int
 |_,[]=>0
 |prev,w::ws=>
  match idx s.ae w.au with
  |none=>1
  |some T=>if w.fOp<1\/3<w.fOp then 1 else if (!wOK T w)=true then 270 else if nv prev w=true then 270 else eH s (some w) ws
def wB (w:aA):Prop:=w.ah.length<=1500000/\w.aq.length<=1500000
theorem XR (n0:Nat) (s:ag) (hs:SOK s) (ws:Wq3) (hl:ws.length<4294967296) (hb:∀w∈ws,wB w):∀(x:Wq3) (i m:Nat),ws.drop i=x->x.length+2000000<m->yN (Ib n0) m ws ws (ws.length:Int) (i:Int) s=some (eH s (if i=0 then none else ws[i-1]?) x)
 | [],i,m+1,hd,hm=>by
  have hq':ws.length<=i:=by simpa using hd
  have hq:¬((i:Int)<(ws.length:Int)):=by omega
  simp only[yN,Ic,Ib,hq,decide_false,Bool.false_eq_true,if_false];simp[eH]
 |w::x,i,m+1,hd,hm=>by
  obtain ⟨g1,g2,g3⟩:=aK hd;have hq:(i:Int)<(ws.length:Int):=by omega
  have hbw:=hb w (List.mem_of_getElem? g1);simp at hm;have ih:=XR n0 s hs ws hl hb x (i+1) m g2 (by omega)
  rw[if_neg (by omega),show i+1-1=i by omega,g1] at ih
  simp only[yN,Ic,hq,decide_true,if_true,aJ,g1,Option.bind_some,aY g3 hl,ih,eH];by_cases h1:w.fOp<1
  ·have hor:w.fOp<1\/3<w.fOp:=.inl h1;cases hT:idx s.ae w.au<;>simp[h1]
  ·by_cases h2:3<w.fOp
   ·cases hT:idx s.ae w.au<;>simp[h1,h2]
   ·simp only[h1,h2,decide_false,Bool.false_eq_true,if_false,or_self];by_cases h3:w.au<0
    ·have:idx s.ae w.au=none:=by unfold idx;rw[if_neg (by omega)]
     simp[h3,this]
    ·by_cases h4:w.au<(s.ae.length:Int)
     ·obtain ⟨T,hT⟩:∃T,idx s.ae w.au=some T:=by
       unfold idx;rw[if_pos (by omega),List.getElem?_eq_getElem (by omega)];exact ⟨_,rfl⟩
      have ht:=hs.tab _ _ hT;have hc:=ht.aB;have hkl:=zW ht;have k2:=ht.bO;simp only[h3,h4,decide_false,decide_true,Bool.not_true,Bool.false_eq_true,if_false,hT,ahR hT ht (by omega:1000<m),Option.bind_some,XW m w.aq (lL T) (by omega) (by omega),ahQ w hT ht (by omega:2000000<=m) hbw.1,wOK]
      rcases Bool.eq_false_or_eq_true (bf (lL T) w.aq) with hv|hv
      rotate_left
      ·simp[hv]
      ·rcases Bool.eq_false_or_eq_true (gm T w) with hf|hf
       rotate_left
       ·simp[hv,hf]
       ·simp only[hv,hf,Bool.not_true,Bool.false_eq_true,if_false,Bool.and_self];by_cases h0:i=0
        ·subst h0;simp[nv]
        ·have h0':0<(i:Int):=by omega
         have hw:w64 ((i:Int)-1)=((i-1:Nat):Int):=by rw[bI (by omega) (by omega)];omega
         have hg:ws[i-1]? =some (ws[i-1]'(by omega)):=List.getElem?_eq_getElem _
         have hbp:=hb _ (List.mem_of_getElem? hg);generalize ws[i-1]=p at hg hbp;simp only[h0',decide_true,if_true,hw,aJ,hg,Option.bind_some,h0,if_false,ahP m p w (by have:=hbp.2;omega) (by have:=hbp.2;omega),nv]
         by_cases h5:gA p.au p.aq w.au w.aq<0
         ·simp[h5]
         ·simp[h5]
     ·have:idx s.ae w.au=none:=DZ (by omega) h4
      simp[h3,h4,this]
 |_,_,0,_,hm=>by simp at hm
theorem XQ (n0:Nat) (s:ag) (hs:SOK s) (ws:Wq3) (hl:ws.length<4294967296) (hb:∀w∈ws,wB w):∀(x:Wq3) (i m:Nat),ws.drop i=x->x.length+2000000<m->yM (H9 n0) m ws ws (ws.length:Int) (i:Int) s=some (eH s (if i=0 then none else ws[i-1]?) x)
 | [],i,m+1,hd,hm=>by
  have hq':ws.length<=i:=by simpa using hd
  have hq:¬((i:Int)<(ws.length:Int)):=by omega
  simp only[yM,Ia,H9,hq,decide_false,Bool.false_eq_true,if_false];simp[eH]
 |w::x,i,m+1,hd,hm=>by
  obtain ⟨g1,g2,g3⟩:=aK hd;have hq:(i:Int)<(ws.length:Int):=by omega
  have hbw:=hb w (List.mem_of_getElem? g1);simp at hm;have ih:=XQ n0 s hs ws hl hb x (i+1) m g2 (by omega)
  rw[if_neg (by omega),show i+1-1=i by omega,g1] at ih
  simp only[yM,Ia,hq,decide_true,if_true,aJ,g1,Option.bind_some,aY g3 hl,ih,eH];by_cases h1:w.fOp<1
  ·have hor:w.fOp<1\/3<w.fOp:=.inl h1;cases hT:idx s.ae w.au<;>simp[h1]
  ·by_cases h2:3<w.fOp
   ·cases hT:idx s.ae w.au<;>simp[h1,h2]
   ·simp only[h1,h2,decide_false,Bool.false_eq_true,if_false,or_self];by_cases h3:w.au<0
    ·have:idx s.ae w.au=none:=by unfold idx;rw[if_neg (by omega)]
     simp[h3,this]
    ·by_cases h4:w.au<(s.ae.length:Int)
     ·obtain ⟨T,hT⟩:∃T,idx s.ae w.au=some T:=by
       unfold idx;rw[if_pos (by omega),List.getElem?_eq_getElem (by omega)];exact ⟨_,rfl⟩
      have ht:=hs.tab _ _ hT;simp only[h3,h4,decide_false,decide_true,Bool.not_true,Bool.false_eq_true,if_false,hT,Option.bind_some,ahN w hT ht (by omega:2000000<=m) hbw.1]
      rcases Bool.eq_false_or_eq_true (wOK T w) with hf|hf
      rotate_left
      ·simp[hf]
      · simp only[hf,Bool.not_true,Bool.false_eq_true,if_false];by_cases h0:i=0
        ·subst h0;simp[nv]
        ·have h0':0<(i:Int):=by omega
         have hw:w64 ((i:Int)-1)=((i-1:Nat):Int):=by rw[bI (by omega) (by omega)];omega
         have hg:ws[i-1]? =some (ws[i-1]'(by omega)):=List.getElem?_eq_getElem _
         have hbp:=hb _ (List.mem_of_getElem? hg);generalize ws[i-1]=p at hg hbp;simp only[h0',decide_true,if_true,hw,aJ,hg,Option.bind_some,h0,if_false,XX m _ _ p.aq w.aq (by have:=hbp.2;omega) (by have:=hbp.2;omega),nv]
         by_cases h5:gA p.au p.aq w.au w.aq<0
         ·simp[h5]
         ·simp[h5]
     ·have:idx s.ae w.au=none:=DZ (by omega) h4
      simp[h3,h4,this]
 |_,_,0,_,hm=>by simp at hm
def oj (s:ag) (e:Int) (ws:Wq3):Int:=if e=0 then (if 64<ws.length then 2 else eH s none ws) else e
theorem aia (n:Nat) (s:ag) (e:Int) (he:F38 n s=some e) (hs:e=0->SOK s) (ws:Wq3) (hb:∀w∈ws,wB w) (hn:2000100<=n):F12 n s ws=some (oj s e ws):=by
 unfold F12 TP oj;rw[he,Option.bind_some];by_cases h0:e=0
 ·subst h0;simp only[bne_self_eq_false,Bool.false_eq_true,if_false,if_true];by_cases h1:64<ws.length
  ·have h1':(64:Int)<(ws.length:Int):=by omega
   simp only[h1,h1',decide_true,if_true]
  ·have h1':¬(64:Int)<(ws.length:Int):=by omega
   simp only[h1,h1',decide_false,Bool.false_eq_true,if_false];have:=XR n s (hs rfl) ws (by omega) hb ws 0 n rfl (by omega)
   rw[if_pos rfl] at this;exact this
 ·have:(e !=0)=true:=by simpa using h0
  simp[this,h0]
theorem ahY (n:Nat) (s:ag) (e:Int) (he:F44 n s=some e) (hs:e=0->SOK s) (ws:Wq3) (hb:∀w∈ws,wB w) (hn:2000100<=n):F14 n s ws=some (oj s e ws):=by
 unfold F14 TN oj;rw[he,Option.bind_some];by_cases h0:e=0
 ·subst h0;simp only[bne_self_eq_false,Bool.false_eq_true,if_false,if_true];by_cases h1:64<ws.length
  ·have h1':(64:Int)<(ws.length:Int):=by omega
   simp only[h1,h1',decide_true,if_true]
  ·have h1':¬(64:Int)<(ws.length:Int):=by omega
   simp only[h1,h1',decide_false,Bool.false_eq_true,if_false];have:=XQ n s (hs rfl) ws (by omega) hb ws 0 n rfl (by omega)
   rw[if_pos rfl] at this;exact this
 ·have:(e !=0)=true:=by simpa using h0
  simp[this,h0]
def nmL (b:UInt8):Bool:=decide (97<=b.toNat)&&decide (b.toNat<=122)
def nmC (b:UInt8):Bool:=nmL b||((decide (48<=b.toNat)&&decide (b.toNat<=57))||decide (b.toNat=95))
def Bm:List UInt8->Bool
 | []=>false
 |b::l=>nmL b&&l.all nmC
def ny (s:ByteArray):Bool:=decide (s.size<=32)&&Bm s.data.toList
theorem kZ (s:ByteArray):s.data.toList.length=s.size:=by simp
theorem ags {s:ByteArray} {p:Nat} {b:UInt8} (h:s.data.toList[p]? =some b):∃hp:p<s.size,s[p]'hp=b:=by
 have h1:=(List.getElem?_eq_some_iff.1 h);obtain ⟨q1,q2⟩:=h1;have hp:p<s.size:=by simpa using q1
 have q3:s.data[p]=b:=by simpa using q2
 exact ⟨hp,q3⟩
theorem FG (k:ByteArray->Nat->Option Bool) (m:Nat) (s:ByteArray) (p:Nat) (q:Nat) (c:Int) (l:Bool):xi k m (p:Int) c l s q=if l=true then k s q else if p=0 then some false else if c=95\/(48<=c/\c<=57) then k s q else some false:=by
 unfold xi;cases l with
 |true=>simp
 |false=>
  by_cases hp:p=0
  ·simp[hp]
  ·have hp':¬(p:Int)=0:=by omega
   by_cases h1:c=95
   ·simp[hp,h1]
   ·by_cases h2:c<48
    ·have:¬48<=c:=by omega
     simp[hp,h1,h2,this]
    ·by_cases h3:57<c
     ·have:¬c<=57:=by omega
      simp[hp,h1,h2,h3,this]
     ·have h2':48<=c:=by omega
      have h3':c<=57:=by omega
      simp[hp,h1,h2,h3,h2',h3']
theorem FD (n0:Nat) (m:Nat) (s:ByteArray) (p:Nat) (b:UInt8) (hb:s.data.toList[p]? =some b):mM (qP n0) (m+1) s p=if nmL b=true then mM (qP n0) m s (p+1) else if p=0 then some false else if nmC b=true then mM (qP n0) m s (p+1) else some false:=by
 obtain ⟨hp,he⟩:=ags hb;simp only[mM,CI,hp,decide_true,if_true];rw[FG,FG];by_cases ha:b.toNat<128
 ·have hd:=decode_ascii s p hp (by rw[he];exact ha)
  rw[he] at hd;rw[hd];simp only[nmL,nmC];by_cases h1:97<=b.toNat
  ·have h1':¬((b.toNat:Int)<97):=by omega
   by_cases h2:b.toNat<=122
   ·have h2':¬(122<(b.toNat:Int)):=by omega
    simp[h1,h1',h2,h2']
   ·have h2':(122<(b.toNat:Int)):=by omega
    have e1:¬(b.toNat:Int)=95:=by omega
    have e2:¬(b.toNat:Int)<=57:=by omega
    have e3:¬b.toNat<=57:=by omega
    have e4:¬b.toNat=95:=by omega
    simp[h1,h1',h2,h2',e1,e2,e3,e4]
  ·have h1':((b.toNat:Int)<97):=by omega
   by_cases e1:b.toNat=95
   ·simp[h1,h1',e1]
   ·have e1':¬(b.toNat:Int)=95:=by omega
    by_cases e2:48<=b.toNat
    ·have e2':48<=(b.toNat:Int):=by omega
     by_cases e3:b.toNat<=57
     ·have e3':(b.toNat:Int)<=57:=by omega
      simp[h1,h1',e1,e1',e2,e2',e3,e3']
     ·have e3':¬(b.toNat:Int)<=57:=by omega
      simp[h1,h1',e1,e1',e2,e2',e3,e3']
    ·have e2':¬48<=(b.toNat:Int):=by omega
     simp[h1,h1',e1,e1',e2,e2']
 ·have hd:=(decode_high s p hp (by rw[he];omega)).1
  generalize (Utf8.decode s p)=d at hd;obtain ⟨c,q⟩:=d;simp only at hd;have a1:¬((c:Int)<97):=by omega
  have a2:122<(c:Int):=by omega
  have a3:¬((c:Int)=95\/(48<=(c:Int)/\(c:Int)<=57)):=by omega
  have b1:nmL b=false:=by simp[nmL];omega
  have b2:nmC b=false:=by simp[nmC,b1];omega
  simp[a1,a2,a3,b1,b2]
theorem PF (n0:Nat) (s:ByteArray):∀(x:List UInt8) (p m:Nat),s.data.toList.drop p=x->0<p->x.length<m->mM (qP n0) m s p=some (x.all nmC)
 | [],p,m+1,hd,hp,hm=>by
  have:s.data.toList.length<=p:=by simpa using hd
  have hq:¬p<s.size:=by rw[kZ] at this;omega
  simp only[mM,CI,qP,hq,decide_false,Bool.false_eq_true,if_false];rfl
 |b::x,p,m+1,hd,hp,hm=>by
  obtain ⟨g1,g2,g3⟩:=aK hd;have ih:=PF n0 s x (p+1) m g2 (by omega) (by simp at hm;omega)
  rw[FD n0 m s p b g1,if_neg (by omega:¬p=0),ih]
  simp only[List.all_cons];have:nmL b=true->nmC b=true:=fun h=>by simp[nmC,h]
  cases hl:nmL b with
  |true=>simp[this hl]
  |false=>cases hc:nmC b<;>simp
 |_,_,0,_,_,hm=>by simp at hm
theorem PQ (n:Nat) (s:ByteArray) (hn:100<n):M5 n s=some (ny s):=by
 unfold M5 Nw ny;by_cases h0:s.size=0
 ·have:s.data.toList= []:=by
   have:=kZ s;exact List.eq_nil_of_length_eq_zero (by omega)
  simp[h0,this,Bm]
 ·have e1:¬(s.size:Int)<1:=by omega
  by_cases h1:s.size<=32
  ·have e2:¬32<(s.size:Int):=by omega
   simp only[e1,e2,decide_false,Bool.false_eq_true,if_false,h1,decide_true,Bool.true_and];obtain ⟨m,rfl⟩:∃m,n=m+1:=⟨n-1,by omega⟩
   cases hx:s.data.toList with
   |nil=>have:=kZ s;rw[hx] at this;simp at this;omega
   |cons b l=>
    have hl:l.length<32:=by have:=kZ s;rw[hx] at this;simp at this;omega
    rw[FD (m+1) m s 0 b (by rw[hx];rfl)]
    simp only[if_true,Bm];cases hb:nmL b with
    |false=>simp
    |true=>
     simp only[if_true,Bool.true_and];exact PF (m+1) s l 1 m (by rw[hx];rfl) (by omega) (by omega)
  ·have e2:32<(s.size:Int):=by omega
   simp only[e1,e2,decide_false,decide_true,Bool.false_eq_true,if_false,if_true,h1,Bool.false_and]
theorem XS (n0:Nat) (m:Nat) (s:ByteArray) (p:Nat) (hs:s.size<4294967296) (b:UInt8) (hb:s.data.toList[p]? =some b):od (tE n0) (m+1) s (p:Int)=if nmC b=true then od (tE n0) m s ((p+1:Nat):Int) else some false:=by
 have hp:p<s.size:=by have:=(List.getElem?_eq_some_iff.1 hb).1;rwa[kZ] at this
 have hq:(p:Int)<(s.size:Int):=by omega
 have hi:wc s (p:Int)=some b:=by simp[wc];simpa using hb
 simp only[od,CB,mO,hq,decide_true,if_true,hi,Option.bind_some,aY hp hs];simp only[nmC,nmL];by_cases h1:97<=b.toNat
 ·have h1':¬((b.toNat:Int)<97):=by omega
  by_cases h2:b.toNat<=122
  ·have h2':¬(122<(b.toNat:Int)):=by omega
   simp[h1,h1',h2,h2']
  ·have h2':(122<(b.toNat:Int)):=by omega
   have e1:¬(b.toNat:Int)=95:=by omega
   have e2:¬(b.toNat:Int)<48:=by omega
   have e5:57<(b.toNat:Int):=by omega
   have e3:¬b.toNat<=57:=by omega
   have e4:¬b.toNat=95:=by omega
   simp[h1,h1',h2,h2',e1,e2,e3,e4,e5]
 ·have h1':((b.toNat:Int)<97):=by omega
  by_cases e2:48<=b.toNat
  ·have e2':¬(b.toNat:Int)<48:=by omega
   by_cases e3:b.toNat<=57
   ·have e3':¬57<(b.toNat:Int):=by omega
    simp[h1,h1',e2,e2',e3,e3']
   ·have e3':57<(b.toNat:Int):=by omega
    by_cases e1:b.toNat=95
    ·simp[e1]
    ·have e1':¬(b.toNat:Int)=95:=by omega
     simp[h1,h1',e2,e2',e3,e3',e1,e1']
  ·have e2':(b.toNat:Int)<48:=by omega
   have e1:¬b.toNat=95:=by omega
   have e1':¬(b.toNat:Int)=95:=by omega
   simp[h1,h1',e2,e2',e1,e1']
theorem PC (n0:Nat) (s:ByteArray) (hs:s.size<4294967296):∀(x:List UInt8) (p m:Nat),s.data.toList.drop p=x->x.length<m->od (tE n0) m s (p:Int)=some (x.all nmC)
 | [],p,m+1,hd,hm=>by
  have:s.data.toList.length<=p:=by simpa using hd
  have hq:¬(p:Int)<(s.size:Int):=by rw[kZ] at this;omega
  simp only[od,CB,tE,hq,decide_false,Bool.false_eq_true,if_false];rfl
 |b::x,p,m+1,hd,hm=>by
  obtain ⟨g1,g2,g3⟩:=aK hd;have ih:=PC n0 s hs x (p+1) m g2 (by simp at hm;omega)
  rw[XS n0 m s p hs b g1,ih];simp only[List.all_cons];cases hc:nmC b<;>simp
 |_,_,0,_,hm=>by simp at hm
theorem PL (n:Nat) (s:ByteArray) (hn:100<n):M3 n s=some (ny s):=by
 unfold M3 Nr ny;by_cases h0:s.size=0
 ·have:s.data.toList= []:=by
   have:=kZ s;exact List.eq_nil_of_length_eq_zero (by omega)
  simp[h0,this,Bm]
 ·have e1:((s.size:Int)==0)=false:=by rw[beq_eq_false_iff_ne];omega
  by_cases h1:s.size<=32
  ·have e2:¬32<(s.size:Int):=by omega
   simp only[e1,e2,decide_false,Bool.false_eq_true,if_false,h1,decide_true,Bool.true_and];cases hx:s.data.toList with
   |nil=>have:=kZ s;rw[hx] at this;simp at this;omega
   |cons b l=>
    have hi:wc s 0=some b:=by simp only[wc,hx];rfl
    have hl:l.length<32:=by have:=kZ s;rw[hx] at this;simp at this;omega
    simp only[hi,Option.bind_some,Bm];have:=PC n s (by omega) s.data.toList 0 n rfl (by rw[kZ];omega)
    rw[show ((0:Nat):Int)=0 from rfl,hx,List.all_cons] at this;rw[this];by_cases h3:97<=b.toNat
    ·have h3':¬((b.toNat:Int)<97):=by omega
     by_cases h4:b.toNat<=122
     ·have h4':¬(122<(b.toNat:Int)):=by omega
      have hb:nmL b=true:=by simp[nmL,h3,h4]
      simp[h3',h4',hb,nmC]
     ·have h4':(122<(b.toNat:Int)):=by omega
      have hb:nmL b=false:=by simp[nmL];omega
      simp[h3',h4',hb]
    ·have h3':((b.toNat:Int)<97):=by omega
     have hb:nmL b=false:=by simp[nmL];omega
     simp[h3',hb]
  ·have e2:32<(s.size:Int):=by omega
   simp only[e1,e2,decide_false,decide_true,Bool.false_eq_true,if_false,if_true,h1,Bool.false_and]
theorem Bo {β:Type} (d:β) (k:ByteArray) (v:β) (x:ByteArray):∀m:List (ByteArray×β),fJ (fY m k v) x d=if x=k then v else fJ m x d
 | []=>by simp[fY,fJ]
 |p::m=>by
  simp only[fY];by_cases h:k=p.1
  ·simp only[h,if_true,fJ];by_cases h2:x=p.1
   ·simp[h2]
   ·simp[h2]
  ·simp only[h,if_false,fJ];by_cases h2:x=p.1
   ·have:¬x=k:=fun e=>h (e.symm.trans h2)
    simp[h2];intro e;exact absurd e.symm h
   ·simp only[h2,if_false];exact Bo d k v x m
def gS (x:ByteArray):List ByteArray->Bool
 | []=>false
 |y::l=>decide (x=y)||gS x l
theorem KD (x:ByteArray):∀(a b:List ByteArray),gS x (a++b)=(gS x a||gS x b)
 | [],b=>by simp[gS]
 |y::a,b=>by simp[gS,KD x a b,Bool.or_assoc]
def mE:List ByteArray->Wq4->Bool
 |_,[]=>true
 |seen,c::cs=>ny c.bp&&(!gS c.bp seen&&(kOK c.aw&&mE (seen++ [c.bp]) cs))
def zC (seen:List ByteArray) (T:av):Bool:=ny T.bp&&(!gS T.bp seen&&(decide (1<=T.aq)&&(decide (T.aq<=(T.ah.length:Int))&&mE [] T.ah)))
def iT:List ByteArray->Wq1->Bool
 |_,[]=>true
 |seen,T::Ts=>zC seen T&&iT (seen++ [T.bp]) Ts
def AZ (m:List (ByteArray×Bool)) (seen:List ByteArray):Prop:=∀x,fJ m x false=gS x seen
theorem AZ.put {m:List (ByteArray×Bool)} {seen:List ByteArray} (h:AZ m seen) (k:ByteArray):AZ (fY m k true) (seen++ [k]):=fun x=>by
 rw[Bo,h x,KD];by_cases hx:x=k
 ·simp[hx,gS]
 ·simp[hx,gS]
theorem Mz (k:Wq1->Int->Int->ByteArray->Int->Int->Wq4->Int->List (ByteArray×Bool)->av->Option Bool) (cs:Wq4) (hl:cs.length<=8) (a1:Wq1) (a2 a3:Int) (a4:ByteArray) (a5 a6:Int) (a7:Wq4) (a8:Int) (a9:List (ByteArray×Bool)) (T:av):∀(x:Wq4) (i m:Nat) (mp:List (ByteArray×Bool)) (seen:List ByteArray),cs.drop i=x->x.length+200<m->AZ mp seen->
  ym k m a1 a2 a3 a4 a5 a6 a7 a8 cs (cs.length:Int) (i:Int) a9 mp T=if mE seen x=true then k a1 a2 a3 a4 a5 a6 a7 a8 a9 T else some false
 | [],i,m+1,mp,seen,hd,hm,hs=>by
  have:cs.length<=i:=by simpa using hd
  have hq:¬((i:Int)<(cs.length:Int)):=by omega
  simp only[ym,G3,hq,decide_false,Bool.false_eq_true,if_false,mE,if_true]
 |c::x,i,m+1,mp,seen,hd,hm,hs=>by
  obtain ⟨g1,g2,g3⟩:=aK hd;have hq:(i:Int)<(cs.length:Int):=by omega
  simp at hm;have ih:=Mz k cs hl a1 a2 a3 a4 a5 a6 a7 a8 a9 T x (i+1) m _ _ g2 (by omega) (hs.put c.bp)
  simp only[ym,G3,hq,decide_true,if_true,aJ,g1,Option.bind_some,PQ m c.bp (by omega),hs c.bp,aY g3 (by omega),ih,mE]
  rcases Bool.eq_false_or_eq_true (ny c.bp) with hv|hv<;>rcases Bool.eq_false_or_eq_true (gS c.bp seen) with h2|h2<;>by_cases h3:c.aw=3<;>by_cases h4:c.aw=4<;>by_cases h5:c.aw=5<;>simp[hv,h2,h3,h4,h5,kOK]
 |_,_,0,_,_,_,hm,_=>by simp at hm
theorem My (n0:Nat) (ts:Wq1) (hl:ts.length<=8) (hc:∀T∈ts,T.ah.length<=8):∀(x:Wq1) (i m:Nat) (mp:List (ByteArray×Bool)) (seen:List ByteArray),ts.drop i=x->x.length+1000<m->AZ mp seen->
  u9 (Cm n0) m ts (ts.length:Int) (i:Int) mp=some (iT seen x)
 | [],i,m+1,mp,seen,hd,hm,hs=>by
  have:ts.length<=i:=by simpa using hd
  have hq:¬((i:Int)<(ts.length:Int)):=by omega
  simp only[u9,G1,Cm,hq,decide_false,Bool.false_eq_true,if_false,iT]
 |T::x,i,m+1,mp,seen,hd,hm,hs=>by
  obtain ⟨g1,g2,g3⟩:=aK hd;have hq:(i:Int)<(ts.length:Int):=by omega
  simp at hm;have hT:=hc T (List.mem_of_getElem? g1);have ih:=My n0 ts hl hc x (i+1) m _ _ g2 (by omega) (hs.put T.bp)
  have hcol:=Mz (G2 (u9 (Cm n0) m) m) T.ah hT ts (ts.length:Int) (i:Int) T.bp T.aq T.aq T.ah (T.ah.length:Int) (fY mp T.bp true) T T.ah 0 m [] [] rfl (by omega) (fun x=>by simp[fJ,gS])
  rw[show ((0:Nat):Int)=0 from rfl] at hcol;simp only[u9,G1,hq,decide_true,if_true,aJ,g1,Option.bind_some,PQ m T.bp (by omega),hs T.bp,hcol,G2,aY g3 (by omega),ih,iT,zC]
  have q1:decide (T.aq<1)= !decide (1<=T.aq):=by rw[<-decide_not];exact decide_eq_decide.2 (by omega)
  have q2:decide ((T.ah.length:Int)<T.aq)= !decide (T.aq<=(T.ah.length:Int)):=by rw[<-decide_not];exact decide_eq_decide.2 (by omega)
  rw[q1,q2];rcases Bool.eq_false_or_eq_true (ny T.bp) with hv|hv<;>rcases Bool.eq_false_or_eq_true (gS T.bp seen) with h2|h2<;>rcases Bool.eq_false_or_eq_true (decide (1<=T.aq)) with h3|h3<;>rcases Bool.eq_false_or_eq_true (decide (T.aq<=(T.ah.length:Int))) with h4|h4<;>rcases Bool.eq_false_or_eq_true (mE [] T.ah) with h5|h5<;>simp only[hv,h2,h3,h4,h5,Bool.not_true,Bool.not_false,Bool.false_eq_true,if_false,if_true,Bool.true_and,Bool.false_and]
 |_,_,0,_,_,_,hm,_=>by simp at hm
theorem ahG (n:Nat) (s:ag) (hl:s.ae.length<=8) (hc:∀T∈s.ae,T.ah.length<=8) (hn:2000<n):F76 n s=some (iT [] s.ae):=
 My n s.ae hl hc s.ae 0 n [] [] rfl (by omega) (fun x=>by simp[fJ,gS])
theorem Mu (k:av->Option Bool) (s:ag) (hl:s.ae.length<=8) (i:Nat) (hi:i<=s.ae.length) (T:av):∀(x:Wq1) (j m:Nat),(s.ae.take i).drop j=x->x.length<m->j<=i->yj k m (i:Int) (j:Int) s T=if gS T.bp (x.map (·.bp))=true then some false else k T
 | [],j,m+1,hd,hm,hj=>by
  have:(s.ae.take i).length<=j:=by simpa using hd
  rw[List.length_take] at this;have hq:¬((j:Int)<(i:Int)):=by omega
  simp only[yj,GS,hq,decide_false,Bool.false_eq_true,if_false,List.map_nil,gS]
 |G::x,j,m+1,hd,hm,hj=>by
  obtain ⟨g1,g2,g3⟩:=aK hd;rw[List.length_take] at g3;have hq:(j:Int)<(i:Int):=by omega
  have hg:s.ae[j]? =some G:=by rw[List.getElem?_take,if_pos (by omega)] at g1;exact g1
  have ih:=Mu k s hl i hi T x (j+1) m g2 (by simp at hm;omega) (by omega)
  have hw:w64 ((j:Int)+1)=((j+1:Nat):Int):=by rw[bI (by omega) (by omega)];rfl
  simp only[yj,GS,hq,decide_true,if_true,aJ,hg,Option.bind_some,hw,ih,List.map_cons,gS];by_cases h:G.bp=T.bp
  ·simp[h]
  ·have h':¬T.bp=G.bp:=fun e=>h e.symm
   simp[h,h']
 |_,_,0,_,hm,_=>by simp at hm
theorem Mt (k:Int->Int->Wq4->Int->cP->cP->Int->Bool->av->Option Bool) (T:av) (hl:T.ah.length<=8) (i:Nat) (c:cP) (hc:T.ah[i]? =some c) (a1 a2:Int) (a3:Wq4) (a4:Int) (a5 a6:cP) (a7:Int) (a8:Bool):∀(x:Wq4) (j m:Nat),(T.ah.take i).drop j=x->x.length<m->j<=i->
  yi k m (i:Int) (j:Int) a1 a2 a3 a4 a5 a6 a7 a8 T=if gS c.bp (x.map (·.bp))=true then some false else k a1 a2 a3 a4 a5 a6 a7 a8 T
 | [],j,m+1,hd,hm,hj=>by
  have:(T.ah.take i).length<=j:=by simpa using hd
  have hi:=(List.getElem?_eq_some_iff.1 hc).1;rw[List.length_take] at this;have hq:¬((j:Int)<(i:Int)):=by omega
  simp only[yi,GR,hq,decide_false,Bool.false_eq_true,if_false,List.map_nil,gS]
 |G::x,j,m+1,hd,hm,hj=>by
  obtain ⟨g1,g2,g3⟩:=aK hd;have hi:=(List.getElem?_eq_some_iff.1 hc).1;rw[List.length_take] at g3;have hq:(j:Int)<(i:Int):=by omega
  have hg:T.ah[j]? =some G:=by rw[List.getElem?_take,if_pos (by omega)] at g1;exact g1
  have ih:=Mt k T hl i c hc a1 a2 a3 a4 a5 a6 a7 a8 x (j+1) m g2 (by simp at hm;omega) (by omega)
  have hw:w64 ((j:Int)+1)=((j+1:Nat):Int):=by rw[bI (by omega) (by omega)];rfl
  simp only[yi,GR,hq,decide_true,if_true,aJ,hg,hc,Option.bind_some,hw,ih,List.map_cons,gS];by_cases h:G.bp=c.bp
  ·simp[h]
  ·have h':¬c.bp=G.bp:=fun e=>h e.symm
   simp[h,h']
 |_,_,0,_,hm,_=>by simp at hm
theorem Ms (n0:Nat) (T:av) (hl:T.ah.length<=8):∀(x:Wq4) (i m:Nat),T.ah.drop i=x->x.length+200<m->uZ (Ck n0) m (T.ah.length:Int) (i:Int) T=some (mE ((T.ah.take i).map (·.bp)) x)
 | [],i,m+1,hd,hm=>by
  have:T.ah.length<=i:=by simpa using hd
  have hq:¬((i:Int)<(T.ah.length:Int)):=by omega
  simp only[uZ,GP,Ck,hq,decide_false,Bool.false_eq_true,if_false,mE]
 |c::x,i,m+1,hd,hm=>by
  obtain ⟨g1,g2,g3⟩:=aK hd;have hq:(i:Int)<(T.ah.length:Int):=by omega
  simp at hm;have ih:=Ms n0 T hl x (i+1) m g2 (by omega)
  have hin:=fun b=>Mt (GQ (uZ (Ck n0) m) m) T hl i c g1 (T.ah.length:Int) (i:Int) T.ah (i:Int) c c c.aw b (T.ah.take i) 0 m rfl (by simp;omega) (by omega)
  rw[show ((0:Nat):Int)=0 from rfl] at hin;rw[List.take_succ,g1] at ih;simp only[Option.toList_some,List.map_append,List.map_cons,List.map_nil] at ih;simp only[uZ,GP,hq,decide_true,if_true,aJ,g1,Option.bind_some,PL m c.bp (by omega),PK,hin,GQ,aY g3 (by omega),ih,mE]
  rcases Bool.eq_false_or_eq_true (ny c.bp) with hv|hv<;>rcases Bool.eq_false_or_eq_true (kOK c.aw) with h3|h3<;>rcases Bool.eq_false_or_eq_true (gS c.bp ((T.ah.take i).map (·.bp))) with h2|h2<;>simp only[hv,h2,h3,Bool.not_true,Bool.not_false,Bool.false_eq_true,if_false,if_true,Bool.true_and,Bool.false_and]
 |_,_,0,_,hm=>by simp at hm
theorem ahC (n:Nat) (s:ag) (hl:s.ae.length<=8) (i:Nat) (T:av) (hT:s.ae[i]? =some T) (hc:T.ah.length<=8) (hn:1000<n):F83 n s (i:Int)=some (zC ((s.ae.take i).map (·.bp)) T):=by
 have hi:=(List.getElem?_eq_some_iff.1 hT).1;unfold F83 S0 zC;simp only[aJ,hT,Option.bind_some,PL n T.bp (by omega)]
 rcases Bool.eq_false_or_eq_true (ny T.bp) with Rt|Rt
 rotate_left
 ·simp[Rt]
 ·simp only[Rt,Bool.not_true,Bool.false_eq_true,if_false,Bool.true_and];have h0:=Mu (GO n) s hl i (by omega) T (s.ae.take i) 0 n rfl (by simp;omega) (by omega)
  rw[show ((0:Nat):Int)=0 from rfl] at h0;have h1:=Ms n T hc T.ah 0 n rfl (by omega)
  rw[show ((0:Nat):Int)=0 from rfl,List.take_zero,List.map_nil] at h1;simp only[h0,GO,h1];by_cases e0:T.ah.length=0
  ·have e1:((T.ah.length:Int)==0)=true:=by simp[e0]
   by_cases h3:1<=T.aq
   ·have:¬T.aq<=(T.ah.length:Int):=by omega
    simp only[e1,if_true,this,decide_false,Bool.false_and,Bool.and_false]
   ·simp only[e1,if_true,h3,decide_false,Bool.false_and,Bool.and_false]
  ·have e1:((T.ah.length:Int)==0)=false:=by rw[beq_eq_false_iff_ne];omega
   simp only[e1,Bool.false_eq_true,if_false];by_cases h3:T.aq<1
   ·have:¬1<=T.aq:=by omega
    simp[h3,this]
   ·have h3':1<=T.aq:=by omega
    by_cases h4:(T.ah.length:Int)<T.aq
    ·have:¬T.aq<=(T.ah.length:Int):=by omega
     simp[h3,h3',h4,this]
    ·have h4':T.aq<=(T.ah.length:Int):=by omega
     rcases Bool.eq_false_or_eq_true (gS T.bp ((s.ae.take i).map (·.bp))) with h2|h2<;>simp only[h2,h3,h3',h4,h4',decide_true,decide_false,Bool.not_true,Bool.not_false,Bool.false_eq_true,if_false,if_true,Bool.true_and,Bool.false_and]
theorem L0:∀{cs:Wq4} {seen:List ByteArray},mE seen cs=true->dx (cs.map (·.aw))=true
 | [],_,_=>rfl
 |c::cs,seen,h=>by
  simp only[mE,Bool.and_eq_true] at h;simp only[List.map_cons,dx,List.all_cons,Bool.and_eq_true];exact ⟨h.2.2.1,L0 h.2.2.2⟩
theorem aeb {seen:List ByteArray} {T:av} (hc:T.ah.length<=8) (h:zC seen T=true):cn T:=by
 simp only[zC,Bool.and_eq_true,decide_eq_true_eq] at h;exact ⟨h.2.2.1,h.2.2.2.1,hc,L0 h.2.2.2.2⟩
theorem Iu:∀{ts:Wq1} {seen:List ByteArray},(∀T∈ts,T.ah.length<=8)->iT seen ts=true->∀T∈ts,cn T
 | [],_,_,_,T,hT=>by simp at hT
 |G::ts,seen,hc,h,T,hT=>by
  simp only[iT,Bool.and_eq_true] at h;rcases List.mem_cons.1 hT with rfl|hT
  ·exact aeb (hc _ (by simp)) h.1
  ·exact Iu (fun T hT=>hc T (by simp[hT])) h.2 T hT
def jJ (tc:Wq4):Wq4->Wq0->Bool
 |_,[]=>true
 | [],_::_=>false
 |g::gs,c::cs=>match idx tc c with|none=>false|some x=>x.aw==g.aw&&jJ tc gs cs
def Yp (s:ag) (T:av) (r:br):Bool:=match idx s.ae r.au with|none=>false|some G=>((r.ah.length:Int)==G.aq)&&jJ T.ah G.ah r.ah
def mg (s:ag) (T:av):Wq6->Bool
 | []=>true
 |r::rs=>Yp s T r&&mg s T rs
def allRefs (s:ag):Wq1->Bool
 | []=>true
 |T::ts=>mg s T T.aX&&allRefs s ts
theorem ru {α:Type} (xs:List α) (i:Int):(i<0/\idx xs i=none)\/(¬i<0/\¬i<(xs.length:Int)/\idx xs i=none)\/(¬i<0/\i<(xs.length:Int)/\∃x,idx xs i=some x):=by
 by_cases h:i<0
 ·exact .inl ⟨h,by unfold idx;rw[if_neg (by omega)]⟩
 ·by_cases h2:i<(xs.length:Int)
  ·refine .inr (.inr ⟨h,h2,xs[i.toNat]'(by omega),?_⟩)
   unfold idx;rw[if_pos (by omega),List.getElem?_eq_getElem (by omega)]
  ·exact .inr (.inl ⟨h,h2,DZ (by omega) h2⟩)
theorem Mx (k:Wq1->Int->Int->Wq6->Int->Int->Int->Wq1->Int->ag->av->br->Option Bool) (T G:av) (cs:Wq0) (hc:cs.length<=G.ah.length) (hg:G.ah.length<=8) (a1:Wq1) (a2 a3:Int) (a4:Wq6) (a5 a6 a7:Int) (a8:Wq1) (a9:Int) (s:ag) (r:br):∀(x:Wq0) (i m:Nat),cs.drop i=x->x.length<m->
  yl k m a1 a2 a3 a4 a5 a6 a7 a8 a9 cs (cs.length:Int) (i:Int) s T G r=if jJ T.ah (G.ah.drop i) x=true then k a1 a2 a3 a4 a5 a6 a7 a8 a9 s T r else some false
 | [],i,m+1,hd,hm=>by
  have:cs.length<=i:=by simpa using hd
  have hq:¬((i:Int)<(cs.length:Int)):=by omega
  simp only[yl,G0,hq,decide_false,Bool.false_eq_true,if_false,jJ,if_true]
 |c::x,i,m+1,hd,hm=>by
  obtain ⟨g1,g2,g3⟩:=aK hd;have hq:(i:Int)<(cs.length:Int):=by omega
  have hlt:i<G.ah.length:=by omega
  have hgi:G.ah[i]? =some G.ah[i]:=List.getElem?_eq_getElem hlt;have hdr:G.ah.drop i=G.ah[i]::G.ah.drop (i+1):=List.drop_eq_getElem_cons hlt;generalize G.ah[i]=g at hgi hdr;have ih:=Mx k T G cs hc hg a1 a2 a3 a4 a5 a6 a7 a8 a9 s r x (i+1) m g2 (by simp at hm;omega)
  simp only[yl,G0,hq,decide_true,if_true,aJ,g1,hgi,Option.bind_some,aY g3 (by omega),ih]
  rw[hdr];simp only[jJ];rcases ru T.ah c with ⟨h1,h2⟩|⟨h1,h3,h2⟩|⟨h1,h3,y,h2⟩
  ·simp only[h1,h2,decide_true,if_true,Bool.false_eq_true,if_false]
  ·simp only[h1,h2,h3,decide_false,Bool.not_false,if_true,Bool.false_eq_true,if_false]
  ·simp only[h1,h2,h3,decide_false,decide_true,Bool.not_true,Bool.false_eq_true,if_false,Option.bind_some];by_cases h4:y.aw=g.aw
   ·simp[h4]
   ·simp[h4]
 |_,_,0,_,hm=>by simp at hm
theorem Mw (k:Wq1->Int->Int->ag->Option Bool) (s:ag) (hs:∀t G,idx s.ae t=some G->cn G) (T:av) (rs:Wq6) (hl:rs.length<=8) (a1:Wq1) (a2 a3:Int):∀(x:Wq6) (i m:Nat),rs.drop i=x->x.length+100<m->
  u6 k m a1 a2 a3 rs (rs.length:Int) (i:Int) s T=if mg s T x=true then k a1 a2 a3 s else some false
 | [],i,m+1,hd,hm=>by
  have:rs.length<=i:=by simpa using hd
  have hq:¬((i:Int)<(rs.length:Int)):=by omega
  simp only[u6,GY,hq,decide_false,Bool.false_eq_true,if_false,mg,if_true]
 |r::x,i,m+1,hd,hm=>by
  obtain ⟨g1,g2,g3⟩:=aK hd;have hq:(i:Int)<(rs.length:Int):=by omega
  simp at hm;have ih:=Mw k s hs T rs hl a1 a2 a3 x (i+1) m g2 (by omega)
  simp only[u6,GY,hq,decide_true,if_true,aJ,g1,Option.bind_some,mg,Yp];rcases ru s.ae r.au with ⟨h1,h2⟩|⟨h1,h3,h2⟩|⟨h1,h3,G,h2⟩
  ·simp only[h1,h2,decide_true,if_true,Bool.false_and,Bool.false_eq_true,if_false]
  ·simp only[h1,h2,h3,decide_false,Bool.not_false,if_true,Bool.false_and,Bool.false_eq_true,if_false]
  ·have hG:=hs _ _ h2;have k2:=hG.bO;have k3:=hG.aB;simp only[h1,h2,h3,decide_false,decide_true,Bool.not_true,Bool.false_eq_true,if_false,Option.bind_some];by_cases h4:(r.ah.length:Int)=G.aq
   ·have e:((r.ah.length:Int) !=G.aq)=false:=by simp[h4]
    have e':((r.ah.length:Int)==G.aq)=true:=by simp[h4]
    have hin:=Mx (GZ (u6 k m) m) T G r.ah (by omega) k3 a1 a2 a3 rs (rs.length:Int) (i:Int) r.au s.ae (s.ae.length:Int) s r r.ah 0 m rfl (by omega)
    rw[show ((0:Nat):Int)=0 from rfl,List.drop_zero] at hin;simp only[e,e',Bool.false_eq_true,if_false,hin,GZ,aY g3 (by omega),ih,Bool.true_and]
    rcases Bool.eq_false_or_eq_true (jJ T.ah G.ah r.ah) with hv|hv<;>simp only[hv,if_true,Bool.true_and,Bool.false_and,Bool.false_eq_true,if_false]
   ·have e:((r.ah.length:Int) !=G.aq)=true:=by simpa using h4
    have e':((r.ah.length:Int)==G.aq)=false:=by simpa using h4
    simp only[e,e',if_true,Bool.false_and,Bool.false_eq_true,if_false]
 |_,_,0,_,hm=>by simp at hm
theorem Mv (n0:Nat) (s:ag) (hs:∀t G,idx s.ae t=some G->cn G) (ts:Wq1) (hl:ts.length<=8) (hr:∀T∈ts,T.aX.length<=4):∀(x:Wq1) (i m:Nat),ts.drop i=x->x.length+200<m->
  u0 (Cl n0) m ts (ts.length:Int) (i:Int) s=some (allRefs s x)
 | [],i,m+1,hd,hm=>by
  have:ts.length<=i:=by simpa using hd
  have hq:¬((i:Int)<(ts.length:Int)):=by omega
  simp only[u0,GW,Cl,hq,decide_false,Bool.false_eq_true,if_false,allRefs]
 |T::x,i,m+1,hd,hm=>by
  obtain ⟨g1,g2,g3⟩:=aK hd;have hq:(i:Int)<(ts.length:Int):=by omega
  simp at hm;have hT:=hr T (List.mem_of_getElem? g1);have ih:=Mv n0 s hs ts hl hr x (i+1) m g2 (by omega)
  have hin:=Mw (GX (u0 (Cl n0) m) m) s hs T T.aX (by omega) ts (ts.length:Int) (i:Int) T.aX 0 m rfl (by omega)
  rw[show ((0:Nat):Int)=0 from rfl] at hin;simp only[u0,GW,hq,decide_true,if_true,aJ,g1,Option.bind_some,hin,GX,aY g3 (by omega),ih,allRefs]
  rcases Bool.eq_false_or_eq_true (mg s T T.aX) with hv|hv<;>simp only[hv,if_true,Bool.true_and,Bool.false_and,Bool.false_eq_true,if_false]
 |_,_,0,_,hm=>by simp at hm
theorem ahF (n:Nat) (s:ag) (hs:∀t G,idx s.ae t=some G->cn G) (hl:s.ae.length<=8) (hr:∀T∈s.ae,T.aX.length<=4) (hn:1000<n):F77 n s=some (allRefs s s.ae):=
 Mv n s hs s.ae hl hr s.ae 0 n rfl (by omega)
theorem Mr (k:Wq6->Int->Int->Int->Wq1->Int->Wq0->Int->Wq1->Int->av->av->Int->ag->av->br->Option Bool) (s:ag) (T G:av) (r:br) (hG:idx s.ae r.au=some G) (cs:Wq0) (hc:cs.length<=G.ah.length) (hg:G.ah.length<=8) (a1:Wq6) (a2 a3 a4:Int) (a5:Wq1) (a6:Int) (a7:Wq0) (a8:Int) (a9:Wq1) (a10:Int) (a11 a12:av) (a13:Int):∀(x:Wq0) (i m:Nat),cs.drop i=x->x.length<m->
  yh k m a1 a2 a3 a4 a5 a6 a7 a8 a9 a10 a11 a12 a13 cs (cs.length:Int) (i:Int) s T r=if jJ T.ah (G.ah.drop i) x=true then k a1 a2 a3 a4 a5 a6 a7 a8 a9 a10 a11 a12 a13 s T r else some false
 | [],i,m+1,hd,hm=>by
  have:cs.length<=i:=by simpa using hd
  have hq:¬((i:Int)<(cs.length:Int)):=by omega
  simp only[yh,GN,hq,decide_false,Bool.false_eq_true,if_false,jJ,if_true]
 |c::x,i,m+1,hd,hm=>by
  obtain ⟨g1,g2,g3⟩:=aK hd;have hq:(i:Int)<(cs.length:Int):=by omega
  have hlt:i<G.ah.length:=by omega
  have hgi:G.ah[i]? =some G.ah[i]:=List.getElem?_eq_getElem hlt;have hdr:G.ah.drop i=G.ah[i]::G.ah.drop (i+1):=List.drop_eq_getElem_cons hlt;generalize G.ah[i]=g at hgi hdr;have ih:=Mr k s T G r hG cs hc hg a1 a2 a3 a4 a5 a6 a7 a8 a9 a10 a11 a12 a13 x (i+1) m g2 (by simp at hm;omega)
  simp only[yh,GN,hq,decide_true,if_true,aJ,g1,hG,hgi,Option.bind_some,aY g3 (by omega),ih]
  rw[hdr];simp only[jJ];rcases ru T.ah c with ⟨h1,h2⟩|⟨h1,h3,h2⟩|⟨h1,h3,y,h2⟩
  ·simp only[h1,h2,decide_true,if_true,Bool.false_eq_true,if_false]
  ·simp only[h1,h2,h3,decide_false,Bool.not_false,if_true,Bool.false_eq_true,if_false]
  ·simp only[h1,h2,h3,decide_false,decide_true,Bool.not_true,Bool.false_eq_true,if_false,Option.bind_some];by_cases h4:y.aw=g.aw
   ·simp[h4]
   ·simp[h4]
 |_,_,0,_,hm=>by simp at hm
theorem Mq (n0:Nat) (s:ag) (hs:∀t G,idx s.ae t=some G->cn G) (T:av) (rs:Wq6) (hl:rs.length<=8):∀(x:Wq6) (i m:Nat),rs.drop i=x->x.length+100<m->
  uY (Cj n0) m rs (rs.length:Int) (i:Int) s T=some (mg s T x)
 | [],i,m+1,hd,hm=>by
  have:rs.length<=i:=by simpa using hd
  have hq:¬((i:Int)<(rs.length:Int)):=by omega
  simp only[uY,GL,Cj,hq,decide_false,Bool.false_eq_true,if_false,mg]
 |r::x,i,m+1,hd,hm=>by
  obtain ⟨g1,g2,g3⟩:=aK hd;have hq:(i:Int)<(rs.length:Int):=by omega
  simp at hm;have ih:=Mq n0 s hs T rs hl x (i+1) m g2 (by omega)
  simp only[uY,GL,hq,decide_true,if_true,aJ,g1,Option.bind_some,mg,Yp];rcases ru s.ae r.au with ⟨h1,h2⟩|⟨h1,h3,h2⟩|⟨h1,h3,G,h2⟩
  ·simp only[h1,h2,decide_true,if_true,Bool.false_and]
  ·simp only[h1,h2,h3,decide_false,Bool.not_false,if_true,Bool.false_and,Bool.false_eq_true,if_false]
  ·have hG:=hs _ _ h2;have k2:=hG.bO;have k3:=hG.aB;simp only[h1,h2,h3,decide_false,decide_true,Bool.not_true,Bool.false_eq_true,if_false,Option.bind_some];by_cases h4:(r.ah.length:Int)=G.aq
   ·have e:((r.ah.length:Int) !=G.aq)=false:=by simp[h4]
    have e':((r.ah.length:Int)==G.aq)=true:=by simp[h4]
    have hin:=Mr (GM (uY (Cj n0) m) m) s T G r h2 r.ah (by omega) k3 rs (rs.length:Int) (i:Int) r.au s.ae (s.ae.length:Int) r.ah (r.ah.length:Int) s.ae r.au G G G.aq r.ah 0 m rfl (by omega)
    rw[show ((0:Nat):Int)=0 from rfl,List.drop_zero] at hin;simp only[e,e',Bool.false_eq_true,if_false,hin,GM,aY g3 (by omega),ih,Bool.true_and]
    rcases Bool.eq_false_or_eq_true (jJ T.ah G.ah r.ah) with hv|hv<;>simp only[hv,if_true,Bool.true_and,Bool.false_and,Bool.false_eq_true,if_false]
   ·have e:((r.ah.length:Int) !=G.aq)=true:=by simpa using h4
    have e':((r.ah.length:Int)==G.aq)=false:=by simpa using h4
    simp only[e,e',if_true,Bool.false_and]
 |_,_,0,_,hm=>by simp at hm
theorem ahB (n:Nat) (s:ag) (hs:∀t G,idx s.ae t=some G->cn G) (i:Nat) (T:av) (hT:s.ae[i]? =some T) (hr:T.aX.length<=4) (hn:1000<n):F84 n s (i:Int)=some (mg s T T.aX):=by
 unfold F84 SZ;simp only[aJ,hT,Option.bind_some];exact Mq n s hs T T.aX (by omega) T.aX 0 n rfl (by omega)
def kO (ks:Wq0):Wq7->Int
 | []=>0
 |p::ps=>if lH ks [] p=0 then kO ks ps else lH ks [] p
def so:Wq1->Int
 | []=>0
 |T::ts=>if kO (aS T) T.cc=0 then so ts else kO (aS T) T.cc
theorem MM (k:Wq1->Int->Int->ag->Option Int) (ks:Wq0) (hk:ks.length<=8) (s:ag) (ps:Wq7) (hl:ps.length<=4) (hp:∀p∈ps,szP p<=1500000) (a1:Wq1) (a2 a3:Int):∀(x:Wq7) (i m:Nat),ps.drop i=x->x.length+1500000<m->m<4294967296->
  yF k m ks a1 a2 a3 ps (ps.length:Int) (i:Int) s=if kO ks x=0 then k a1 a2 a3 s else some (kO ks x)
 | [],i,m+1,hd,hm,hm'=>by
  have:ps.length<=i:=by simpa using hd
  have hq:¬((i:Int)<(ps.length:Int)):=by omega
  simp only[yF,HN,hq,decide_false,Bool.false_eq_true,if_false,kO,if_true]
 |p::x,i,m+1,hd,hm,hm'=>by
  obtain ⟨g1,g2,g3⟩:=aK hd;have hq:(i:Int)<(ps.length:Int):=by omega
  simp at hm;have ih:=MM k ks hk s ps hl hp a1 a2 a3 x (i+1) m g2 (by omega) (by omega)
  have hpp:=hp p (List.mem_of_getElem? g1);simp only[yF,HN,hq,decide_true,if_true,aJ,g1,Option.bind_some,ahE m ks [] p (by omega) (by simp;omega) (by omega) (by omega),aY g3 (by omega),ih,kO]
  by_cases h:lH ks [] p=0
  ·simp only[h,bne_self_eq_false,Bool.false_eq_true,if_false,if_true]
  ·have:(lH ks [] p !=0)=true:=by simpa using h
   simp only[h,this,if_true,if_false]
 |_,_,0,_,hm,_=>by simp at hm
theorem MH (k:Int->Int->ag->Option Int) (T:av) (s:ag) (t:Int) (hT:idx s.ae t=some T) (hk:T.ah.length<=8) (ps:Wq7) (hl:ps.length<=4) (hp:∀p∈ps,szP p<=1500000) (a1 a2:Int):∀(x:Wq7) (i m:Nat),ps.drop i=x->x.length+1500000<m->m<4294967296->
  yz k m t a1 a2 ps (ps.length:Int) (i:Int) s=if kO (aS T) x=0 then k a1 a2 s else some (kO (aS T) x)
 | [],i,m+1,hd,hm,hm'=>by
  have:ps.length<=i:=by simpa using hd
  have hq:¬((i:Int)<(ps.length:Int)):=by omega
  simp only[yz,HC,hq,decide_false,Bool.false_eq_true,if_false,kO,if_true]
 |p::x,i,m+1,hd,hm,hm'=>by
  obtain ⟨g1,g2,g3⟩:=aK hd;have hq:(i:Int)<(ps.length:Int):=by omega
  simp at hm;have ih:=MH k T s t hT hk ps hl hp a1 a2 x (i+1) m g2 (by omega) (by omega)
  have hpp:=hp p (List.mem_of_getElem? g1);have hkl:=bW T;simp only[yz,HC,hq,decide_true,if_true,aJ,g1,Option.bind_some,tC hT (by omega) (by omega:1000<m),XU m (aS T) [] p (by omega) (by simp;omega) (by omega) (by omega),aY g3 (by omega),ih,kO]
  by_cases h:lH (aS T) [] p=0
  ·simp only[h,bne_self_eq_false,Bool.false_eq_true,if_false,if_true]
  ·have:(lH (aS T) [] p !=0)=true:=by simpa using h
   simp only[h,this,if_true,if_false]
 |_,_,0,_,hm,_=>by simp at hm
def kK (T:av):Bool:=decide (T.ah.length<=8)&&(decide (T.aX.length<=4)&&decide (T.cc.length<=4))
theorem lK {T:av} (h:kK T=true):T.ah.length<=8/\T.aX.length<=4/\T.cc.length<=4:=by simpa[kK] using h
def szT (T:av):Prop:=∀p∈T.cc,szP p<=1500000
theorem ML (n0:Nat) (s:ag) (hl:s.ae.length<=8) (hb:∀T∈s.ae,kK T=true) (hz:∀T∈s.ae,szT T):∀(x:Wq1) (i m:Nat),s.ae.drop i=x->x.length+1500010<m->m<4294967296->
  vf (Cu n0) m s.ae (s.ae.length:Int) (i:Int) s=some (so x)
 | [],i,m+1,hd,hm,hm'=>by
  have:s.ae.length<=i:=by simpa using hd
  have hq:¬((i:Int)<(s.ae.length:Int)):=by omega
  simp only[vf,HL,Cu,hq,decide_false,Bool.false_eq_true,if_false,so]
 |T::x,i,m+1,hd,hm,hm'=>by
  obtain ⟨g1,g2,g3⟩:=aK hd;have hq:(i:Int)<(s.ae.length:Int):=by omega
  simp at hm;have mr:=List.mem_of_getElem? g1;obtain ⟨b1,b2,b3⟩:=lK (hb T mr);have hT:idx s.ae (i:Int)=some T:=by rw[aJ];exact g1
  have hkl:=bW T;have ih:=ML n0 s hl hb hz x (i+1) m g2 (by omega) (by omega)
  have hin:=MM (HM (vf (Cu n0) m) m) (aS T) (by omega) s T.cc b3 (hz T mr) s.ae (s.ae.length:Int) (i:Int) T.cc 0 m rfl (by omega) (by omega)
  rw[show ((0:Nat):Int)=0 from rfl] at hin;simp only[vf,HL,hq,decide_true,if_true,hT,Option.bind_some,MV hT (by omega) (by omega:1000<m),hin,HM,aY g3 (by omega),ih,so]
  by_cases h:kO (aS T) T.cc=0
  ·simp only[h,if_true]
  ·simp only[h,if_false]
 |_,_,0,_,hm,_=>by simp at hm
theorem MG (n0:Nat) (s:ag) (hl:s.ae.length<=8) (hb:∀T∈s.ae,kK T=true) (hz:∀T∈s.ae,szT T):∀(x:Wq1) (i m:Nat),s.ae.drop i=x->x.length+1500010<m->m<4294967296->
  ve (Ct n0) m (s.ae.length:Int) (i:Int) s=some (so x)
 | [],i,m+1,hd,hm,hm'=>by
  have:s.ae.length<=i:=by simpa using hd
  have hq:¬((i:Int)<(s.ae.length:Int)):=by omega
  simp only[ve,HA,Ct,hq,decide_false,Bool.false_eq_true,if_false,so]
 |T::x,i,m+1,hd,hm,hm'=>by
  obtain ⟨g1,g2,g3⟩:=aK hd;have hq:(i:Int)<(s.ae.length:Int):=by omega
  simp at hm;have mr:=List.mem_of_getElem? g1;obtain ⟨b1,b2,b3⟩:=lK (hb T mr);have hT:idx s.ae (i:Int)=some T:=by rw[aJ];exact g1
  have ih:=MG n0 s hl hb hz x (i+1) m g2 (by omega) (by omega)
  have hin:=MH (HB (ve (Ct n0) m) m) T s (i:Int) hT b1 T.cc b3 (hz T mr) (s.ae.length:Int) (i:Int) T.cc 0 m rfl (by omega) (by omega)
  rw[show ((0:Nat):Int)=0 from rfl] at hin;simp only[ve,HA,hq,decide_true,if_true,hT,Option.bind_some,hin,HB,aY g3 (by omega),ih,so]
  by_cases h:kO (aS T) T.cc=0
  ·simp only[h,if_true]
  ·simp only[h,if_false]
 |_,_,0,_,hm,_=>by simp at hm
theorem MN (k:ag->Option Int) (s:ag) (ts:Wq1) (hl:ts.length<=8):∀(x:Wq1) (i m:Nat),ts.drop i=x->x.length<m->yG k m ts (ts.length:Int) (i:Int) s=if x.all kK=true then k s else some 2
 | [],i,m+1,hd,hm=>by
  have:ts.length<=i:=by simpa using hd
  have hq:¬((i:Int)<(ts.length:Int)):=by omega
  simp only[yG,HO,hq,decide_false,Bool.false_eq_true,if_false,List.all_nil,if_true]
 |T::x,i,m+1,hd,hm=>by
  obtain ⟨g1,g2,g3⟩:=aK hd;have hq:(i:Int)<(ts.length:Int):=by omega
  have ih:=MN k s ts hl x (i+1) m g2 (by simp at hm;omega)
  simp only[yG,HO,hq,decide_true,if_true,aJ,g1,Option.bind_some,aY g3 (by omega),ih,List.all_cons,kK]
  by_cases h1:T.ah.length<=8
  ·have e1:¬(8:Int)<(T.ah.length:Int):=by omega
   by_cases h2:T.aX.length<=4
   ·have e2:¬(4:Int)<(T.aX.length:Int):=by omega
    by_cases h3:T.cc.length<=4
    ·have e3:¬(4:Int)<(T.cc.length:Int):=by omega
     simp only[h1,h2,h3,e1,e2,e3,decide_true,decide_false,Bool.false_eq_true,if_false,Bool.and_self,Bool.true_and]
    ·have e3:(4:Int)<(T.cc.length:Int):=by omega
     simp only[h1,h2,h3,e1,e2,e3,decide_true,decide_false,Bool.false_eq_true,if_false,if_true,Bool.and_false,Bool.false_and]
   ·have e2:(4:Int)<(T.aX.length:Int):=by omega
    simp only[h1,h2,e1,e2,decide_true,decide_false,Bool.false_eq_true,if_false,if_true,Bool.and_false,Bool.false_and]
  ·have e1:(8:Int)<(T.ah.length:Int):=by omega
   simp only[h1,e1,decide_true,decide_false,Bool.false_eq_true,if_false,if_true,Bool.false_and]
 |_,_,0,_,hm=>by simp at hm
theorem MK (k:ag->Option Int) (s:ag) (ts:Wq1) (hl:ts.length<=8):∀(x:Wq1) (i m:Nat),ts.drop i=x->x.length<m->yC k m ts (ts.length:Int) (i:Int) s=if x.all kK=true then k s else some 2
 | [],i,m+1,hd,hm=>by
  have:ts.length<=i:=by simpa using hd
  have hq:¬((i:Int)<(ts.length:Int)):=by omega
  simp only[yC,HF,hq,decide_false,Bool.false_eq_true,if_false,List.all_nil,if_true]
 |T::x,i,m+1,hd,hm=>by
  obtain ⟨g1,g2,g3⟩:=aK hd;have hq:(i:Int)<(ts.length:Int):=by omega
  have ih:=MK k s ts hl x (i+1) m g2 (by simp at hm;omega)
  simp only[yC,HF,hq,decide_true,if_true,aJ,g1,Option.bind_some,aY g3 (by omega),ih,List.all_cons,kK]
  by_cases h1:T.ah.length<=8
  ·have e1:¬(8:Int)<(T.ah.length:Int):=by omega
   by_cases h2:T.aX.length<=4
   ·have e2:¬(4:Int)<(T.aX.length:Int):=by omega
    by_cases h3:T.cc.length<=4
    ·have e3:¬(4:Int)<(T.cc.length:Int):=by omega
     simp only[h1,h2,h3,e1,e2,e3,decide_true,decide_false,Bool.false_eq_true,if_false,Bool.and_self,Bool.true_and]
    ·have e3:(4:Int)<(T.cc.length:Int):=by omega
     simp only[h1,h2,h3,e1,e2,e3,decide_true,decide_false,Bool.false_eq_true,if_false,if_true,Bool.and_false,Bool.false_and]
   ·have e2:(4:Int)<(T.aX.length:Int):=by omega
    simp only[h1,h2,e1,e2,decide_true,decide_false,Bool.false_eq_true,if_false,if_true,Bool.and_false,Bool.false_and]
  ·have e1:(8:Int)<(T.ah.length:Int):=by omega
   simp only[h1,e1,decide_true,decide_false,Bool.false_eq_true,if_false,if_true,Bool.false_and]
 |_,_,0,_,hm=>by simp at hm
theorem MJ (k:ag->Option Int) (s:ag) (hl:s.ae.length<=8) (hc:∀T∈s.ae,kK T=true):∀(x:Wq1) (i m:Nat),s.ae.drop i=x->x.length+2000<m->yB k m (s.ae.length:Int) (i:Int) s=if iT ((s.ae.take i).map (·.bp)) x=true then k s else some 70
 | [],i,m+1,hd,hm=>by
  have:s.ae.length<=i:=by simpa using hd
  have hq:¬((i:Int)<(s.ae.length:Int)):=by omega
  simp only[yB,HE,hq,decide_false,Bool.false_eq_true,if_false,iT,if_true]
 |T::x,i,m+1,hd,hm=>by
  obtain ⟨g1,g2,g3⟩:=aK hd;have hq:(i:Int)<(s.ae.length:Int):=by omega
  simp at hm;have ih:=MJ k s hl hc x (i+1) m g2 (by omega)
  rw[List.take_succ,g1] at ih;simp only[Option.toList_some,List.map_append,List.map_cons,List.map_nil] at ih;simp only[yB,HE,hq,decide_true,if_true,ahC m s hl i T g1 (lK (hc T (List.mem_of_getElem? g1))).1 (by omega),Option.bind_some,aY g3 (by omega),ih,iT]
  rcases Bool.eq_false_or_eq_true (zC ((s.ae.take i).map (·.bp)) T) with hv|hv<;>simp only[hv,Bool.not_true,Bool.not_false,Bool.false_eq_true,if_true,if_false,Bool.true_and,Bool.false_and]
 |_,_,0,_,hm=>by simp at hm
theorem MI (k:ag->Option Int) (s:ag) (hs:∀t G,idx s.ae t=some G->cn G) (hl:s.ae.length<=8) (hc:∀T∈s.ae,kK T=true):∀(x:Wq1) (i m:Nat),s.ae.drop i=x->x.length+2000<m->yA k m (s.ae.length:Int) (i:Int) s=if allRefs s x=true then k s else some 70
 | [],i,m+1,hd,hm=>by
  have:s.ae.length<=i:=by simpa using hd
  have hq:¬((i:Int)<(s.ae.length:Int)):=by omega
  simp only[yA,HD,hq,decide_false,Bool.false_eq_true,if_false,allRefs,if_true]
 |T::x,i,m+1,hd,hm=>by
  obtain ⟨g1,g2,g3⟩:=aK hd;have hq:(i:Int)<(s.ae.length:Int):=by omega
  simp at hm;have ih:=MI k s hs hl hc x (i+1) m g2 (by omega)
  simp only[yA,HD,hq,decide_true,if_true,ahB m s hs i T g1 (lK (hc T (List.mem_of_getElem? g1))).2.1 (by omega),Option.bind_some,aY g3 (by omega),ih,allRefs]
  rcases Bool.eq_false_or_eq_true (mg s T T.aX) with hv|hv<;>simp only[hv,Bool.not_true,Bool.not_false,Bool.false_eq_true,if_true,if_false,Bool.true_and,Bool.false_and]
 |_,_,0,_,hm=>by simp at hm
def vI (s:ag):Int:=
 if 8<s.ae.length then 2
 else if s.ae.all kK=true then
  (if s.bD<0 then 70 else if 1000<s.bD then 70
   else if iT [] s.ae=true then (if allRefs s s.ae=true then so s.ae else 70) else 70)
 else 2
theorem C1 {s:ag} (hb:∀T∈s.ae,kK T=true) (h:iT [] s.ae=true):∀t G,idx s.ae t=some G->cn G:=fun t G hG=>
 Iu (fun T hT=>(lK (hb T hT)).1) h G (List.mem_of_getElem? (nY hG).2.2)
theorem Yj {s:ag} (h:vI s=0):SOK s:=by
 unfold vI at h;split at h
 ·cases h
 ·rename_i h8;split at h
  ·rename_i hb;rw[List.all_eq_true] at hb;split at h
   ·cases h
   ·split at h
    ·cases h
    ·split at h
     ·rename_i ht;exact ⟨by omega,C1 hb ht⟩
     ·cases h
  ·cases h
theorem ahS (n:Nat) (s:ag) (hz:∀T∈s.ae,szT T) (hn:1600000<n) (hn':n<4294967296):F38 n s=some (vI s):=by
 unfold F38 Tx vI;by_cases h8:8<s.ae.length
 ·have:(8:Int)<(s.ae.length:Int):=by omega
  simp only[h8,this,decide_true,if_true]
 ·have h8':¬(8:Int)<(s.ae.length:Int):=by omega
  have h0:=MN (HK n) s s.ae (by omega) s.ae 0 n rfl (by omega)
  rw[show ((0:Nat):Int)=0 from rfl] at h0;simp only[h8,h8',decide_false,Bool.false_eq_true,if_false,h0];by_cases hb:s.ae.all kK=true
  ·simp only[hb,if_true,HK];have hb':=List.all_eq_true.1 hb;by_cases v1:s.bD<0
   ·simp only[v1,decide_true,if_true]
   ·by_cases v2:1000<s.bD
    ·simp only[v1,v2,decide_true,decide_false,Bool.false_eq_true,if_false,if_true]
    ·simp only[v1,v2,decide_false,Bool.false_eq_true,if_false,ahG n s (by omega) (fun T hT=>(lK (hb' T hT)).1) (by omega),Option.bind_some]
     by_cases ht:iT [] s.ae=true
     ·simp only[ht,Bool.not_true,Bool.false_eq_true,if_false,if_true,ahF n s (C1 hb' ht) (by omega) (fun T hT=>(lK (hb' T hT)).2.1) (by omega),Option.bind_some]
      by_cases hr:allRefs s s.ae=true
      ·have h3:=ML n s (by omega) hb' hz s.ae 0 n rfl (by omega) hn'
       rw[show ((0:Nat):Int)=0 from rfl] at h3;simp only[hr,Bool.not_true,Bool.false_eq_true,if_false,if_true,h3]
      ·simp only[hr,Bool.not_eq_true] at hr ⊢;simp[hr]
     ·have ht':iT [] s.ae=false:=by simpa using ht
      simp[ht']
  ·simp only[hb,if_false,Bool.false_eq_true]
theorem ahO (n:Nat) (s:ag) (hz:∀T∈s.ae,szT T) (hn:1600000<n) (hn':n<4294967296):F44 n s=some (vI s):=by
 unfold F44 Nd vI;by_cases h8:8<s.ae.length
 ·have:(8:Int)<(s.ae.length:Int):=by omega
  simp only[h8,this,decide_true,if_true]
 ·have h8':¬(8:Int)<(s.ae.length:Int):=by omega
  have h0:=MK (Hx n) s s.ae (by omega) s.ae 0 n rfl (by omega)
  rw[show ((0:Nat):Int)=0 from rfl] at h0;simp only[h8,h8',decide_false,Bool.false_eq_true,if_false,h0];by_cases hb:s.ae.all kK=true
  ·simp only[hb,if_true,Hx];have hb':=List.all_eq_true.1 hb;by_cases v1:s.bD<0
   ·simp only[v1,decide_true,if_true]
   ·by_cases v2:1000<s.bD
    ·simp only[v1,v2,decide_true,decide_false,Bool.false_eq_true,if_false,if_true]
    ·have h1:=MJ (Hy n) s (by omega) hb' s.ae 0 n rfl (by omega)
     rw[show ((0:Nat):Int)=0 from rfl,List.take_zero,List.map_nil] at h1;simp only[v1,v2,decide_false,Bool.false_eq_true,if_false,h1];by_cases ht:iT [] s.ae=true
     ·have h2:=MI (Hz n) s (C1 hb' ht) (by omega) hb' s.ae 0 n rfl (by omega)
      rw[show ((0:Nat):Int)=0 from rfl] at h2;simp only[ht,if_true,Hy,h2];by_cases hr:allRefs s s.ae=true
      ·have h3:=MG n s (by omega) hb' hz s.ae 0 n rfl (by omega) hn'
       rw[show ((0:Nat):Int)=0 from rfl] at h3;simp only[hr,if_true,Hz,h3]
      ·simp only[hr,if_false,Bool.false_eq_true]
     ·simp only[ht,if_false,Bool.false_eq_true]
  ·simp only[hb,if_false,Bool.false_eq_true]
theorem rH:∀{a b c:List UInt8},Op.bytesLess a b=true->Op.bytesLess b c=true->Op.bytesLess a c=true
 |_,[],_,h,_=>by cases ‹List UInt8› <;>simp[Op.bytesLess] at h
 |_,_::_,[],_,h=>by simp[Op.bytesLess] at h
 | [],_::_,_::_,_,_=>by simp[Op.bytesLess]
 |x::a,y::b,z::c,h1,h2=>by
  rw[Ev] at h1 h2 ⊢;simp only[Bool.or_eq_true,decide_eq_true_eq,Bool.and_eq_true,beq_iff_eq] at h1 h2 ⊢;rcases h1 with h1|⟨rfl,h1⟩<;>rcases h2 with h2|⟨rfl,h2⟩
  ·exact .inl (UInt8.lt_trans h1 h2)
  ·exact .inl h1
  ·exact .inl h2
  ·exact .inr ⟨rfl,rH h1 h2⟩
theorem NJ {a b:aI}:fU a b= -1↔a.aw<b.aw\/(a.aw=b.aw/\(a.bM<b.bM\/(a.bM=b.bM/\Op.bytesLess a.bl.toList b.bl.toList=true))):=by
 unfold fU;split
 ·rename_i h;simp[h]
 ·split
  ·rename_i h1 h;constructor
   ·intro h;omega
   ·intro h;omega
  ·have e:a.aw=b.aw:=by omega
   split
   ·rename_i h;simp[e,h]
   ·split
    ·constructor
     ·intro h;omega
     ·intro h;omega
    ·have e2:a.bM=b.bM:=by omega
     split
     ·rename_i h;simp[e,e2,h]
     ·rename_i h;split
      ·constructor
       ·intro h;omega
       ·rintro (h'|⟨_,h'|⟨_,h'⟩⟩)
        ·omega
        ·omega
        ·exact absurd h' h
      ·constructor
       ·intro h;omega
       ·rintro (h'|⟨_,h'|⟨_,h'⟩⟩)
        ·omega
        ·omega
        ·exact absurd h' h
theorem P6 {a b c:aI} (h1:fU a b= -1) (h2:fU b c= -1):fU a c= -1:=by
 rw[NJ] at*;rcases h1 with h1|⟨e1,h1⟩<;>rcases h2 with h2|⟨e2,h2⟩
 ·left;omega
 ·left;omega
 ·left;omega
 ·right;refine ⟨by omega,?_⟩
  rcases h1 with h1|⟨e3,h1⟩<;>rcases h2 with h2|⟨e4,h2⟩
  ·left;omega
  ·left;omega
  ·left;omega
  ·exact .inr ⟨by omega,rH h1 h2⟩
theorem CW {a b:aI} (h:fU a b=0):a=b:=by
 unfold fU at h;split at h
 ·cases h
 ·split at h
  ·cases h
  ·split at h
   ·cases h
   ·split at h
    ·cases h
    ·split at h
     ·cases h
     ·split at h
      ·rename_i h5;obtain ⟨x,y,z⟩:=a;obtain ⟨x',y',z'⟩:=b;simp only at*;rw[show x=x' by omega,show y=y' by omega,h5]
      ·cases h
theorem jK:∀{x y:Wq2},bZ x y=0->x=y
 | [],[],_=>rfl
 | [],_::_,h=>by simp[bZ] at h
 |_::_,[],h=>by simp[bZ] at h
 |a::x,b::y,h=>by
  simp only[bZ] at h;split at h
  ·rename_i h0;rw[CW h0,jK h]
  ·exact absurd h (by assumption)
theorem rY {x y:Wq2}:bZ x y=0↔x=y:=⟨jK,fun h=>h ▸ l4 x⟩
theorem A4:∀{x y z:Wq2},bZ x y= -1->bZ y z= -1->bZ x z= -1
 | [],[],_,h,_=>by simp[bZ] at h
 | [],_::_,[],_,h=>by simp[bZ] at h
 | [],_::_,_::_,_,_=>by simp[bZ]
 |_::_,[],_,h,_=>by simp[bZ] at h
 |_::_,_::_,[],_,h=>by simp[bZ] at h
 |a::x,b::y,c::z,h1,h2=>by
  simp only[bZ] at h1 h2 ⊢;split at h1
  ·rename_i e1;have e1:=CW e1;subst e1;split at h2
   ·rename_i e2;rw[if_pos e2];exact A4 h1 h2
   ·rename_i e2;rw[if_neg e2];exact h2
  ·split at h2
   ·rename_i e2;have e2:=CW e2;subst e2;rw[if_neg (by omega)];exact h1
   ·have:=P6 h1 h2;rw[if_neg (by omega)];exact this
abbrev kOf (T:av) (r:Wq2):Wq2:=r.take T.aq.toNat
def lt (a b:Wq2):Prop:=bZ a b= -1
instance (a b:Wq2):Decidable (lt a b):=inferInstanceAs (Decidable (_=_))
theorem lt_irrefl (a:Wq2):¬lt a a:=fun h=>by have:=l4 a;unfold lt at h;omega
theorem lt_trans {a b c:Wq2} (h1:lt a b) (h2:lt b c):lt a c:=A4 h1 h2
theorem lt_asymm {a b:Wq2} (h:lt a b):¬lt b a:=fun h'=>lt_irrefl a (lt_trans h h')
theorem vX (a b:Wq2):lt a b\/a=b\/lt b a:=by
 rcases oL a b with h|h|h
 ·exact .inl h
 ·exact .inr (.inl (jK h))
 ·exact .inr (.inr (by show bZ b a= -1;rw[tU a b,h]))
theorem l5 {a b:Wq2}:bZ a b<0↔lt a b:=by
 unfold lt;rcases oL a b with h|h|h<;>omega
def Ord (T:av) (rows:Wq8):Prop:=rows.Pairwise fun a b=>lt (kOf T a) (kOf T b)
def cF (T:av) (k:Wq2) (N rows:Wq8):Wq8:=rows.filter (fun r=>decide (lt (kOf T r) k))++N++rows.filter (fun r=>decide (lt k (kOf T r)))
theorem lG {T:av} {k:Wq2} {N rows:Wq8} {r:Wq2}:r∈cF T k N rows↔(r∈rows/\kOf T r≠k)\/r∈N:=by
 unfold cF;simp only[List.mem_append,List.mem_filter,decide_eq_true_eq];constructor
 ·rintro ((⟨h1,h2⟩|h)|⟨h1,h2⟩)
  ·exact .inl ⟨h1,fun e=>lt_irrefl _ (e ▸ h2)⟩
  ·exact .inr h
  ·exact .inl ⟨h1,fun e=>lt_irrefl _ (e ▸ h2)⟩
 ·rintro (⟨h1,h2⟩|h)
  ·rcases vX (kOf T r) k with h|h|h
   ·exact .inl (.inl ⟨h1,h⟩)
   ·exact absurd h h2
   ·exact .inr ⟨h1,h⟩
  ·exact .inl (.inr h)
theorem tV {T:av} {k:Wq2} {N rows:Wq8} (h:Ord T rows) (hN:N= []\/∃r,N= [r]/\kOf T r=k):Ord T (cF T k N rows):=by
 unfold Ord cF at*;have hN1:∀r∈N,kOf T r=k:=by
  rcases hN with rfl|⟨r,rfl,e⟩
  ·simp
  ·simpa using e
 rw[List.pairwise_append,List.pairwise_append];refine ⟨⟨h.filter _,?_,fun a ha b hb=> ?_⟩,h.filter _,fun a ha b hb=> ?_⟩
 ·rcases hN with rfl|⟨r,rfl,e⟩<;>simp
 ·rw[hN1 b hb];simpa using (List.mem_filter.1 ha).2
 ·have hb:lt k (kOf T b):=by simpa using (List.mem_filter.1 hb).2
  rcases List.mem_append.1 ha with ha|ha
  ·exact lt_trans (by simpa using (List.mem_filter.1 ha).2) hb
  ·rw[hN1 a ha];exact hb
theorem filter_all {α:Type} {p:α->Bool} {l:List α} (h:∀x∈l,p x=true):l.filter p=l:=List.filter_eq_self.2 h
theorem filter_none {α:Type} {p:α->Bool} {l:List α} (h:∀x∈l,p x=false):l.filter p= []:=List.filter_eq_nil_iff.2 fun x hx=>by rw[h x hx];simp
theorem Yt {T:av} {k:Wq2} {N A B:Wq8} (hA:∀r∈A,lt (kOf T r) k) (hB:∀r∈B,lt k (kOf T r)):cF T k N (A++B)=A++N++B:=by
 unfold cF;rw[List.filter_append,List.filter_append,filter_all (fun x hx=>by simpa using hA x hx),filter_none (fun x hx=>by simpa using lt_asymm (hB x hx)),filter_none (l:=A) (fun x hx=>by simpa using lt_asymm (hA x hx)),filter_all (l:=B) (fun x hx=>by simpa using hB x hx)]
 simp
theorem EX {T:av} {k q:Wq2} {N A B:Wq8} (hA:∀r∈A,lt (kOf T r) k) (hq:kOf T q=k) (hB:∀r∈B,lt k (kOf T r)):cF T k N (A++q::B)=A++N++B:=by
 unfold cF;have h1:decide (lt (kOf T q) k)=false:=by rw[hq];simpa using lt_irrefl k
 have h2:decide (lt k (kOf T q))=false:=by rw[hq];simpa using lt_irrefl k
 rw[List.filter_append,List.filter_append,List.filter_cons,List.filter_cons,h1,h2,filter_all (fun x hx=>by simpa using hA x hx),filter_none (fun x hx=>by simpa using lt_asymm (hB x hx)),filter_none (l:=A) (fun x hx=>by simpa using lt_asymm (hA x hx)),filter_all (l:=B) (fun x hx=>by simpa using hB x hx)]
 simp
def ez (id : Int) (r1 r2 r3 : Wq6) (ch : Wq7) : Wq1 :=
  [⟨ByteArray.mk #[112, 114, 111, 106, 101, 99, 116, 115], [⟨ByteArray.mk #[105, 100], 4⟩, ⟨ByteArray.mk #[111, 119, 110, 101, 114], 4⟩], 1, [], []⟩,
   ⟨ByteArray.mk #[116, 97, 115, 107, 115], [⟨ByteArray.mk #[105, 100], id⟩, ⟨ByteArray.mk #[112, 114, 111, 106, 101, 99, 116], 4⟩, ⟨ByteArray.mk #[116, 105, 116, 108, 101], 5⟩, ⟨ByteArray.mk #[100, 111, 110, 101], 3⟩], 1, r1, ch⟩,
   ⟨ByteArray.mk #[109, 101, 109, 98, 101, 114, 115], [⟨ByteArray.mk #[112, 114, 111, 106, 101, 99, 116], 4⟩, ⟨ByteArray.mk #[112, 101, 114, 115, 111, 110], 4⟩], 2, r2, []⟩,
   ⟨ByteArray.mk #[97, 114, 99, 104, 105, 118, 101, 100], [⟨ByteArray.mk #[116, 97, 115, 107], id⟩], 1, r3, []⟩]
structure MT (v id:Int) (k:Nat) (r1 r2 r3:Wq6) (ch:Wq7):Prop where
 v0:0<=v
 v1:v<=2
 hid:id=4\/id=5
 hk:k=2\/k=3\/k=4
 h1:r1= []\/r1= [⟨[1],0⟩]
 h2:r2= []\/r2= [⟨[0],0⟩]
 h3:r3= []\/r3= [⟨[0],1⟩]
 hc:ch.length<=1/\kO [id,4,5,3] ch=0/\∀p∈ch,szP p<=119
def nk (s:ag):Prop:=∃v id k r1 r2 r3 ch,MT v id k r1 r2 r3 ch/\s=⟨v,(ez id r1 r2 r3 ch).take k⟩
theorem nk.chk {s:ag} (h:nk s):vI s=0:=by
 obtain ⟨v,id,k,r1,r2,r3,ch,⟨v0,v1,hid,hk,h1,h2,h3,hc0,hc,_⟩,rfl⟩:=h;have e1:¬8<((ez id r1 r2 r3 ch).take k).length:=by rw[List.length_take];simp[ez];omega
 have e2:((ez id r1 r2 r3 ch).take k).all kK=true:=by
  have hr1:r1.length<=4:=by rcases h1 with rfl|rfl<;>simp
  have hr2:r2.length<=4:=by rcases h2 with rfl|rfl<;>simp
  have hr3:r3.length<=4:=by rcases h3 with rfl|rfl<;>simp
  have hch:ch.length<=4:=by omega
  rcases hk with rfl|rfl|rfl<;>simp[ez,kK,hr1,hr2,hr3,hch]
 have e3:iT [] ((ez id r1 r2 r3 ch).take k)=true:=by
  rcases hid with rfl|rfl<;>rcases hk with rfl|rfl|rfl<;>kernel_rfl
 have e4:allRefs ⟨v,(ez id r1 r2 r3 ch).take k⟩ ((ez id r1 r2 r3 ch).take k)=true:=by
  rcases hid with rfl|rfl<;>rcases hk with rfl|rfl|rfl<;>rcases h1 with rfl|rfl<;>rcases h2 with rfl|rfl<;>rcases h3 with rfl|rfl<;>kernel_rfl
 have e5:so ((ez id r1 r2 r3 ch).take k)=0:=by
  rcases hk with rfl|rfl|rfl<;>simp[ez,so,kO,aS,hc]
 unfold vI;simp only[e1,e2,e3,e4,e5,if_false,if_true,show ¬v<0 by omega,show ¬1000<v by omega]
theorem nk.ok {s:ag} (h:nk s):SOK s:=Yj h.chk
theorem nk.sz {s:ag} (h:nk s):∀T∈s.ae,szT T:=by
 obtain ⟨v,id,k,r1,r2,r3,ch,⟨_,_,_,_,_,_,_,_,_,hz⟩,rfl⟩:=h;intro T hT p hp;have hT:=List.mem_of_mem_take hT;simp only[ez,List.mem_cons,List.not_mem_nil,or_false] at hT;rcases hT with rfl|rfl|rfl|rfl
 ·simp at hp
 ·have:=hz p hp;omega
 ·simp at hp
 ·simp at hp
theorem nk.pos {s:ag} (h:nk s):2<=s.ae.length:=by
 obtain ⟨v,id,k,r1,r2,r3,ch,⟨_,_,_,hk,_⟩,rfl⟩:=h;rw[List.length_take];simp[ez];omega
theorem EJ (n:Nat) (hn:2000<=n) (hn':n<4294967296) (c:ak) (hc:aT c) (z:ag) (v id:Int) (k:Nat) (r1 r2 r3:Wq6) (h:MT v id k r1 r2 r3 []) (ts:Wq1) (hts:ts=(ez id r1 r2 r3 []).take k) (b5:ag) (hb5:b5.bD=v):
  Ok (Ap n c z b5 ts) fun r=>aT r.2/\nk r.1:=by
 unfold Ap;refine Ok.bind (iM n c 3 hc) fun b hb=> ?_
 refine Ok.ite (fun _=> ?_) fun _=>Ok.pure ⟨hb,v,id,k,r1,r2,r3,[],h,by rw[hb5,hts]⟩
 have hT:idx (ag.mk b5.bD ts).ae 1=some ⟨ByteArray.mk #[116,97,115,107,115],[⟨ByteArray.mk #[105,100],id⟩,⟨ByteArray.mk #[112,114,111,106,101,99,116],4⟩,⟨ByteArray.mk #[116,105,116,108,101],5⟩,⟨ByteArray.mk #[100,111,110,101],3⟩],1,r1,[]⟩:=by
  rw[hts];rcases h.hk with rfl|rfl|rfl<;>rfl
 rw[tC hT (by simp) (by omega),Option.bind_some]
 have hks:dx [id,4,5,3]=true:=by rcases h.hid with rfl|rfl<;>rfl
 refine Ok.bind (ahV [id,4,5,3] [] hks rfl (by simp) (by simp) 1 n b.2 hb (by omega) hn' (by omega) (by omega)) fun p ⟨hp,p0,pz⟩=> ?_
 have e1:bnd ts.length 1=some 1:=by rw[hts];rcases h.hk with rfl|rfl|rfl<;>rfl
 have e2:ts[0+1]? =some ⟨ByteArray.mk #[116,97,115,107,115],[⟨ByteArray.mk #[105,100],id⟩,⟨ByteArray.mk #[112,114,111,106,101,99,116],4⟩,⟨ByteArray.mk #[116,105,116,108,101],5⟩,⟨ByteArray.mk #[100,111,110,101],3⟩],1,r1,[]⟩:=by
  rw[hts];rcases h.hk with rfl|rfl|rfl<;>rfl
 rw[e1,Option.bind_some,e2,Option.bind_some];have e3:setAt ts (0+1) ⟨ByteArray.mk #[116,97,115,107,115],[⟨ByteArray.mk #[105,100],id⟩,⟨ByteArray.mk #[112,114,111,106,101,99,116],4⟩,⟨ByteArray.mk #[116,105,116,108,101],5⟩,⟨ByteArray.mk #[100,111,110,101],3⟩],1,r1,[p.1]⟩=some ((ez id r1 r2 r3 [p.1]).take k):=by
  rw[hts];rcases h.hk with rfl|rfl|rfl<;>rfl
 rw[e3,Option.bind_some];exact Ok.pure ⟨hp,v,id,k,r1,r2,r3,[p.1],⟨h.v0,h.v1,h.hid,h.hk,h.h1,h.h2,h.h3,by simp,by simp[kO,p0],by simpa using pz⟩,by rw[hb5]⟩
theorem yU (n:Nat) (hn:2000<=n) (hn':n<4294967296) (c:ak) (hc:aT c) (z:ag) (v id:Int) (k:Nat) (r1 r2:Wq6) (h:MT v id k r1 r2 [] []) (ts:Wq1) (hts:ts=(ez id r1 r2 [] []).take k) (b5:ag) (hb5:b5.bD=v):
  Ok (xd n (k:Int) c z b5 ts) fun r=>aT r.2/\nk r.1:=by
 unfold xd;refine Ok.ite (fun hk=> ?_) fun _=>EJ n hn hn' c hc _ v id k r1 r2 [] h ts hts _ hb5
 have hk:k=4:=by have:=h.hk;simp at hk;omega
 subst hk;refine Ok.bind (iM n c 3 hc) fun b hb=> ?_
 refine Ok.ite (fun _=> ?_) fun _=>EJ n hn hn' b.2 hb _ v id 4 r1 r2 [] h ts hts _ hb5
 subst hts;show Ok (Ap n b.2 ⟨0,[]⟩ ⟨b5.bD,(ez id r1 r2 [⟨[0],1⟩] []).take 4⟩ ((ez id r1 r2 [⟨[0],1⟩] []).take 4)) _;exact EJ n hn hn' b.2 hb _ v id 4 r1 r2 [⟨[0],1⟩] {h with h3:=.inr rfl} _ rfl _ hb5
theorem PX (n:Nat) (hn:2000<=n) (hn':n<4294967296) (c:ak) (hc:aT c) (z:ag) (v id:Int) (k:Nat) (r1:Wq6) (h:MT v id k r1 [] [] []) (ts:Wq1) (hts:ts=(ez id r1 [] [] []).take k) (b5:ag) (hb5:b5.bD=v):
  Ok (Ao n (k:Int) c z b5 ts) fun r=>aT r.2/\nk r.1:=by
 unfold Ao;refine Ok.ite (fun hk=> ?_) fun _=>yU n hn hn' c hc _ v id k r1 [] h ts hts _ hb5
 refine Ok.bind (iM n c 3 hc) fun b hb=> ?_
 refine Ok.ite (fun _=> ?_) fun _=>yU n hn hn' b.2 hb _ v id k r1 [] h ts hts _ hb5
 subst hts;have hk:k=3\/k=4:=by have:=h.hk;simp at hk;omega
 rcases hk with rfl|rfl
 ·show Ok (xd n (3:Nat) b.2 ⟨0,[]⟩ ⟨b5.bD,(ez id r1 [⟨[0],0⟩] [] []).take 3⟩ ((ez id r1 [⟨[0],0⟩] [] []).take 3)) _;exact yU n hn hn' b.2 hb _ v id 3 r1 [⟨[0],0⟩] {h with h2:=.inr rfl} _ rfl _ hb5
 ·show Ok (xd n (4:Nat) b.2 ⟨0,[]⟩ ⟨b5.bD,(ez id r1 [⟨[0],0⟩] [] []).take 4⟩ ((ez id r1 [⟨[0],0⟩] [] []).take 4)) _;exact yU n hn hn' b.2 hb _ v id 4 r1 [⟨[0],0⟩] {h with h2:=.inr rfl} _ rfl _ hb5
theorem PW (n:Nat) (hn:2000<=n) (hn':n<4294967296) (c:ak) (hc:aT c) (z:ag) (id:Int) (hid:id=4\/id=5) (k:Nat) (hk:k=2\/k=3\/k=4):
  Ok (Na n (k:Int) id c z) fun r=>aT r.2/\nk r.1:=by
 unfold Na;refine Ok.bind (dw n c 3 hc) fun v ⟨hv,v0,v1,_⟩=> ?_
 have v1:=v1 (by omega)
 simp only[F30,TD,Option.bind_some];have h:∀r1,(r1= []\/r1= [⟨[1],0⟩])->MT v.1 id k r1 [] [] []:=fun r1 h1=>⟨v0,by omega,hid,hk,h1,.inl rfl,.inl rfl,by simp,rfl,by simp⟩
 have e0:gd 4 (k:Int)=some k:=by unfold gd;rw[if_pos (by omega)];rfl
 rw[e0,Option.bind_some];refine Ok.bind (iM n v.2 2 hv) fun b hb=> ?_
 refine Ok.ite (fun _=> ?_) fun _=> ?_
 rotate_left
 ·show Ok (Ao n (k:Int) b.2 ⟨0,[]⟩ ⟨v.1,(ez id [] [] [] []).take k⟩ ((ez id [] [] [] []).take k)) _;exact PX n hn hn' b.2 hb _ v.1 id k [] (h [] (.inl rfl)) _ rfl _ rfl
 have e1:bnd k 1=some 1:=by rcases hk with rfl|rfl|rfl<;>rfl
 rw[e1,Option.bind_some];show Ok (Ao n (k:Int) b.2 ⟨0,[]⟩ ⟨v.1,(ez id [⟨[1],0⟩] [] [] []).take k⟩ ((ez id [⟨[1],0⟩] [] [] []).take k)) _;exact PX n hn hn' b.2 hb _ v.1 id k [⟨[1],0⟩] (h _ (.inr rfl)) _ rfl _ rfl
theorem amo (n:Nat) (hn:2000<=n) (hn':n<4294967296) (c:ak) (hc:aT c):Ok (F9 n c) fun r=>aT r.2/\nk r.1:=by
 unfold F9 aaq;refine Ok.bind (dw n c 3 hc) fun v ⟨hv,v0,v1,_⟩=> ?_
 have v1:=v1 (by omega)
 have e:w64 (2+v.1)=((2+v.1.toNat:Nat):Int):=by rw[bI (by omega) (by omega)];omega
 rw[e];refine Ok.bind (iM n v.2 5 hv) fun b hb=> ?_
 exact Ok.ite (fun _=>PW n hn hn' b.2 hb _ 5 (.inr rfl) _ (by omega)) fun _=>PW n hn hn' b.2 hb _ 4 (.inl rfl) _ (by omega)
end Go.Proofs.YtmealahmjddpcaaGreatDoor
end
