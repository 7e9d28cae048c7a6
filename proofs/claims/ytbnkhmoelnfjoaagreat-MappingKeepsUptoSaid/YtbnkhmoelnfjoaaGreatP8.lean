/- Part. -/
import Derived.Test.YtbnkhmoelnfjoaaGreatP7
import Derived.Laws.RangeString
import Derived.Laws.RangeAny
import Derived.Test.YtbnkhmoelnfjoaaGreatP4
set_option linter.all false
set_option maxRecDepth 100000
noncomputable section
namespace Go.Proofs.YtbnkhmoelnfjoaaGreat
open Go.bX
def nlt {A:Type} {l:List A} {i:Nat} (h:l.drop i=[]):¬((i:Int)<(l.length:Int)):=by
 have:l.length<=i:=by simpa using h
 omega
def gdr {A:Type} {l x:List A} {i:Nat} {a:A} (h:l.drop i=a::x):l[i]? =some a/\l.drop (i+1)=x/\i<l.length/\(i:Int)<(l.length:Int):=by
 let ⟨p,q,r⟩:=bE h;exact ⟨p,q,r,by omega⟩
variable {i d p a:Nat} {k x c:Int} {l cols params ks:aK} {J:Type} {v b:aP} {seen:List ByteArray} {o:aT} {f:Int->Int} {q:Int->Bool} {ts:bn}
def xd (k:Int):Bool:=k==3||k==4||k==5
def kP (l:aK):Bool:=l.all xd
def cf {L:Nat} (h:i<L) (hl:L<4294967296):bl ((i:Int)+1)=((i+1:Nat):Int):=by rw[dw (by omega) (by omega)];rfl
def ajh (n:Nat) (k:Int):adI n k=some (xd k):=by
 unfold adI aeF xd;by_cases h3:k=3
 ·simp[h3]
 ·by_cases h4:k=4
  ·simp[h4]
  ·simp[h3,h4]
def aiW (xs:aK) (hl:xs.length<4294967296):∀(l:aK) (i n:Nat),xs.drop i=l->l.length<n->Fh (some true) n xs (xs.length:Int) (i:Int)=some (kP l)
 | [],i,n+1,hd,hn=>by
  have:xs.length<=i:=by simpa using hd
  have h:¬((i:Int)<(xs.length:Int)):=by omega
  simp[Fh,Ry,h,kP]
 |x::l,i,n+1,hd,hn=>by
  let ⟨h1,h2,h3⟩:=bE hd;have h:((i:Int)<(xs.length:Int)):=by omega
  have ih:=aiW xs hl l (i+1) n h2 (by simp at hn;omega)
  simp only[Fh,Ry,h,aU,aB,bM,h1,au,ajh,cf h3 hl,ih];simp only[kP,tO];cases xd x<;>simp
 |_,_,0,_,hn=>by simp at hn
def ajm (n:Nat) (xs:aK) (hl:xs.length<4294967296) (hn:xs.length<n):adK n xs=some (kP xs):=by
 have:=aiW xs hl xs 0 n rfl hn;simpa[adK,aeL,aeM] using this
def aiY (xs:aK) (hl:xs.length<4294967296):∀(l:aK) (i n:Nat),xs.drop i=l->l.length<n->FG (some true) n xs (xs.length:Int) (i:Int)=some (kP l)
 | [],i,n+1,hd,hn=>by
  have:xs.length<=i:=by simpa using hd
  have h:¬((i:Int)<(xs.length:Int)):=by omega
  simp[FG,SF,h,kP]
 |x::l,i,n+1,hd,hn=>by
  let ⟨h1,h2,h3⟩:=bE hd;have h:((i:Int)<(xs.length:Int)):=by omega
  have ih:=aiY xs hl l (i+1) n h2 (by simp at hn;omega)
  simp only[FG,SF,h,aU,aB,bM,h1,au,cf h3 hl,ih];simp only[kP,tO,xd];by_cases q3:x=3
  ·simp[q3]
  ·by_cases q4:x=4
   ·simp[q4]
   ·by_cases q5:x=5<;>simp[q3,q4,q5]
 |_,_,0,_,hn=>by simp at hn
def ajw (n:Nat) (xs:aK) (hl:xs.length<4294967296) (hn:xs.length<n):aed n xs=some (kP xs):=by
 have:=aiY xs hl xs 0 n rfl hn;simpa[aed,afy,afz] using this
mutual
def qV:ah->Nat
 |⟨_,_,_,_,args⟩=>1+pN args
def pN:bO->Nat
 | []=>0
 |x::xs=>qV x+pN xs
end
mutual
def uv:ah->Nat
 |⟨_,_,_,_,args⟩=>1+tD args
def tD:bO->Nat
 | []=>0
 |x::xs=>max (uv x) (tD xs)
end
def aia (p:ah):1<=qV p:=by let ⟨_,_,_,_,_⟩:=p;simp[qV]
def ajl:∀(n:Nat) (p:ah) (m:Int),fG p<=n->fG p<4294967296->0<=m->m<=24->Ok (VU n p m) λr=>r<=25/\(m+qV p<=24->r=m+qV p)/\(24<m+qV p->24<r)
 |0,⟨_,_,_,_,_⟩,_,h,_,_,_=>by simp[fG] at h
 |n+1,⟨op,c,l,r,args⟩,m,h,hb,h0,h1=>by
  simp only[fG] at h hb;have hlen:=py args;have loop:∀(xs:bO) (i k:Nat) (m:Int),args.drop i=xs->xs.length<k->0<=m->m<=25->
    Ok (Fg (VU n) (λr=>some r) k m (i:Int) ⟨op,c,l,r,args⟩) λr=>r<=25/\(m+pN xs<=24->r=m+pN xs)/\(24<m+pN xs->24<r):=by
   intro xs;induction xs with
   |nil=>
    intro i k m hd hk m0 m1;have:args.length<=i:=by simpa using hd
    have hq:¬((i:Int)<(args.length:Int)):=by omega
    cases k with
    |zero=>simp at hk
    |succ k=>
     simp only[Fg,Rw,hq,aX,aC,aA];exact Ok.pure ⟨m1,λ_=>by simp[pN],λh=>by simp[pN] at h;exact h⟩
   |cons x xs ih=>
    intro i k m hd hk m0 m1;let ⟨g1,g2,g3⟩:=bE hd;have hq:((i:Int)<(args.length:Int)):=by omega
    cases k with
    |zero=>simp at hk
    |succ k=>
     simp only[Fg,Rw,hq,aU,aB];have hx:x∈args:=cT g1;have hs:=su hx;have xg:=aia x;refine Ok.ite (λhm=> ?_) λhm=> ?_
     ·simp at hm;rw[bM,g1,au];refine Ok.bind (ajl n x m (by omega) (by omega) m0 hm) λr ⟨r1,r2,r3⟩=> ?_
      rw[cf g3 (by omega)]
      have HT:0<=r:=by
       by_cases hz:m+qV x<=24
       ·have:=r2 hz;omega
       ·have:=r3 (by omega);omega
      refine (ih (i+1) k r g2 (by simp at hk;omega) HT r1).mono λr' ⟨q1,q2,q3⟩=>⟨q1,λhle=> ?_,λcY=> ?_⟩
      ·simp only[pN] at hle ⊢;have e:=r2 (by omega)
       have:=q2 (by omega)
       omega
      ·simp only[pN] at cY;by_cases hz:m+qV x<=24
       ·have e:=r2 hz;exact q3 (by omega)
       ·have e:=r3 (by omega)
        exact q3 (by omega)
     ·simp at hm;exact Ok.pure ⟨m1,λhle=>by simp only[pN] at hle;omega,λ_=>hm⟩
  unfold VU aeK;rw[dw (by omega) (by omega)]
  refine (loop args 0 n (m+1) rfl (by omega) (by omega) (by omega)).mono λr' ⟨q1,q2,q3⟩=>⟨q1,λhle=> ?_,λcY=> ?_⟩
  ·simp only[qV] at hle ⊢;have:=q2 (by omega)
   omega
  ·simp only[qV] at cY;exact q3 (by omega)
def ajk:∀(n:Nat) (p:ah) (m:Nat),fG p<=n->fG p<4294967296->m<=1000->J6 n p (m:Int)=some (decide (m<uv p))
 |0,⟨_,_,_,_,_⟩,_,h,_,_=>by simp[fG] at h
 |n+1,⟨op,c,l,r,args⟩,0,h,hb,hm=>by
  have:0<uv ⟨op,c,l,r,args⟩:=by simp only[uv];omega
  simp[J6,Ru,this]
 |n+1,⟨op,c,l,r,args⟩,m+1,h,hb,hm=>by
  simp only[fG] at h hb;have hlen:=py args;have loop:∀(xs:bO) (i k:Nat),args.drop i=xs->xs.length<k->
    Ff (J6 n) (some false) k ((m+1:Nat):Int) (args.length:Int) (i:Int) ⟨op,c,l,r,args⟩=some (decide (m<tD xs)):=by
   intro xs;induction xs with
   |nil=>
    intro i k hd hk;have:args.length<=i:=by simpa using hd
    have hq:¬((i:Int)<(args.length:Int)):=by omega
    cases k with
    |zero=>simp at hk
    |succ k=>simp[Ff,Rv,hq,tD]
   |cons x xs ih=>
    intro i k hd hk;let ⟨g1,g2,g3⟩:=bE hd;have hq:((i:Int)<(args.length:Int)):=by omega
    cases k with
    |zero=>simp at hk
    |succ k=>
     have hx:x∈args:=cT g1;have hs:=su hx;have hw:bl (((m+1:Nat):Int)-1)=(m:Int):=by rw[dw (by omega) (by omega)];omega
     simp only[Ff,Rv,hq,aU,aB,bM,g1,au,hw,ajk n x m (by omega) (by omega) (by omega),cf g3 (by omega:args.length<4294967296),
      ih (i+1) k g2 (by simp at hk;omega)]
     by_cases xl:m<uv x
     ·have:m<tD (x::xs):=by simp only[tD];omega
      simp[xl,this]
     ·have:(m<tD (x::xs))↔m<tD xs:=by simp only[tD];omega
      simp[xl,this]
  have cZ:¬(((m+1:Nat):Int)=0):=by omega
  have hl:=loop args 0 n rfl (by omega)
  have e:(m+1<uv ⟨op,c,l,r,args⟩)↔m<tD args:=by simp only[uv];omega
  simp only[J6,Ru,qI,cZ,aA,aeJ];rw[show ((0:Int))=((0:Nat):Int) from rfl,hl];simp[e]
def ajv:∀(n:Nat) (p:ah) (v b:Int),fG p<=n->fG p<4294967296->1<=v->v<=9->0<=b->b<=24->
  Ok (V2 n p v b) λr=>(r.1=true↔((qV p:Int)<=b/\v+uv p<=9))/\(r.1=true->r.2=b-qV p)
 |0,⟨_,_,_,_,_⟩,_,_,h,_,_,_,_,_=>by simp[fG] at h
 |n+1,⟨op,c,l,r,args⟩,v,b,h,hb,v1,v2,b1,b2=>by
  simp only[fG] at h hb;have hlen:=py args;have loop:∀(xs:bO) (i k:Nat) (b:Int),args.drop i=xs->xs.length<k->v<=8->0<=b->b<=24->
    Ok (FF (V2 n) (λb=>some (true,b)) k v args (args.length:Int) (i:Int) b) λr=>(r.1=true↔((pN xs:Int)<=b/\v+tD xs<=8))/\(r.1=true->r.2=b-pN xs):=by
   intro xs;induction xs with
   |nil=>
    intro i k b hd hk hv b1 b2;have:args.length<=i:=by simpa using hd
    have hq:¬((i:Int)<(args.length:Int)):=by omega
    cases k with
    |zero=>simp at hk
    |succ k=>
     simp only[FF,SD,hq,aX,aC,aA];exact Ok.pure ⟨by simp[pN,tD];omega,by simp[pN]⟩
   |cons x xs ih=>
    intro i k b hd hk hv b1 b2;let ⟨g1,g2,g3⟩:=bE hd;have hq:((i:Int)<(args.length:Int)):=by omega
    cases k with
    |zero=>simp at hk
    |succ k=>
     have hx:x∈args:=cT g1;have hs:=su hx;simp only[FF,SD,hq,aU,aB,bM,g1,au];rw[dw (x:=v+1) (by omega) (by omega)]
     refine Ok.bind (ajv n x (v+1) b (by omega) (by omega) (by omega) (by omega) b1 b2) λr ⟨r1,r2⟩=> ?_
     refine Ok.ite (λhr=> ?_) λhr=> ?_
     ·simp at hr;refine Ok.pure ⟨⟨λh=>by simp at h,λ⟨h1,h2⟩=> ?_⟩,λh=>by simp at h⟩
      simp only[pN,tD] at h1 h2;have:=r1.2 ⟨by omega,by omega⟩
      rw[hr] at this;exact absurd this (by simp)
     ·simp at hr;have e:=r2 hr;have q:=r1.1 hr;rw[cf g3 (by omega)]
      have xg:=aia x;refine (ih (i+1) k r.2 g2 (by simp at hk;omega) hv (by omega) (by omega)).mono λr' ⟨q1,q2⟩=>⟨⟨λh=> ?_,λ⟨h1,h2⟩=> ?_⟩,λh=> ?_⟩
      ·have:=q1.1 h;simp only[pN,tD];omega
      ·simp only[pN,tD] at h1 h2;exact q1.2 ⟨by omega,by omega⟩
      ·have:=q2 h;simp only[pN];omega
  unfold V2 afx;rw[dw (by omega) (by omega)]
  simp only[qV,uv];refine Ok.ite (λo7=> ?_) λo7=> ?_
  ·simp at o7;refine Ok.pure ⟨⟨λh=>by simp at h,λh=> ?_⟩,λh=>by simp at h⟩
   omega
  ·simp at o7;refine Ok.ite (λhv=> ?_) λhv=> ?_
   ·simp at hv;refine Ok.pure ⟨⟨λh=>by simp at h,λh=> ?_⟩,λh=>by simp at h⟩
    omega
   ·simp at hv;refine (loop args 0 n (b-1) rfl (by omega) hv (by omega) (by omega)).mono λr' ⟨q1,q2⟩=>⟨⟨λh=> ?_,λ⟨h1,h2⟩=> ?_⟩,λh=> ?_⟩
    ·have:=q1.1 h;omega
    ·exact q1.2 ⟨by omega,by omega⟩
    ·have:=q2 h;omega
def yo (v:aP):Bool:=v.ay==0&&(v.bZ==0&&(decide (v.bB=ByteArray.empty)&&true))
def Af (o:aT):Bool:=o.ay==0&&(o.cQ==0&&(yo o.aD&&true))
def kAt (l:aK) (o:aT):Int:=if 0<=o.cQ/\o.cQ<l.length/\yo o.aD=true then (l[o.cQ.toNat]?).getD 0 else 0
def kW (cols params:aK) (o:aT):Int:=
 if o.ay==3 then (if o.cQ==0&&gB o.aD then o.aD.ay else 0) else if o.ay==2 then kAt params o else if o.ay==1 then kAt cols o else 0
def Kc (n:Nat) (l:aK) (o:aT):Kd n l o=some (kAt l o):=by
 unfold Kd kAt;by_cases h1:o.cQ<0
 ·have:¬0<=o.cQ:=by omega
  simp[h1,this]
 ·by_cases h2:(l.length:Int)<=o.cQ
  ·have:¬o.cQ<l.length:=by omega
   simp[h1,h2,this]
  ·have e1:0<=o.cQ:=by omega
   have e2:o.cQ<l.length:=by omega
   have e3:o.cQ.toNat<l.length:=by omega
   have iN:idx l o.cQ=some (l[o.cQ.toNat]):=by simp[idx,e1,e3]
   cases h3:yo o.aD with
   |false=>
    simp only[yo] at h3;simp only[h1,h2,aX,aC,aA,ge_iff_le,h3,hZ,aB,and_false,e2,aU,du]
   |true=>
    simp only[yo] at h3;simp only[h1,h2,aX,aC,aA,ge_iff_le,h3,du,iN,au,e1,e2,and_self,aB,aU,du];simp[e3]
def aCP (n:Nat) (cols params:aK) (o:aT):adD n cols params o=some (kW cols params o):=by
 unfold adD aet kW;rw[Kc,Kc,AU];simp only[au];by_cases h3:o.ay=3
 ·by_cases hi:o.cQ=0<;>cases gB o.aD<;>simp[h3,hi]
 ·by_cases h2:o.ay=2
  ·simp[h2]
  ·by_cases h1:o.ay=1<;>simp[h1,h2,h3]
def aCT (n:Nat) (k:iQ) (o:aT):adN n k o=some (kW k.lp k.mR o):=by
 have h0:∀l,RG n l o=some (kAt l o):=λl=>by rw[<-Kc n l o];rfl
 unfold adN aeT kW;rw[h0,h0,ajo];simp only[au];by_cases h3:o.ay=3
 ·by_cases hi:o.cQ=0<;>cases gB o.aD<;>simp[h3,hi]
 ·by_cases h2:o.ay=2
  ·simp[h2]
  ·by_cases h1:o.ay=1<;>simp[h1,h2,h3]
def kN (c:Int) (l r:aT):Bool:=c==0&&Af l&&Af r
mutual
def pV (cols params:aK):ah->Bool
 |⟨op,c,l,r,args⟩=>
  if op==1||op==2 then kN c l r&&args.length==0
  else if op==3 then args.length==0&&decide (1<=c)&&decide (c<=6)&&kW cols params l !=0&&kW cols params l==kW cols params r
  else if op==4||op==5 then kN c l r&&pM cols params args
  else if op==6 then args.length==1&&(kN c l r&&pM cols params args)
  else false
def pM (cols params:aK):bO->Bool
 | []=>true
 |x::xs=>pV cols params x&&pM cols params xs
end
def ajd (n:Nat) (p:ah):VP n p=some (kN p.eP p.cq p.bL):=by
 unfold VP aeu kN Af yo;by_cases h:p.eP=0
 ·simp only[h,hY,aB,gR];split
  ·rename_i h1;simp only[h1,gR]
  ·rename_i h1;rw[Bool.not_eq_true] at h1;simp only[h1,gf]
 ·simp[h]
def ajj (cols params:aK):∀(n:Nat) (p:ah),fG p<=n->fG p<4294967296->J5 n cols params p=some (pV cols params p)
 |0,⟨_,_,_,_,_⟩,h,_=>by simp[fG] at h
 |n+1,⟨op,c,l,r,args⟩,h,hb=>by
  simp only[fG] at h hb;have hlen:=py args;have loop:∀(xs:bO) (i k:Nat),args.drop i=xs->xs.length<k->
    B2 (J5 n) (some true) k cols params (args.length:Int) (i:Int) ⟨op,c,l,r,args⟩=some (pM cols params xs):=by
   intro xs;induction xs with
   |nil=>
    intro i k hd hk;have:args.length<=i:=by simpa using hd
    have hq:¬((i:Int)<(args.length:Int)):=by omega
    cases k with
    |zero=>simp at hk
    |succ k=>simp[B2,Rt,hq,pM]
   |cons x xs ih=>
    intro i k hd hk;let ⟨g1,g2,g3⟩:=bE hd;have hq:((i:Int)<(args.length:Int)):=by omega
    cases k with
    |zero=>simp at hk
    |succ k=>
     have hx:x∈args:=cT g1;have hs:=su hx;simp only[B2,Rt,hq,aU,aB,bM,g1,au,ajj cols params n x (by omega) (by omega),cf g3 (by omega:args.length<4294967296),
      ih (i+1) k g2 (by simp at hk;omega),pM]
     cases pV cols params x<;>simp
  have hl:=loop args 0 n rfl (by omega)
  have hl:B2 (J5 n) (some true) n cols params (args.length:Int) 0 ⟨op,c,l,r,args⟩=some (pM cols params args):=hl;have hB:FU (J5 n) n cols params ⟨op,c,l,r,args⟩=some (kN c l r&&pM cols params args):=by
   unfold FU aeI;rw[ajd,au,hl];cases kN c l r<;>simp
  unfold J5 aeH;simp only[ajd,aCP,au,hB];unfold pV;have hz:((args.length:Int)==0)=(args.length==0):=by
   rw[ly];simp
  have ho:((args.length:Int) !=1)= !(args.length==1):=by
   rw[ly];simp;omega
  simp only[hz,ho];by_cases h1:op=1
  ·cases hp:kN c l r<;>simp[h1]
  ·by_cases h2:op=2
   ·cases hp:kN c l r<;>simp[h2]
   ·by_cases h3:op=3
    ·cases ha:(args.length==0) with
     |false=>simp[h3]
     |true=>
      by_cases c1:1<=c
      ·by_cases c2:c<=6
       ·by_cases c3:kW cols params l=0<;>simp[h3,c1,c2,c3]
       ·simp[h3,c1,c2]
      ·simp[h3,c1]
    ·by_cases h4:op=4
     ·simp[h4]
     ·by_cases h5:op=5
      ·simp[h5]
      ·by_cases h6:op=6
       ·cases ha:(args.length==1)<;>simp[h6]
       ·simp[h1,h2,h3,h4,h5,h6]
def V1 (k:iQ):∀(n:Nat) (p:ah),fG p<=n->fG p<4294967296->vA n k p=some (pV k.lp k.mR p)
 |0,⟨_,_,_,_,_⟩,h,_=>by simp[fG] at h
 |n+1,⟨op,c,l,r,args⟩,h,hb=>by
  simp only[fG] at h hb;have hlen:=py args;have aJR:∀(xs:bO) (i m:Nat),args.drop i=xs->xs.length<m->
    zd (vA n) (some true) m args (args.length:Int) (i:Int) k=some (pM k.lp k.mR xs):=by
   intro xs;induction xs with
   |nil=>
    intro i m hd hk;have:args.length<=i:=by simpa using hd
    have hq:¬((i:Int)<(args.length:Int)):=by omega
    cases m with
    |zero=>simp at hk
    |succ m=>simp[zd,SC,hq,pM]
   |cons x xs ih=>
    intro i m hd hk;let ⟨g1,g2,g3⟩:=bE hd;have hq:((i:Int)<(args.length:Int)):=by omega
    cases m with
    |zero=>simp at hk
    |succ m=>
     have hx:x∈args:=cT g1;have hs:=su hx;simp only[zd,SC,hq,aU,aB,bM,g1,au,V1 k n x (by omega) (by omega),cf g3 (by omega:args.length<4294967296),
      ih (i+1) m g2 (by simp at hk;omega),pM]
     cases pV k.lp k.mR x<;>simp
  have aJQ:∀(xs:bO) (i m:Nat),args.drop i=xs->xs.length<m->
    zc (vA n) (some true) m args (args.length:Int) (i:Int) k=some (pM k.lp k.mR xs):=by
   intro xs;induction xs with
   |nil=>
    intro i m hd hk;have:args.length<=i:=by simpa using hd
    have hq:¬((i:Int)<(args.length:Int)):=by omega
    cases m with
    |zero=>simp at hk
    |succ m=>simp[zc,SA,hq,pM]
   |cons x xs ih=>
    intro i m hd hk;let ⟨g1,g2,g3⟩:=bE hd;have hq:((i:Int)<(args.length:Int)):=by omega
    cases m with
    |zero=>simp at hk
    |succ m=>
     have hx:x∈args:=cT g1;have hs:=su hx;simp only[zc,SA,hq,aU,aB,bM,g1,au,V1 k n x (by omega) (by omega),cf g3 (by omega:args.length<4294967296),
      ih (i+1) m g2 (by simp at hk;omega),pM]
     cases pV k.lp k.mR x<;>simp
  have uq:zd (vA n) (some true) n args (args.length:Int) 0 k=some (pM k.lp k.mR args):=aJR args 0 n rfl (by omega)
  have hl3:zc (vA n) (some true) n args (args.length:Int) 0 k=some (pM k.lp k.mR args):=aJQ args 0 n rfl (by omega)
  have ark:∀X:Option Bool,(if c !=0 then some false else if !(Af l) then some false else if !(Af r) then some false else X)=if kN c l r then X else some false:=by
   intro X;unfold kN;by_cases hc:c=0
   ·cases Af l<;>cases Af r<;>simp[hc]
   ·simp[hc]
  have hB5:FZ (vA n) n k ⟨op,c,l,r,args⟩=some (kN c l r&&pM k.lp k.mR args):=by
   have:=ark (zc (vA n) (Sz (vA n) n) n args (args.length:Int) 0 k);unfold FZ;refine Eq.trans this ?_;unfold Sz;rw[hl3];cases kN c l r<;>simp
  have hB2:∀b,Kt (vA n) n b k ⟨op,c,l,r,args⟩=some (!b&&(kN c l r&&pM k.lp k.mR args)):=by
   intro b;have:=ark (zd (vA n) (SB (vA n) n) n args (args.length:Int) 0 k);unfold Kt;cases b with
   |true=>simp
   |false=>
    simp only[aC,aA,hZ,gR];refine Eq.trans this ?_;unfold SB;rw[uq];cases kN c l r<;>simp
  unfold vA afw;simp only[aCT,au,hB5,hB2];unfold pV;have hz:((args.length:Int)==0)=(args.length==0):=by
   rw[ly];simp
  have hz':((args.length:Int) !=0)= !(args.length==0):=by
   rw[ly];simp
  have ho:((args.length:Int) !=1)= !(args.length==1):=by
   rw[ly];simp;omega
  simp only[hz,hz',ho];have he:(args.length==0)=true->pM k.lp k.mR args=true:=by
   intro h;have:args= []:=by simpa using h
   simp[this,pM]
  by_cases h3:op=3
  ·cases ha:(args.length==0) with
   |false=>simp[h3]
   |true=>
    by_cases c1:1<=c
    ·by_cases c2:c<=6
     ·by_cases c3:kW k.lp k.mR l=0<;>simp[h3,c1,c2,c3]
     ·simp[h3,c1,c2]
    ·simp[h3,c1]
  ·by_cases h1:op=1
   ·cases ha:(args.length==0) with
    |false=>simp[h1]
    |true=>simp[h1,he ha]
   ·by_cases h2:op=2
    ·cases ha:(args.length==0) with
     |false=>simp[h2]
     |true=>simp[h2,he ha]
    ·by_cases h6:op=6
     ·cases ha:(args.length==1)<;>simp[h6]
     ·by_cases h4:op=4
      ·simp[h4]
      ·by_cases h5:op=5
       ·simp[h5]
       ·simp[h1,h2,h3,h4,h5,h6]
def sI (cols params:aK) (p:ah):Int:=
 if !kP cols then 1 else if !kP params then 1 else if decide (24<qV p)||decide (8<uv p) then 2 else if !pV cols params p then 50 else 0
def ajt (n:Nat) (cols params:aK) (p:ah) (h1:cols.length<n) (h2:params.length<n) (h3:fG p<=n) (h4:n<4294967296):aea n cols params p=some (sI cols params p):=by
 let ⟨r,e,r1,r2,r3⟩:=ajl n p 0 h3 (by omega) (by omega) (by omega)
 have hd:=ajk n p 8 h3 (by omega) (by omega)
 have hd:J6 n p 8=some (decide (8<uv p)):=hd;unfold aea afo sI;simp only[ajm n cols (by omega) h1,ajm n params (by omega) h2,e,hd,ajj cols params n p h3 (by omega),au]
 cases kP cols<;>cases kP params<;>simp
 by_cases hn:24<qV p
 ·have:=r3 (by omega)
  simp[hn,this]
 ·have:=r2 (by omega)
  have h24:¬24<r:=by omega
  by_cases h8:8<uv p<;>cases pV cols params p<;>simp[hn,h24,h8]
def aJo (n:Nat) (cols params:aK) (p:ah) (h1:cols.length<n) (h2:params.length<n) (h3:fG p<=n) (h4:n<4294967296):F46 n cols params p=some (sI cols params p):=by
 let ⟨r,e,r1,r2⟩:=ajv n p 1 24 h3 (by omega) (by omega) (by omega) (by omega) (by omega)
 unfold F46 anH sI;simp only[ajw n cols (by omega) h1,ajw n params (by omega) h2,e,V1 ⟨cols,params⟩ n p h3 (by omega),au]
 cases kP cols<;>cases kP params<;>simp
 cases hr:r.1 with
 |true=>
  have:=r1.1 hr;have e1:¬24<qV p:=by omega
  have e2:¬8<uv p:=by omega
  cases pV cols params p<;>simp[e1,e2]
 |false=>
  have:¬((qV p:Int)<=24/\(1:Int)+uv p<=9):=λh=>by rw[r1.2 h] at hr;simp at hr
  have e1:24<qV p\/8<uv p:=by omega
  rcases e1 with h|h<;>simp[h]
def yP (h:xd k=true):3<=k/\k<=5:=by simp[xd] at h;omega
def NK (h:kP l=true) (hx:l[i]? =some x):xd x=true:=by
 simp only[kP,iJ] at h;exact h x (cT hx)
def atG (cols params:aK) (k:Int) (l:td):Prop:=∀o∈l,kW cols params o=k
def apN (h:cols[i]? =some k):kW cols params ⟨1,(i:Int),⟨0,0,ByteArray.empty⟩⟩=k:=by
 have hi:i<cols.length:=(bY.1 h).1;have:(i:Int)<(cols.length:Int):=by omega
 simp[kW,kAt,yo,this,h]
def apM (h:params[i]? =some k):kW cols params ⟨2,(i:Int),⟨0,0,ByteArray.empty⟩⟩=k:=by
 have hi:i<params.length:=(bY.1 h).1;have:(i:Int)<(params.length:Int):=by omega
 simp[kW,kAt,yo,this,h]
def asI (n:Nat) (hn:300<=n) (cols params:aK) (k:Int) (hk:xd k=true) (l:td) (c:aM) (hc:dk c) (hl:l.length<=300) (ho:atG cols params k l) (z:aT):
  Ok (Kf n k c z l) λr=>dk r.2/\kW cols params r.1=k:=by
 have hkr:=yP hk;unfold Kf;rw[dw (by omega) (by omega)]
 refine Ok.bind (ka n c ((l.length:Int)+1) hc) λr ⟨hr,r0,r1,_⟩=> ?_
 have r1:=r1 (by omega)
 refine Ok.ite (λh=> ?_) λh=> ?_
 ·simp at h;have cY:r.1.toNat<l.length:=by omega
  have:eW l.length r.1=some r.1.toNat:=by simp[eW,r0,cY]
  rw[this,au,cA,dI cY,au];exact Ok.pure ⟨hr,ho _ (rS _)⟩
 ·refine Ok.bind (Ce n (by omega) r.2 k hr hkr.1 hkr.2) λx ⟨hx,kx,rx⟩=>Ok.pure ⟨hx,?_⟩
  simp[kW,rx,kx]
def J2 (n:Nat) (hn:300<=n) (cols params:aK) (k:Int) (hk:xd k=true) (hp:params.length<=100) (z:aT):∀(xs:aK) (i m:Nat) (l:td) (c:aM),params.drop i=xs->xs.length<m->dk c->l.length+xs.length<=300->atG cols params k l->
  Ok (Fi (Kf n) m k params (params.length:Int) (i:Int) c z l) λr=>dk r.2/\kW cols params r.1=k
 | [],i,m+1,l,c,hd,hm,hc,hl,ho=>by
  have:params.length<=i:=by simpa using hd
  have hq:¬((i:Int)<(params.length:Int)):=by omega
  simp only[Fi,RA,hq,aX,aC,aA];exact asI n hn cols params k hk l c hc (by simp at hl;omega) ho z
 |x::xs,i,m+1,l,c,hd,hm,hc,hl,ho=>by
  let ⟨g1,g2,g3⟩:=bE hd;have hq:((i:Int)<(params.length:Int)):=by omega
  simp only[Fi,RA,hq,aU,aB,bM,g1,au];simp at hm hl;refine Ok.ite (λh=> ?_) λh=> ?_
  ·simp at h;subst h;rw[dL _ _ (by simp;omega),au,cf g3 (by omega)]
   refine J2 n hn cols params x hk hp z xs (i+1) m _ c g2 (by omega) hc (by simp;omega) λo hx=> ?_
   rcases eR.1 hx with hx|hx
   ·exact ho o hx
   ·simp at hx;subst hx;exact apM g1
  ·rw[cf g3 (by omega)]
   exact J2 n hn cols params k hk hp z xs (i+1) m l c g2 (by omega) hc (by omega) ho
 |_,_,0,_,_,_,hm,_,_,_=>by simp at hm
def J3 (n:Nat) (hn:300<=n) (cols params:aK) (k:Int) (hk:xd k=true) (hp:params.length<=100) (eI:cols.length<=100) (z:aT):∀(xs:aK) (i m:Nat) (l:td) (c:aM),cols.drop i=xs->xs.length<m->dk c->l.length+xs.length<=100->atG cols params k l->
  Ok (Fj (Rz n) m params k cols (cols.length:Int) (i:Int) c z l) λr=>dk r.2/\kW cols params r.1=k
 | [],i,m+1,l,c,hd,hm,hc,hl,ho=>by
  have:cols.length<=i:=by simpa using hd
  have hq:¬((i:Int)<(cols.length:Int)):=by omega
  simp only[Fj,RB,hq,aX,aC,aA,Rz];exact J2 n hn cols params k hk hp z params 0 n l c rfl (by omega) hc (by simp at hl;omega) ho
 |x::xs,i,m+1,l,c,hd,hm,hc,hl,ho=>by
  let ⟨g1,g2,g3⟩:=bE hd;have hq:((i:Int)<(cols.length:Int)):=by omega
  simp only[Fj,RB,hq,aU,aB,bM,g1,au];simp at hm hl;refine Ok.ite (λh=> ?_) λh=> ?_
  ·simp at h;subst h;rw[dL _ _ (by simp;omega),au,cf g3 (by omega)]
   refine J3 n hn cols params x hk hp eI z xs (i+1) m _ c g2 (by omega) hc (by simp;omega) λo hx=> ?_
   rcases eR.1 hx with hx|hx
   ·exact ho o hx
   ·simp at hx;subst hx;exact apN g1
  ·rw[cf g3 (by omega)]
   exact J3 n hn cols params k hk hp eI z xs (i+1) m l c g2 (by omega) hc (by omega) ho
 |_,_,0,_,_,_,hm,_,_,_=>by simp at hm
def ajn (n:Nat) (hn:300<=n) (c:aM) (cols params:aK) (k:Int) (hk:xd k=true) (hc:dk c) (eI:cols.length<=100) (hp:params.length<=100):Ok (amR n c cols params k) λr=>dk r.2/\kW cols params r.1=k:=
 J3 n hn cols params k hk hp eI _ cols 0 n [] c rfl (by omega) hc (by simp;omega) (λo h=>by simp at h)
def nB:Nat->Nat
 |0=>1
 |d+1=>1+3*nB d
def sB:Nat->Nat
 |0=>2
 |d+1=>2+3*(1+sB d)
def aFe (d:Nat):1<=nB d:=by cases d<;>simp[nB]
def aEO (d:Nat):2<=sB d:=by cases d<;>simp[sB]
structure tJ (cols params:aK) (d:Nat) (r:ah×aM):Prop where
 case:dk r.2
 val:pV cols params r.1=true
 dp:uv r.1<=d+1
 nd:qV r.1<=nB d
 sz:fG r.1<=sB d
def abm {op:Int} {l r:aT} {x:aM} (hx:dk x) (hv:pV cols params ⟨op,c,l,r,[]⟩=true):tJ cols params d (⟨op,c,l,r,[]⟩,x):=
 ⟨hx,hv,by simp[uv,tD],by simp[qV,pN];exact aFe d,by simp[fG,kM];exact aEO d⟩
def zo:aT:=⟨0,0,⟨0,0,ByteArray.empty⟩⟩
def Nz:kN 0 zo zo=true:=by decide
def Xl (s:aM->aK->aK->Int->Option (ah×aM)) (n:Nat) (cols params:aK) (d:Nat) (x:aM) (hx:dk x) (c:Int) (l r:aT) (h1:1<=c) (h2:c<=6) (h3:kW cols params l≠0) (h4:kW cols params l=kW cols params r) (z:ah):
  Ok (Ko s n x z ⟨3,c,l,r,[]⟩) (tJ cols params d):=by
 unfold Ko;refine Ok.bind (tL n x 6 hx) λb hb=> ?_
 refine Ok.ite (λ_=>Ok.pure (abm hb ?_)) λ_=>Ok.pure (abm hb ?_)
 ·simp[pV,h1,h2,<-h4,h3]
 ·simp[pV,h1,h2,<-h4,h3]
def Xk (s:aM->aK->aK->Int->Option (ah×aM)) (n:Nat) (hn:300<=n) (cols params:aK) (eI:cols.length<=100) (hp:params.length<=100) (d:Nat) (k:Int) (hk:xd k=true) (x:aM) (hx:dk x) (z:ah):
  Ok (Kn s n cols params k x z) (tJ cols params d):=by
 have hkr:=yP hk;unfold Kn;refine Ok.bind (ka n x 6 hx) λr ⟨hr,r0,r1,_⟩=> ?_
 have r1:=r1 (by omega)
 rw[dw (by omega) (by omega)]
 refine Ok.bind (ajn n hn r.2 cols params k hk hr eI hp) λl ⟨hl,kl⟩=> ?_
 refine Ok.bind (Ce n (by omega) l.2 k hl hkr.1 hkr.2) λv ⟨hv,kv,rv⟩=> ?_
 refine Ok.bind (tL n v.2 3 hv) λb hb=> ?_
 refine Ok.ite (λ_=> ?_) λ_=> ?_
 ·refine Ok.bind (ajn n hn b.2 cols params k hk hb eI hp) λo ⟨ho,ko⟩=> ?_
  exact Xl s n cols params d o.2 ho _ _ _ (by omega) (by omega) (by omega) (by omega) _
 ·refine Xl s n cols params d b.2 hb _ _ _ (by omega) (by omega) (by omega) ?_ _
  simp[kW,rv,kv] at kl ⊢;exact kl
def Xj (s:aM->aK->aK->Int->Option (ah×aM)) (cols params:aK) (d:Nat) (hd:d<=1000)
  (hs:∀c,dk c->Ok (s c cols params (d:Int)) (tJ cols params d)) (n0:Nat):∀(j n:Nat) (op:Int) (args:bO) (c:aM) (z:ah) (a0:bO),dk c->j<n->args.length+j<=3->pM cols params args=true->tD args<=d+1->pN args<=args.length*nB d->kM args<=args.length*(1+sB d)->(op=4\/op=5)->
  Ok (FC s (Sp s n0) n cols params ((d+1:Nat):Int) ((j:Int)-1) c z ⟨op,0,zo,zo,a0⟩ args) (tJ cols params (d+1))
 |0,n+1,op,args,c,z,a0,hc,_,hj,h1,h2,h3,h4,eT=>by
  have:((0:Nat):Int)-1<0:=by omega
  simp only[FC,Sq,Sp,this,aU,du,aC,aA];have e3:args.length*nB d<=3*nB d:=kK _ (by omega)
  have e4:args.length*(1+sB d)<=3*(1+sB d):=kK _ (by omega)
  refine Ok.pure ⟨hc,?_,by simp only[uv];omega,by simp only[qV,nB];omega,by simp only[fG,sB];omega⟩
  rcases eT with rfl|rfl<;>simp[pV,Nz,h1]
 |j+1,n+1,op,args,c,z,a0,hc,hn,hj,h1,h2,h3,h4,eT=>by
  have:¬(((j+1:Nat):Int)-1<0):=by omega
  simp only[FC,Sq,this,aX,hZ,aB];have hw:bl (((d+1:Nat):Int)-1)=(d:Int):=by rw[dw (by omega) (by omega)];omega
  have hw2:bl (((j+1:Nat):Int)-1-1)=(j:Int)-1:=by rw[dw (by omega) (by omega)];omega
  rw[hw,hw2];refine Ok.bind (hs c hc) λx hx=> ?_
  rw[dL _ _ (by simp;omega),au]
  have key:∀(l:bO) (y:ah),pM cols params (l++ [y])=(pM cols params l&&pV cols params y)/\tD (l++ [y])=max (tD l) (uv y)/\pN (l++ [y])=pN l+qV y/\kM (l++ [y])=kM l+(1+fG y):=by
   intro l y;induction l with
   |nil=>simp[pM,tD,pN,kM]
   |cons a l ih=>
    let ⟨i1,i2,i3,i4⟩:=ih;simp only[yB,pM,tD,pN,kM,i1,i2,i3,i4];refine ⟨by rw[Bool.and_assoc],by omega,by omega,by omega⟩
  let ⟨k1,k2,k3,k4⟩:=key args x.1;refine Xj s cols params d hd hs n0 j n op _ x.2 _ _ hx.case (by omega) (by simp;omega) (by rw[k1,h1,hx.val];rfl) (by rw[k2];have:=hx.dp;omega) ?_ ?_ eT
  ·rw[k3,gO];have:=hx.nd;simp only[kr,AE,gD];omega
  ·rw[k4,gO];have:=hx.sz;simp only[kr,AE,gD];omega
 |_,0,_,_,_,_,_,_,hn,_,_,_,_,_,_=>by simp at hn
def tJ.up {r:ah×aM} {e:Nat} (h:tJ cols params d r) (hd:d<=e):tJ cols params e r:=by
 have hn:∀k,nB d<=nB (d+k):=by
  intro k;induction k with
  |zero=>simp
  |succ k ih=>rw[<-fU];simp only[nB];omega
 have hs:∀k,sB d<=sB (d+k):=by
  intro k;induction k with
  |zero=>simp
  |succ k ih=>rw[<-fU];simp only[sB];omega
 have e1:d+(e-d)=e:=by omega
 have a:=hn (e-d);have b:=hs (e-d);rw[e1] at a b;exact ⟨h.case,h.val,by have:=h.dp;omega,by have:=h.nd;omega,by have:=h.sz;omega⟩
def VX (cols params:aK) (hk:kP cols=true) (eI:cols.length<=100) (hp:params.length<=100):∀(d n:Nat) (c:aM),dk c->300+d<n->d<=100->Ok (Ch n c cols params (d:Int)) (tJ cols params d)
 |d,0,c,hc,hn,_=>by omega
 |d,n+1,c,hc,hn,hd=>by
  have leaf:∀(op:Int) (x:aM) (z:ah),dk x->Ok (w5 (Ch n) n cols params (d:Int) op true x z) (tJ cols params d):=by
   intro op x z hx;unfold w5;simp only[aB];refine Ok.ite (λh=> ?_) λh=> ?_
   ·simp at h;refine Ok.bind (ka n x (cols.length:Int) hx) λr ⟨hr,r0,r1,_⟩=> ?_
    have r1:=r1 (by omega)
    have cY:r.1.toNat<cols.length:=by omega
    have iN:idx cols r.1=some (cols[r.1.toNat]):=by simp[idx,r0,cY]
    rw[iN,au];exact Xk (Ch n) n (by omega) cols params eI hp d _ (NK hk (i:=r.1.toNat) (by simp[cY])) r.2 hr _
   ·exact Xk (Ch n) n (by omega) cols params eI hp d 4 rfl x hx _
  have inner:∀(op:Int) (x:aM) (z:ah),6<=op->op<=8->dk x->Ok (w5 (Ch n) n cols params (d:Int) op (decide ((d:Int)<1)) x z) (tJ cols params d):=by
   intro op x z o1 o2 hx;cases d with
   |zero=>simpa using leaf op x z hx
   |succ d=>
    have xg:¬(((d+1:Nat):Int)<1):=by omega
    have hw:bl (((d+1:Nat):Int)-1)=(d:Int):=by rw[dw (by omega) (by omega)];omega
    have ih:=λc hc=>VX cols params hk eI hp d n c hc (by omega) (by omega)
    unfold w5;simp only[xg,aX,aC,aA];refine Ok.ite (λh6=> ?_) λh6=> ?_
    ·rw[hw];refine Ok.bind (ih x hx) λr hr=>Ok.pure ⟨hr.case,?_,?_,?_,?_⟩
     ·have:kN 0 ⟨0,0,⟨0,0,ByteArray.empty⟩⟩ ⟨0,0,⟨0,0,ByteArray.empty⟩⟩=true:=Nz;simp[pV,this,pM,hr.val]
     ·simp only[uv,tD];have:=hr.dp;omega
     ·simp only[qV,pN,nB];have:=hr.nd;omega
     ·simp only[fG,kM,sB];have:=hr.sz;omega
    ·simp at h6;refine Ok.bind (ka n x 3 hx) λr ⟨hr,r0,r1,_⟩=> ?_
     have r1:=r1 (by omega)
     rw[dw (x:=4+op) (by omega) (by omega),dw (by omega) (by omega)]
     have e:r.1=((r.1.toNat+1:Nat):Int)-1:=by omega
     rw[e];exact Xj (Ch n) cols params d (by omega) ih n (r.1.toNat+1) n (4+op-7) [] r.2 _ _ hr (by omega) (by simp;omega) rfl (by simp[tD]) (by simp[pN]) (by simp[kM]) (by omega)
  unfold Ch afp;refine Ok.bind (ka n c 9 hc) λr ⟨hr,r0,r1,_⟩=> ?_
  have r1:=r1 (by omega)
  refine Ok.ite (λh0=> ?_) λh0=> ?_
  ·simp at h0;refine Ok.bind (tL n r.2 2 hr) λb hb=> ?_
   refine Ok.ite (λ_=> ?_) λ_=> ?_
   ·refine Ok.bind (ka n b.2 2 hb) λq ⟨hq,q0,q1,_⟩=> ?_
    have q1:=q1 (by omega)
    rw[dw (by omega) (by omega)]
    refine Ok.pure (abm hq ?_);have hz:kN 0 ⟨0,0,⟨0,0,ByteArray.empty⟩⟩ ⟨0,0,⟨0,0,ByteArray.empty⟩⟩=true:=Nz;have:q.1=0\/q.1=1:=by omega
    rcases this with e|e<;>simp[pV,e,hz]
   ·refine Ok.ite (λ_=>leaf _ _ _ hb) λh6=> ?_
    simp at h6;omega
  ·refine Ok.ite (λ_=>leaf _ _ _ hr) λh6=> ?_
   simp at h6;exact inner r.1 r.2 _ h6 (by omega) hr
def aJl (cols params:aK) (hk:kP cols=true) (jC:kP params=true) (eI:cols.length<=100) (hp:params.length<=100) (d n:Nat) (c:aM) (hc:dk c) (hn:1000<=n) (fN:n<4294967296) (xl:1<=d) (hd:d<=3):
  Ok (F92 n c cols params (d:Int)) λr=>dk r.2/\sI cols params r.1=0/\fG r.1<=119:=by
 unfold F92 ano;refine Ok.bind (VX cols params hk eI hp d n c hc (by omega) (by omega)) λr hr=> ?_
 have hs:fG r.1<=119:=(hr.up hd).sz;rw[ajt n cols params r.1 (by omega) (by omega) (by omega) fN,au]
 refine Ok.ite (λh2=> ?_) λh2=> ?_
 ·refine Ok.bind (VX cols params hk eI hp 1 n r.2 hr.case (by omega) (by omega)) λq hq=>Ok.pure ⟨hq.case,?_,(hq.up (by omega:1<=3)).sz⟩
  have h1:=hq.nd;have h2:=hq.dp;have e1:¬24<qV q.1:=by simp[nB] at h1;omega
  have e2:¬8<uv q.1:=by omega
  simp[sI,hk,jC,e1,e2,hq.val]
 ·refine Ok.pure ⟨hr.case,?_,hs⟩;have:sI cols params r.1=2\/sI cols params r.1=0:=by
   unfold sI;cases decide (24<qV r.1)||decide (8<uv r.1)<;>simp[hk,jC,hr.val]
  simp at h2;exact this.resolve_left h2
def qc:aK->cC->Bool
 | [],[]=>true
 |k::ks,v::vs=>(gB v&&v.ay==k)&&qc ks vs
 |_,_=>false
def aav:∀{ks:aK} {vs:cC},qc ks vs=true->vs.length=ks.length
 | [],[],_=>rfl
 |k::ks,v::vs,h=>by simp[qc] at h;simp[aav h.2]
 | [],_::_,h=>by simp[qc] at h
 |_::_,[],h=>by simp[qc] at h
section
def VD (x y:UInt8) (a b:List UInt8):Op.bytesLess (x::a) (y::b)=(decide (x<y)||(x==y&&Op.bytesLess a b)):=by simp[Op.bytesLess]
def CZ:∀{a b:List UInt8},Op.bytesLess a b=true->Op.bytesLess b a=false
 | [],[],h=>by simp[Op.bytesLess] at h
 | [],_::_,_=>by simp[Op.bytesLess]
 |_::_,[],h=>by simp[Op.bytesLess] at h
 |x::a,y::b,h=>by
  rw[VD] at h ⊢;by_cases h1:x<y
  ·have h2:¬y<x:=λh2=>xu x (UInt8.lt_trans h1 h2)
   have h3:¬y=x:=λe=>by subst e;exact xu _ h1
   simp[h2,h3]
  ·by_cases h3:x=y
   ·subst h3;simp[xu] at h ⊢;exact CZ h
   ·simp[h1,h3] at h
def CY:∀{a b:List UInt8},Op.bytesLess a b=false->a≠b->Op.bytesLess b a=true
 | [],[],_,h=>absurd rfl h
 | [],_::_,h,_=>by simp[Op.bytesLess] at h
 |_::_,[],_,_=>by simp[Op.bytesLess]
 |x::a,y::b,h,cZ=>by
  rw[VD] at h ⊢;by_cases h1:x<y
  ·simp[h1] at h
  ·by_cases h2:y<x
   ·simp[h2]
   ·have:x=y:=UInt8.le_antisymm (KA.1 h2) (KA.1 h1);subst this;simp[xu] at h ⊢;exact CY h (λe=>cZ (by rw[e]))
def YW (a b:aP):lj b a= - lj a b:=by
 unfold lj;by_cases h1:a.ay<b.ay
 ·have:¬b.ay<a.ay:=by omega
  simp[h1,this]
 ·by_cases h2:b.ay<a.ay
  ·simp[h1,h2]
  ·by_cases h3:a.bZ<b.bZ
   ·have:¬b.bZ<a.bZ:=by omega
    simp[h1,h2,h3,this]
   ·by_cases h4:b.bZ<a.bZ
    ·simp[h1,h2,h3,h4]
    ·cases h5:Op.bytesLess a.bB.toList b.bB.toList with
     |true=>
      have h6:=CZ h5;have h7:¬b.bB=a.bB:=λe=>by rw[e,oT] at h5;cases h5
      simp[h1,h2,h3,h4,h6,h7]
     |false=>
      by_cases h6:a.bB=b.bB
      ·simp[h1,h2,h3,h4,h6,oT]
      ·have h7:Op.bytesLess b.bB.toList a.bB.toList=true:=CY h5 (λe=>h6 (zK (by rw[vZ,vZ] at e;exact e)))
       simp[h1,h2,h3,h4,h6,h7]
def ajG (a b:aP):lj a b= -1\/lj a b=0\/lj a b=1:=by
 unfold lj;repeat' split
 all_goals simp
def eZ:cC->cC->Int
 | [],[]=>0
 | [],_::_=> -1
 |_::_,[]=>1
 |a::x,b::y=>if lj a b=0 then eZ x y else lj a b
def Nv:∀(x y:cC),eZ y x= - eZ x y
 | [],[]=>rfl
 | [],_::_=>rfl
 |_::_,[]=>rfl
 |a::x,b::y=>by
  have h:=YW a b;simp only[eZ];rw[Nv x y,h];by_cases h1:lj a b=0
  ·simp[h1]
  ·have:¬ -lj a b=0:=by omega
   simp[h1,this]
def Gg:∀(x y:cC),eZ x y= -1\/eZ x y=0\/eZ x y=1
 | [],[]=>by simp[eZ]
 | [],_::_=>by simp[eZ]
 |_::_,[]=>by simp[eZ]
 |a::x,b::y=>by
  simp only[eZ];split
  ·exact Gg x y
  ·exact ajG a b
def IL (x:cC):eZ x x=0:=by have:=Nv x x;omega
def aiX (n0:Nat) (a b:cC) (ha:a.length<4294967296):∀(x:cC) (i m:Nat),a.drop i=x->i<=a.length->i<=b.length->x.length<m->Cc (Kq n0) m a b a (a.length:Int) (i:Int)=some (eZ (a.drop i) (b.drop i))
 | [],i,m+1,hd,h1,h2,hm=>by
  have hl:a.length<=i:=by simpa using hd
  have hq:¬((i:Int)<(a.length:Int)):=by omega
  simp only[Cc,Sr,Kq,hq,aX,aC,aA];rw[hd];cases hb:b.drop i with
  |nil=>
   have:b.length<=i:=by simpa using hb
   have e1:¬(a.length:Int)<b.length:=by omega
   simp[e1,eZ]
  |cons y l=>
   let ⟨_,_,g3⟩:=bE hb;have e1:(a.length:Int)<b.length:=by omega
   simp[e1,eZ]
 |x::xs,i,m+1,hd,h1,h2,hm=>by
  let ⟨g1,g2,g3,hq⟩:=gdr hd
  simp only[Cc,Sr,hq,aU,aB,bM,g1,au];cases hb:b.drop i with
  |nil=>
   have hl:b.length<=i:=by simpa using hb
   have e0:¬(i:Int)<b.length:=by omega
   simp[e0,hd,eZ]
  |cons y l=>
   let ⟨k1,k2,k3⟩:=bE hb;have e0:(i:Int)<b.length:=by omega
   simp only[e0,aU,du,aC,aA,k1,au,aDh];rw[hd,cf g3 ha];simp only[eZ];by_cases h:lj x y=0
   ·simp only[h,jg,aC,aA,aB];rw[aiX n0 a b ha xs (i+1) m g2 (by omega) (by omega) (by simp at hm;omega),g2,k2]
   ·have:(lj x y !=0)=true:=by simpa using h
    simp only[this,h,aB,aA]
 |_,_,0,_,_,_,hm=>by simp at hm
def ady (n:Nat) (a b:cC) (ha:a.length<4294967296) (hn:a.length<n):F67 n a b=some (eZ a b):=by
 have:=aiX n a b ha a 0 n rfl (by omega) (by omega) hn
 simp only[rR] at this;show (Cc (Kq n) n a b a (a.length:Int) 0).bind (λx=>some x)=_
 rw[show (0:Int)=((0:Nat):Int) from rfl,this];rfl
def eA (T:aj):aK:=T.ae.map (·.ay)
def Bq {xs:List J} {i:Int} {x:J} (h:idx xs i=some x):0<=i/\i.toNat<xs.length/\xs[i.toNat]? =some x:=by
 unfold idx at h;split at h
 ·exact ⟨by assumption,(bY.1 h).1,h⟩
 ·cases h
def ash (n0:Nat) (cs:cN) (hl:cs.length<=1000):∀(x:cN) (i m:Nat) (out:aK),cs.drop i=x->x.length<m->out=(cs.take i).map (·.ay)->Mm (Yj n0) m cs (cs.length:Int) (i:Int) out=some (cs.map (·.ay))
 | [],i,m+1,out,hd,hm,ho=>by
  have hl:cs.length<=i:=by simpa using hd
  have hq:¬((i:Int)<(cs.length:Int)):=by omega
  simp only[Mm,Yk,Yj,hq,aX,aC,aA];rw[ho,kq hl]
 |x::xs,i,m+1,out,hd,hm,ho=>by
  let ⟨g1,g2,g3,hq⟩:=gdr hd
  simp only[Mm,Yk,hq,aU,aB,bM,g1,au];rw[dL _ _ (by rw[ho];simp;omega),au,cf g3 (by omega)]
  refine ash n0 cs hl xs (i+1) m _ g2 (by simp at hm;omega) ?_
  rw[ho,DW,g1];simp
 |_,_,0,_,_,hm,_=>by simp at hm
def asi (n0:Nat) (cs:cN) (hl:cs.length<=1000):∀(x:cN) (i m:Nat) (out:aK),cs.drop i=x->x.length<m->out=(cs.take i).map (·.ay)->Mn (Ym n0) m cs (cs.length:Int) (i:Int) out=some (cs.map (·.ay))
 | [],i,m+1,out,hd,hm,ho=>by
  have hl:cs.length<=i:=by simpa using hd
  have hq:¬((i:Int)<(cs.length:Int)):=by omega
  simp only[Mn,Yn,Ym,hq,aX,aC,aA];rw[ho,kq hl]
 |x::xs,i,m+1,out,hd,hm,ho=>by
  let ⟨g1,g2,g3,hq⟩:=gdr hd
  simp only[Mn,Yn,hq,aU,aB,bM,g1,au];rw[dL _ _ (by rw[ho];simp;omega),au,cf g3 (by omega)]
  refine asi n0 cs hl xs (i+1) m _ g2 (by simp at hm;omega) ?_
  rw[ho,DW,g1];simp
 |_,_,0,_,_,hm,_=>by simp at hm
section
variable {s:ag} {t:Int} {T:aj} {n:Nat}
def aCn {xs:List J} {i:Int} (h0:0<=i) (h:¬i<(xs.length:Int)):idx xs i=none:=by
 unfold idx;rw[aH h0,tQ (by omega)]
def ajx (hT:idx s.ai t=some T):Oo n s t=some true:=by
 let ⟨h0,h1,_⟩:=Bq hT;have e1:¬t<0:=by omega
 have e2:t<(s.ai.length:Int):=by omega
 simp[Oo,afA,e1,e2]
def adA (hT:idx s.ai t=some T) (hl:T.ae.length<=1000) (hn:1000<n):F50 n s t=some (eA T):=by
 let ⟨h0,h1,_⟩:=Bq hT;have e1:¬t<0:=by omega
 have e2:t<(s.ai.length:Int):=by omega
 simp only[F50,anG,e1,e2,aX,aU,du,aC,aA,hT,au];exact ash n T.ae hl T.ae 0 n [] rfl (by omega) rfl
def aJp (hT:idx s.ai t=some T) (hl:T.ae.length<=1000) (hn:1000<n):F45 n s t=some (eA T):=by
 simp only[F45,anI,ajx hT,au,du,aC,aA,hT];have:rA (T.ae.length:Int) (0:Int)=some (List.replicate T.ae.length 0):=by simp[rA];omega
 rw[this,au];exact asi n T.ae hl T.ae 0 n [] rfl (by omega) rfl
structure lI (T:aj):Prop where
 zq:1<=T.aw
 jl:T.aw<=(T.ae.length:Int)
 cols:T.ae.length<=8
 ks:kP (eA T)=true
def oh (T:aj):(eA T).length=T.ae.length:=by simp[eA]
def Ql {xs:List J} (h0:0<=k) (h:k.toNat<=xs.length):cut xs none (some k)=some (xs.take k.toNat):=by
 obtain ⟨m,rfl⟩:∃m:Nat,k=m:=⟨k.toNat,by omega⟩
 simp at h;simp[cut,h]
def atZ (hk:xd k=true) (h:v.ay=k):gB v=mE v:=by
 have:=yP hk;have:3<=v.ay:=by omega
 simp[gB,this]
def arb (h:kP l=true) (i:Nat):kP (l.drop i)=true:=by
 unfold kP at h ⊢;rw[iJ] at h ⊢;exact λx hx=>h x (oE hx)
end
end
def zO (b:UInt8):Bool:=decide (97<=b.toNat)&&decide (b.toNat<=122)
def CA (b:UInt8):Bool:=zO b||((decide (48<=b.toNat)&&decide (b.toNat<=57))||decide (b.toNat=95))
def PD:List UInt8->Bool
 | []=>false
 |b::l=>zO b&&l.all CA
def yp (s:ByteArray):Bool:=decide (s.size<=32)&&PD s.data.toList
def uT (s:ByteArray):s.data.toList.length=s.size:=by simp
def aFz {s:ByteArray} {b:UInt8} (h:s.data.toList[p]? =some b):∃hp:p<s.size,s[p]'hp=b:=by
 have h1:=(bY.1 h);let ⟨q1,q2⟩:=h1;have hp:p<s.size:=by simpa using q1
 have q3:s.data[p]=b:=by simpa using q2
 exact ⟨hp,q3⟩
def aeg (k:ByteArray->Nat->Option Bool) (m:Nat) (s:ByteArray) (p:Nat) (q:Nat) (c:Int) (l:Bool):QJ k m (p:Int) c l s q=if l=true then k s q else if p=0 then some false else if c=95\/(48<=c/\c<=57) then k s q else some false:=by
 unfold QJ;cases l with
 |true=>simp
 |false=>
  by_cases hp:p=0
  ·simp[hp]
  ·have yV:¬(p:Int)=0:=by omega
   by_cases h1:c=95
   ·simp[hp,h1]
   ·by_cases h2:c<48
    ·have:¬48<=c:=by omega
     simp[hp,h1,h2,this]
    ·by_cases h3:57<c
     ·have:¬c<=57:=by omega
      simp[hp,h1,h2,h3,this]
     ·have ER:48<=c:=by omega
      have Ju:c<=57:=by omega
      simp[hp,h1,h2,h3,ER,Ju]
def acY (n0:Nat) (m:Nat) (s:ByteArray) (p:Nat) (b:UInt8) (hb:s.data.toList[p]? =some b):Av (Hx n0) (m+1) s p=if zO b=true then Av (Hx n0) m s (p+1) else if p=0 then some false else if CA b=true then Av (Hx n0) m s (p+1) else some false:=by
 let ⟨hp,he⟩:=aFz hb;simp only[Av,XX,hp,aU,aB];rw[aeg,aeg];by_cases ha:b.toNat<128
 ·have hd:=decode_ascii s p hp (by rw[he];exact ha)
  rw[he] at hd;rw[hd];simp only[zO,CA];by_cases h1:97<=b.toNat
  ·have ta:¬((b.toNat:Int)<97):=by omega
   by_cases h2:b.toNat<=122
   ·have ER:¬(122<(b.toNat:Int)):=by omega
    simp[h1,ta,h2,ER]
   ·have ER:(122<(b.toNat:Int)):=by omega
    have e1:¬(b.toNat:Int)=95:=by omega
    have e2:¬(b.toNat:Int)<=57:=by omega
    have e3:¬b.toNat<=57:=by omega
    have e4:¬b.toNat=95:=by omega
    simp[h1,ta,h2,ER,e1,e2,e3,e4]
  ·have ta:((b.toNat:Int)<97):=by omega
   by_cases e1:b.toNat=95
   ·simp[h1,ta,e1]
   ·have e1':¬(b.toNat:Int)=95:=by omega
    by_cases e2:48<=b.toNat
    ·have JH:48<=(b.toNat:Int):=by omega
     by_cases e3:b.toNat<=57
     ·have e3':(b.toNat:Int)<=57:=by omega
      simp[h1,ta,e1,e1',e2,JH,e3,e3']
     ·have e3':¬(b.toNat:Int)<=57:=by omega
      simp[h1,ta,e1,e1',e2,JH,e3,e3']
    ·have JH:¬48<=(b.toNat:Int):=by omega
     simp[h1,ta,e1,e1',e2,JH]
 ·have hd:=(decode_high s p hp (by rw[he];omega)).1
  generalize (Utf8.decode s p)=d at hd;let ⟨c,q⟩:=d;simp only at hd;have a1:¬((c:Int)<97):=by omega
  have a2:122<(c:Int):=by omega
  have a3:¬((c:Int)=95\/(48<=(c:Int)/\(c:Int)<=57)):=by omega
  have b1:zO b=false:=by simp[zO];omega
  have b2:CA b=false:=by simp[CA,b1];omega
  simp[a1,a2,a3,b1,b2]
def asf (n0:Nat) (s:ByteArray):∀(x:List UInt8) (p m:Nat),s.data.toList.drop p=x->0<p->x.length<m->Av (Hx n0) m s p=some (x.all CA)
 | [],p,m+1,hd,hp,hm=>by
  have:s.data.toList.length<=p:=by simpa using hd
  have hq:¬p<s.size:=by rw[uT] at this;omega
  simp only[Av,XX,Hx,hq,aX,aC,aA];rfl
 |b::x,p,m+1,hd,hp,hm=>by
  let ⟨g1,g2,g3⟩:=bE hd;have ih:=asf n0 s x (p+1) m g2 (by omega) (by simp at hm;omega)
  rw[acY n0 m s p b g1,aL (by omega:¬p=0),ih]
  simp only[tO];have:zO b=true->CA b=true:=λh=>by simp[CA,h]
  cases hl:zO b with
  |true=>simp[this hl]
  |false=>cases hc:CA b<;>simp
 |_,_,0,_,_,hm=>by simp at hm
def ast (n:Nat) (s:ByteArray) (hn:100<n):F99 n s=some (yp s):=by
 unfold F99 anj yp;by_cases h0:s.size=0
 ·have:s.data.toList= []:=by
   have:=uT s;exact sn (by omega)
  simp[h0,this,PD]
 ·have e1:¬(s.size:Int)<1:=by omega
  by_cases h1:s.size<=32
  ·have e2:¬32<(s.size:Int):=by omega
   simp only[e1,e2,aX,aC,aA,h1,aU,gR];obtain ⟨m,rfl⟩:∃m,n=m+1:=⟨n-1,by omega⟩
   cases hx:s.data.toList with
   |nil=>have:=uT s;rw[hx] at this;simp at this;omega
   |cons b l=>
    have hl:l.length<32:=by have:=uT s;rw[hx] at this;simp at this;omega
    rw[acY (m+1) m s 0 b (by rw[hx];rfl)]
    simp only[aB,PD];cases hb:zO b with
    |false=>simp
    |true=>
     simp only[aB,gR];exact asf (m+1) s l 1 m (by rw[hx];rfl) (by omega) (by omega)
  ·have e2:32<(s.size:Int):=by omega
   simp only[e1,e2,aX,aU,aC,aA,aB,h1,gf]
def asn (n0:Nat) (m:Nat) (s:ByteArray) (p:Nat) (hs:s.size<4294967296) (b:UInt8) (hb:s.data.toList[p]? =some b):zb (FT n0) (m+1) s (p:Int)=if CA b=true then zb (FT n0) m s ((p+1:Nat):Int) else some false:=by
 have hp:p<s.size:=by have:=(bY.1 hb).1;rwa[uT] at this
 have hq:(p:Int)<(s.size:Int):=by omega
 have hi:Dx s (p:Int)=some b:=by simp[Dx];simpa using hb
 simp only[zb,Rr,w4,hq,aU,aB,hi,au,cf hp hs];simp only[CA,zO];by_cases h1:97<=b.toNat
 ·have ta:¬((b.toNat:Int)<97):=by omega
  by_cases h2:b.toNat<=122
  ·have ER:¬(122<(b.toNat:Int)):=by omega
   simp[h1,ta,h2,ER]
  ·have ER:(122<(b.toNat:Int)):=by omega
   have e1:¬(b.toNat:Int)=95:=by omega
   have e2:¬(b.toNat:Int)<48:=by omega
   have e5:57<(b.toNat:Int):=by omega
   have e3:¬b.toNat<=57:=by omega
   have e4:¬b.toNat=95:=by omega
   simp[h1,ta,h2,ER,e1,e2,e3,e4,e5]
 ·have ta:((b.toNat:Int)<97):=by omega
  by_cases e2:48<=b.toNat
  ·have JH:¬(b.toNat:Int)<48:=by omega
   by_cases e3:b.toNat<=57
   ·have e3':¬57<(b.toNat:Int):=by omega
    simp[h1,ta,e2,JH,e3,e3']
   ·have e3':57<(b.toNat:Int):=by omega
    by_cases e1:b.toNat=95
    ·simp[e1]
    ·have e1':¬(b.toNat:Int)=95:=by omega
     simp[h1,ta,e2,JH,e3,e3',e1,e1']
  ·have JH:(b.toNat:Int)<48:=by omega
   have e1:¬b.toNat=95:=by omega
   have e1':¬(b.toNat:Int)=95:=by omega
   simp[h1,ta,e2,JH,e1,e1']
def aiV (n0:Nat) (s:ByteArray) (hs:s.size<4294967296):∀(x:List UInt8) (p m:Nat),s.data.toList.drop p=x->x.length<m->zb (FT n0) m s (p:Int)=some (x.all CA)
 | [],p,m+1,hd,hm=>by
  have:s.data.toList.length<=p:=by simpa using hd
  have hq:¬(p:Int)<(s.size:Int):=by rw[uT] at this;omega
  simp only[zb,Rr,FT,hq,aX,aC,aA];rfl
 |b::x,p,m+1,hd,hm=>by
  let ⟨g1,g2,g3⟩:=bE hd;have ih:=aiV n0 s hs x (p+1) m g2 (by simp at hm;omega)
  rw[asn n0 m s p hs b g1,ih];simp only[tO];cases hc:CA b<;>simp
 |_,_,0,_,hm=>by simp at hm
def aji (n:Nat) (s:ByteArray) (hn:100<n):adJ n s=some (yp s):=by
 unfold adJ aeG yp;by_cases h0:s.size=0
 ·have:s.data.toList= []:=by
   have:=uT s;exact sn (by omega)
  simp[h0,this,PD]
 ·have e1:((s.size:Int)==0)=false:=by rw[beq_eq_false_iff_ne];omega
  by_cases h1:s.size<=32
  ·have e2:¬32<(s.size:Int):=by omega
   simp only[e1,e2,aX,aC,aA,h1,aU,gR];cases hx:s.data.toList with
   |nil=>have:=uT s;rw[hx] at this;simp at this;omega
   |cons b l=>
    have hi:Dx s 0=some b:=by simp only[Dx,hx];rfl
    have hl:l.length<32:=by have:=uT s;rw[hx] at this;simp at this;omega
    simp only[hi,au,PD];have:=aiV n s (by omega) s.data.toList 0 n rfl (by rw[uT];omega)
    rw[show ((0:Nat):Int)=0 from rfl,hx,tO] at this;rw[this];by_cases h3:97<=b.toNat
    ·have Ju:¬((b.toNat:Int)<97):=by omega
     by_cases h4:b.toNat<=122
     ·have h4':¬(122<(b.toNat:Int)):=by omega
      have hb:zO b=true:=by simp[zO,h3,h4]
      simp[Ju,h4',hb,CA]
     ·have h4':(122<(b.toNat:Int)):=by omega
      have hb:zO b=false:=by simp[zO];omega
      simp[Ju,h4',hb]
    ·have Ju:((b.toNat:Int)<97):=by omega
     have hb:zO b=false:=by simp[zO];omega
     simp[Ju,hb]
  ·have e2:32<(s.size:Int):=by omega
   simp only[e1,e2,aX,aU,aC,aA,aB,h1,gf]
def PI {O:Type} (d:O) (k:ByteArray) (v:O) (x:ByteArray):∀m:List (ByteArray×O),mG (nk m k v) x d=if x=k then v else mG m x d
 | []=>by simp[nk,mG]
 |p::m=>by
  simp only[nk];by_cases h:k=p.1
  ·simp only[h,aB,mG];by_cases h2:x=p.1
   ·simp[h2]
   ·simp[h2]
  ·simp only[h,aA,mG];by_cases h2:x=p.1
   ·have:¬x=k:=λe=>h (e.symm.trans h2)
    simp[h2];intro e;exact absurd e.symm h
   ·simp only[h2,aA];exact PI d k v x m
def oJ (x:ByteArray):List ByteArray->Bool
 | []=>false
 |y::l=>decide (x=y)||oJ x l
def abe (x:ByteArray):∀(a b:List ByteArray),oJ x (a++b)=(oJ x a||oJ x b)
 | [],b=>by simp[oJ]
 |y::a,b=>by simp[oJ,abe x a b,Bool.or_assoc]
def wI:List ByteArray->cN->Bool
 |_,[]=>true
 |seen,c::cs=>yp c.av&&(!oJ c.av seen&&(xd c.ay&&wI (seen++ [c.av]) cs))
def Np (seen:List ByteArray) (T:aj):Bool:=yp T.av&&(!oJ T.av seen&&(decide (1<=T.aw)&&(decide (T.aw<=(T.ae.length:Int))&&wI [] T.ae)))
def qy:List ByteArray->bn->Bool
 |_,[]=>true
 |seen,T::Ts=>Np seen T&&qy (seen++ [T.av]) Ts
def Pa (m:List (ByteArray×Bool)) (seen:List ByteArray):Prop:=∀x,mG m x false=oJ x seen
def Pa.put {m:List (ByteArray×Bool)} (h:Pa m seen) (k:ByteArray):Pa (nk m k true) (seen++ [k]):=λx=>by
 rw[PI,h x,abe];by_cases hx:x=k
 ·simp[hx,oJ]
 ·simp[hx,oJ]
def adn (k:bn->Int->Int->ByteArray->Int->Int->cN->Int->List (ByteArray×Bool)->aj->Option Bool) (cs:cN) (hl:cs.length<=8) (a1:bn) (a2 a3:Int) (a4:ByteArray) (a5 a6:Int) (a7:cN) (a8:Int) (a9:List (ByteArray×Bool)) (T:aj):∀(x:cN) (i m:Nat) (mp:List (ByteArray×Bool)) (seen:List ByteArray),cs.drop i=x->x.length+200<m->Pa mp seen->
  Mp k m a1 a2 a3 a4 a5 a6 a7 a8 cs (cs.length:Int) (i:Int) a9 mp T=if wI seen x=true then k a1 a2 a3 a4 a5 a6 a7 a8 a9 T else some false
 | [],i,m+1,mp,seen,hd,hm,hs=>by
  have:cs.length<=i:=by simpa using hd
  have hq:¬((i:Int)<(cs.length:Int)):=by omega
  simp only[Mp,Yv,hq,aX,aC,aA,wI,aB]
 |c::x,i,m+1,mp,seen,hd,hm,hs=>by
  let ⟨g1,g2,g3,hq⟩:=gdr hd
  simp at hm;have ih:=adn k cs hl a1 a2 a3 a4 a5 a6 a7 a8 a9 T x (i+1) m _ _ g2 (by omega) (hs.put c.av)
  simp only[Mp,Yv,hq,aU,aB,bM,g1,au,ast m c.av (by omega),hs c.av,cf g3 (by omega),ih,wI]
  rcases kf (yp c.av) with hv|hv<;>rcases kf (oJ c.av seen) with h2|h2<;>by_cases h3:c.ay=3<;>by_cases h4:c.ay=4<;>by_cases h5:c.ay=5<;>simp[hv,h2,h3,h4,h5,xd]
 |_,_,0,_,_,_,hm,_=>by simp at hm
def adm (n0:Nat) (ts:bn) (hl:ts.length<=8) (hc:∀T∈ts,T.ae.length<=8):∀(x:bn) (i m:Nat) (mp:List (ByteArray×Bool)) (seen:List ByteArray),ts.drop i=x->x.length+1000<m->Pa mp seen->
  Hn (QU n0) m ts (ts.length:Int) (i:Int) mp=some (qy seen x)
 | [],i,m+1,mp,seen,hd,hm,hs=>by
  have:ts.length<=i:=by simpa using hd
  have hq:¬((i:Int)<(ts.length:Int)):=by omega
  simp only[Hn,Yt,QU,hq,aX,aC,aA,qy]
 |T::x,i,m+1,mp,seen,hd,hm,hs=>by
  let ⟨g1,g2,g3,hq⟩:=gdr hd
  simp at hm;have hT:=hc T (cT g1);have ih:=adm n0 ts hl hc x (i+1) m _ _ g2 (by omega) (hs.put T.av)
  have Jq:=adn (Yu (Hn (QU n0) m) m) T.ae hT ts (ts.length:Int) (i:Int) T.av T.aw T.aw T.ae (T.ae.length:Int) (nk mp T.av true) T T.ae 0 m [] [] rfl (by omega) (λx=>by simp[mG,oJ])
  rw[show ((0:Nat):Int)=0 from rfl] at Jq;simp only[Hn,Yt,hq,aU,aB,bM,g1,au,ast m T.av (by omega),hs T.av,Jq,Yu,cf g3 (by omega),ih,qy,Np]
  have q1:decide (T.aw<1)= !decide (1<=T.aw):=by rw[<-decide_not];exact Ky.2 (by omega)
  have q2:decide ((T.ae.length:Int)<T.aw)= !decide (T.aw<=(T.ae.length:Int)):=by rw[<-decide_not];exact Ky.2 (by omega)
  rw[q1,q2];rcases kf (yp T.av) with hv|hv<;>rcases kf (oJ T.av seen) with h2|h2<;>rcases kf (decide (1<=T.aw)) with h3|h3<;>rcases kf (decide (T.aw<=(T.ae.length:Int))) with h4|h4<;>rcases kf (wI [] T.ae) with h5|h5<;>simp only[hv,h2,h3,h4,h5,du,hZ,aC,aA,aB,gR,gf]
 |_,_,0,_,_,_,hm,_=>by simp at hm
def aJr (n:Nat) (s:ag) (hl:s.ai.length<=8) (hc:∀T∈s.ai,T.ae.length<=8) (hn:2000<n):F43 n s=some (qy [] s.ai):=
 adm n s.ai hl hc s.ai 0 n [] [] rfl (by omega) (λx=>by simp[mG,oJ])
def Xg (k:aj->Option Bool) (s:ag) (hl:s.ai.length<=8) (i:Nat) (hi:i<=s.ai.length) (T:aj):∀(x:bn) (j m:Nat),(s.ai.take i).drop j=x->x.length<m->j<=i->Fz k m (i:Int) (j:Int) s T=if oJ T.av (x.map (·.av))=true then some false else k T
 | [],j,m+1,hd,hm,hj=>by
  have:(s.ai.take i).length<=j:=by simpa using hd
  rw[dR] at this;have hq:¬((j:Int)<(i:Int)):=by omega
  simp only[Fz,Sl,hq,aX,aC,aA,uE,oJ]
 |G::x,j,m+1,hd,hm,hj=>by
  let ⟨g1,g2,g3⟩:=bE hd;rw[dR] at g3;have hq:(j:Int)<(i:Int):=by omega
  have hg:s.ai[j]? =some G:=by rw[eN,aH (by omega)] at g1;exact g1
  have ih:=Xg k s hl i hi T x (j+1) m g2 (by simp at hm;omega) (by omega)
  have hw:bl ((j:Int)+1)=((j+1:Nat):Int):=by rw[dw (by omega) (by omega)];rfl
  simp only[Fz,Sl,hq,aU,aB,bM,hg,au,hw,ih,jc,oJ];by_cases h:G.av=T.av
  ·simp[h]
  ·have h':¬T.av=G.av:=λe=>h e.symm
   simp[h,h']
 |_,_,0,_,hm,_=>by simp at hm
def Xf (k:Int->Int->cN->Int->cG->cG->Int->Bool->aj->Option Bool) (T:aj) (hl:T.ae.length<=8) (i:Nat) (c:cG) (hc:T.ae[i]? =some c) (a1 a2:Int) (a3:cN) (a4:Int) (a5 a6:cG) (a7:Int) (a8:Bool):∀(x:cN) (j m:Nat),(T.ae.take i).drop j=x->x.length<m->j<=i->
  Fy k m (i:Int) (j:Int) a1 a2 a3 a4 a5 a6 a7 a8 T=if oJ c.av (x.map (·.av))=true then some false else k a1 a2 a3 a4 a5 a6 a7 a8 T
 | [],j,m+1,hd,hm,hj=>by
  have:(T.ae.take i).length<=j:=by simpa using hd
  have hi:=(bY.1 hc).1;rw[dR] at this;have hq:¬((j:Int)<(i:Int)):=by omega
  simp only[Fy,Sk,hq,aX,aC,aA,uE,oJ]
 |G::x,j,m+1,hd,hm,hj=>by
  let ⟨g1,g2,g3⟩:=bE hd;have hi:=(bY.1 hc).1;rw[dR] at g3;have hq:(j:Int)<(i:Int):=by omega
  have hg:T.ae[j]? =some G:=by rw[eN,aH (by omega)] at g1;exact g1
  have ih:=Xf k T hl i c hc a1 a2 a3 a4 a5 a6 a7 a8 x (j+1) m g2 (by simp at hm;omega) (by omega)
  have hw:bl ((j:Int)+1)=((j+1:Nat):Int):=by rw[dw (by omega) (by omega)];rfl
  simp only[Fy,Sk,hq,aU,aB,bM,hg,hc,au,hw,ih,jc,oJ];by_cases h:G.av=c.av
  ·simp[h]
  ·have h':¬c.av=G.av:=λe=>h e.symm
   simp[h,h']
 |_,_,0,_,hm,_=>by simp at hm
def Xe (n0:Nat) (T:aj) (hl:T.ae.length<=8):∀(x:cN) (i m:Nat),T.ae.drop i=x->x.length+200<m->Cb (Km n0) m (T.ae.length:Int) (i:Int) T=some (wI ((T.ae.take i).map (·.av)) x)
 | [],i,m+1,hd,hm=>by
  have:T.ae.length<=i:=by simpa using hd
  have hq:¬((i:Int)<(T.ae.length:Int)):=by omega
  simp only[Cb,Si,Km,hq,aX,aC,aA,wI]
 |c::x,i,m+1,hd,hm=>by
  let ⟨g1,g2,g3,hq⟩:=gdr hd
  simp at hm;have ih:=Xe n0 T hl x (i+1) m g2 (by omega)
  have iw:=λb=>Xf (Sj (Cb (Km n0) m) m) T hl i c g1 (T.ae.length:Int) (i:Int) T.ae (i:Int) c c c.ay b (T.ae.take i) 0 m rfl (by simp;omega) (by omega)
  rw[show ((0:Nat):Int)=0 from rfl] at iw;rw[DW,g1] at ih;simp only[Kz,mB,jc,uE] at ih;simp only[Cb,Si,hq,aU,aB,bM,g1,au,aji m c.av (by omega),ajh,iw,Sj,cf g3 (by omega),ih,wI]
  rcases kf (yp c.av) with hv|hv<;>rcases kf (xd c.ay) with h3|h3<;>rcases kf (oJ c.av ((T.ae.take i).map (·.av))) with h2|h2<;>simp only[hv,h2,h3,du,hZ,aC,aA,aB,gR,gf]
 |_,_,0,_,hm=>by simp at hm
def aDe (n:Nat) (s:ag) (hl:s.ai.length<=8) (i:Nat) (T:aj) (hT:s.ai[i]? =some T) (hc:T.ae.length<=8) (hn:1000<n):amY n s (i:Int)=some (Np ((s.ai.take i).map (·.av)) T):=by
 have hi:=(bY.1 hT).1;unfold amY afl Np;simp only[bM,hT,au,aji n T.av (by omega)]
 rcases kf (yp T.av) with ald|ald
 rotate_left
 ·simp[ald]
 ·simp only[ald,du,aC,aA,gR];have h0:=Xg (Sg n) s hl i (by omega) T (s.ai.take i) 0 n rfl (by simp;omega) (by omega)
  rw[show ((0:Nat):Int)=0 from rfl] at h0;have h1:=Xe n T hc T.ae 0 n rfl (by omega)
  rw[show ((0:Nat):Int)=0 from rfl,DY,uE] at h1;simp only[h0,Sg,h1];by_cases e0:T.ae.length=0
  ·have e1:((T.ae.length:Int)==0)=true:=by simp[e0]
   by_cases h3:1<=T.aw
   ·have:¬T.aw<=(T.ae.length:Int):=by omega
    simp only[e1,aB,this,aX,gf,AB]
   ·simp only[e1,aB,h3,aX,gf,AB]
  ·have e1:((T.ae.length:Int)==0)=false:=by rw[beq_eq_false_iff_ne];omega
   simp only[e1,aC,aA];by_cases h3:T.aw<1
   ·have:¬1<=T.aw:=by omega
    simp[h3,this]
   ·have Ju:1<=T.aw:=by omega
    by_cases h4:(T.ae.length:Int)<T.aw
    ·have:¬T.aw<=(T.ae.length:Int):=by omega
     simp[h3,Ju,h4,this]
    ·have h4':T.aw<=(T.ae.length:Int):=by omega
     rcases kf (oJ T.av ((s.ai.take i).map (·.av))) with h2|h2<;>simp only[h2,h3,Ju,h4,h4',aU,aX,du,hZ,aC,aA,aB,gR,gf]
def acA:∀{cs:cN} {seen:List ByteArray},wI seen cs=true->kP (cs.map (·.ay))=true
 | [],_,_=>rfl
 |c::cs,seen,h=>by
  simp only[wI,bF] at h;simp only[jc,kP,tO,bF];exact ⟨h.2.2.1,acA h.2.2.2⟩
def azx {T:aj} (hc:T.ae.length<=8) (h:Np seen T=true):lI T:=by
 simp only[Np,bF,jX] at h;exact ⟨h.2.2.1,h.2.2.2.1,hc,acA h.2.2.2.2⟩
def No:∀{ts:bn} {seen:List ByteArray},(∀T∈ts,T.ae.length<=8)->qy seen ts=true->∀T∈ts,lI T
 | [],_,_,_,T,hT=>by simp at hT
 |G::ts,seen,hc,h,T,hT=>by
  simp only[qy,bF] at h;rcases cH.1 hT with rfl|hT
  ·exact azx (hc _ (by simp)) h.1
  ·exact No (λT hT=>hc T (by simp[hT])) h.2 T hT
def pA (tc:cN):cN->aK->Bool
 |_,[]=>true
 | [],_::_=>false
 |g::gs,c::cs=>match idx tc c with|none=>false|some x=>x.ay==g.ay&&pA tc gs cs
def aaF (s:ag) (T:aj) (r:bk):Bool:=match idx s.ai r.aG with|none=>false|some G=>((r.ae.length:Int)==G.aw)&&pA T.ae G.ae r.ae
def sR (s:ag) (T:aj):cB->Bool
 | []=>true
 |r::rs=>aaF s T r&&sR s T rs
def allRefs (s:ag):bn->Bool
 | []=>true
 |T::ts=>sR s T T.af&&allRefs s ts
def CG (xs:List J) (i:Int):(i<0/\idx xs i=none)\/(¬i<0/\¬i<(xs.length:Int)/\idx xs i=none)\/(¬i<0/\i<(xs.length:Int)/\∃x,idx xs i=some x):=by
 by_cases h:i<0
 ·exact .inl ⟨h,by unfold idx;rw[aL (by omega)]⟩
 ·by_cases h2:i<(xs.length:Int)
  ·refine .inr (.inr ⟨h,h2,xs[i.toNat]'(by omega),?_⟩)
   unfold idx;rw[aH (by omega),dI (by omega)]
  ·exact .inr (.inl ⟨h,h2,aCn (by omega) h2⟩)
def adl (k:bn->Int->Int->cB->Int->Int->Int->bn->Int->ag->aj->bk->Option Bool) (T G:aj) (cs:aK) (hc:cs.length<=G.ae.length) (hg:G.ae.length<=8) (a1:bn) (a2 a3:Int) (a4:cB) (a5 a6 a7:Int) (a8:bn) (a9:Int) (s:ag) (r:bk):∀(x:aK) (i m:Nat),cs.drop i=x->x.length<m->
  Mo k m a1 a2 a3 a4 a5 a6 a7 a8 a9 cs (cs.length:Int) (i:Int) s T G r=if pA T.ae (G.ae.drop i) x=true then k a1 a2 a3 a4 a5 a6 a7 a8 a9 s T r else some false
 | [],i,m+1,hd,hm=>by
  have:cs.length<=i:=by simpa using hd
  have hq:¬((i:Int)<(cs.length:Int)):=by omega
  simp only[Mo,Ys,hq,aX,aC,aA,pA,aB]
 |c::x,i,m+1,hd,hm=>by
  let ⟨g1,g2,g3,hq⟩:=gdr hd
  have cY:i<G.ae.length:=by omega
  have hgi:G.ae[i]? =some G.ae[i]:=dI cY;have hdr:G.ae.drop i=G.ae[i]::G.ae.drop (i+1):=qJ cY;generalize G.ae[i]=g at hgi hdr;have ih:=adl k T G cs hc hg a1 a2 a3 a4 a5 a6 a7 a8 a9 s r x (i+1) m g2 (by simp at hm;omega)
  simp only[Mo,Ys,hq,aU,aB,bM,g1,hgi,au,cf g3 (by omega),ih]
  rw[hdr];simp only[pA];rcases CG T.ae c with ⟨h1,h2⟩|⟨h1,h3,h2⟩|⟨h1,h3,y,h2⟩
  ·simp only[h1,h2,aU,aB,aC,aA]
  ·simp only[h1,h2,h3,aX,hZ,aB,aC,aA]
  ·simp only[h1,h2,h3,aX,aU,du,aC,aA,au];by_cases h4:y.ay=g.ay
   ·simp[h4]
   ·simp[h4]
 |_,_,0,_,hm=>by simp at hm
def adk (k:bn->Int->Int->ag->Option Bool) (s:ag) (hs:∀t G,idx s.ai t=some G->lI G) (T:aj) (rs:cB) (hl:rs.length<=8) (a1:bn) (a2 a3:Int):∀(x:cB) (i m:Nat),rs.drop i=x->x.length+100<m->
  Hm k m a1 a2 a3 rs (rs.length:Int) (i:Int) s T=if sR s T x=true then k a1 a2 a3 s else some false
 | [],i,m+1,hd,hm=>by
  have:rs.length<=i:=by simpa using hd
  have hq:¬((i:Int)<(rs.length:Int)):=by omega
  simp only[Hm,Yq,hq,aX,aC,aA,sR,aB]
 |r::x,i,m+1,hd,hm=>by
  let ⟨g1,g2,g3,hq⟩:=gdr hd
  simp at hm;have ih:=adk k s hs T rs hl a1 a2 a3 x (i+1) m g2 (by omega)
  simp only[Hm,Yq,hq,aU,aB,bM,g1,au,sR,aaF];rcases CG s.ai r.aG with ⟨h1,h2⟩|⟨h1,h3,h2⟩|⟨h1,h3,G,h2⟩
  ·simp only[h1,h2,aU,aB,gf,aC,aA]
  ·simp only[h1,h2,h3,aX,hZ,aB,gf,aC,aA]
  ·have hG:=hs _ _ h2;have k2:=hG.jl;have k3:=hG.cols;simp only[h1,h2,h3,aX,aU,du,aC,aA,au];by_cases h4:(r.ae.length:Int)=G.aw
   ·have e:((r.ae.length:Int) !=G.aw)=false:=by simp[h4]
    have e':((r.ae.length:Int)==G.aw)=true:=by simp[h4]
    have iw:=adl (Yr (Hm k m) m) T G r.ae (by omega) k3 a1 a2 a3 rs (rs.length:Int) (i:Int) r.aG s.ai (s.ai.length:Int) s r r.ae 0 m rfl (by omega)
    rw[show ((0:Nat):Int)=0 from rfl,rR] at iw;simp only[e,e',aC,aA,iw,Yr,cf g3 (by omega),ih,gR]
    rcases kf (pA T.ae G.ae r.ae) with hv|hv<;>simp only[hv,aB,gR,gf,aC,aA]
   ·have e:((r.ae.length:Int) !=G.aw)=true:=by simpa using h4
    have e':((r.ae.length:Int)==G.aw)=false:=by simpa using h4
    simp only[e,e',aB,gf,aC,aA]
 |_,_,0,_,hm=>by simp at hm
def adj (n0:Nat) (s:ag) (hs:∀t G,idx s.ai t=some G->lI G) (ts:bn) (hl:ts.length<=8) (hr:∀T∈ts,T.af.length<=4):∀(x:bn) (i m:Nat),ts.drop i=x->x.length+200<m->
  Hl (QT n0) m ts (ts.length:Int) (i:Int) s=some (allRefs s x)
 | [],i,m+1,hd,hm=>by
  have:ts.length<=i:=by simpa using hd
  have hq:¬((i:Int)<(ts.length:Int)):=by omega
  simp only[Hl,Yo,QT,hq,aX,aC,aA,allRefs]
 |T::x,i,m+1,hd,hm=>by
  let ⟨g1,g2,g3,hq⟩:=gdr hd
  simp at hm;have hT:=hr T (cT g1);have ih:=adj n0 s hs ts hl hr x (i+1) m g2 (by omega)
  have iw:=adk (Yp (Hl (QT n0) m) m) s hs T T.af (by omega) ts (ts.length:Int) (i:Int) T.af 0 m rfl (by omega)
  rw[show ((0:Nat):Int)=0 from rfl] at iw;simp only[Hl,Yo,hq,aU,aB,bM,g1,au,iw,Yp,cf g3 (by omega),ih,allRefs]
  rcases kf (sR s T T.af) with hv|hv<;>simp only[hv,aB,gR,gf,aC,aA]
 |_,_,0,_,hm=>by simp at hm
def aJq (n:Nat) (s:ag) (hs:∀t G,idx s.ai t=some G->lI G) (hl:s.ai.length<=8) (hr:∀T∈s.ai,T.af.length<=4) (hn:1000<n):F44 n s=some (allRefs s s.ai):=
 adj n s hs s.ai hl hr s.ai 0 n rfl (by omega)
def Xd (k:cB->Int->Int->Int->bn->Int->aK->Int->bn->Int->aj->aj->Int->ag->aj->bk->Option Bool) (s:ag) (T G:aj) (r:bk) (hG:idx s.ai r.aG=some G) (cs:aK) (hc:cs.length<=G.ae.length) (hg:G.ae.length<=8) (a1:cB) (a2 a3 a4:Int) (a5:bn) (a6:Int) (a7:aK) (a8:Int) (a9:bn) (a10:Int) (a11 a12:aj) (a13:Int):∀(x:aK) (i m:Nat),cs.drop i=x->x.length<m->
  Fw k m a1 a2 a3 a4 a5 a6 a7 a8 a9 a10 a11 a12 a13 cs (cs.length:Int) (i:Int) s T r=if pA T.ae (G.ae.drop i) x=true then k a1 a2 a3 a4 a5 a6 a7 a8 a9 a10 a11 a12 a13 s T r else some false
 | [],i,m+1,hd,hm=>by
  have:cs.length<=i:=by simpa using hd
  have hq:¬((i:Int)<(cs.length:Int)):=by omega
  simp only[Fw,Sf,hq,aX,aC,aA,pA,aB]
 |c::x,i,m+1,hd,hm=>by
  let ⟨g1,g2,g3,hq⟩:=gdr hd
  have cY:i<G.ae.length:=by omega
  have hgi:G.ae[i]? =some G.ae[i]:=dI cY;have hdr:G.ae.drop i=G.ae[i]::G.ae.drop (i+1):=qJ cY;generalize G.ae[i]=g at hgi hdr;have ih:=Xd k s T G r hG cs hc hg a1 a2 a3 a4 a5 a6 a7 a8 a9 a10 a11 a12 a13 x (i+1) m g2 (by simp at hm;omega)
  simp only[Fw,Sf,hq,aU,aB,bM,g1,hG,hgi,au,cf g3 (by omega),ih]
  rw[hdr];simp only[pA];rcases CG T.ae c with ⟨h1,h2⟩|⟨h1,h3,h2⟩|⟨h1,h3,y,h2⟩
  ·simp only[h1,h2,aU,aB,aC,aA]
  ·simp only[h1,h2,h3,aX,hZ,aB,aC,aA]
  ·simp only[h1,h2,h3,aX,aU,du,aC,aA,au];by_cases h4:y.ay=g.ay
   ·simp[h4]
   ·simp[h4]
 |_,_,0,_,hm=>by simp at hm
def Xc (n0:Nat) (s:ag) (hs:∀t G,idx s.ai t=some G->lI G) (T:aj) (rs:cB) (hl:rs.length<=8):∀(x:cB) (i m:Nat),rs.drop i=x->x.length+100<m->
  Ca (Kl n0) m rs (rs.length:Int) (i:Int) s T=some (sR s T x)
 | [],i,m+1,hd,hm=>by
  have:rs.length<=i:=by simpa using hd
  have hq:¬((i:Int)<(rs.length:Int)):=by omega
  simp only[Ca,Sd,Kl,hq,aX,aC,aA,sR]
 |r::x,i,m+1,hd,hm=>by
  let ⟨g1,g2,g3,hq⟩:=gdr hd
  simp at hm;have ih:=Xc n0 s hs T rs hl x (i+1) m g2 (by omega)
  simp only[Ca,Sd,hq,aU,aB,bM,g1,au,sR,aaF];rcases CG s.ai r.aG with ⟨h1,h2⟩|⟨h1,h3,h2⟩|⟨h1,h3,G,h2⟩
  ·simp only[h1,h2,aU,aB,gf]
  ·simp only[h1,h2,h3,aX,hZ,aB,gf,aC,aA]
  ·have hG:=hs _ _ h2;have k2:=hG.jl;have k3:=hG.cols;simp only[h1,h2,h3,aX,aU,du,aC,aA,au];by_cases h4:(r.ae.length:Int)=G.aw
   ·have e:((r.ae.length:Int) !=G.aw)=false:=by simp[h4]
    have e':((r.ae.length:Int)==G.aw)=true:=by simp[h4]
    have iw:=Xd (Se (Ca (Kl n0) m) m) s T G r h2 r.ae (by omega) k3 rs (rs.length:Int) (i:Int) r.aG s.ai (s.ai.length:Int) r.ae (r.ae.length:Int) s.ai r.aG G G G.aw r.ae 0 m rfl (by omega)
    rw[show ((0:Nat):Int)=0 from rfl,rR] at iw;simp only[e,e',aC,aA,iw,Se,cf g3 (by omega),ih,gR]
    rcases kf (pA T.ae G.ae r.ae) with hv|hv<;>simp only[hv,aB,gR,gf,aC,aA]
   ·have e:((r.ae.length:Int) !=G.aw)=true:=by simpa using h4
    have e':((r.ae.length:Int)==G.aw)=false:=by simpa using h4
    simp only[e,e',aB,gf]
 |_,_,0,_,hm=>by simp at hm
def aDd (n:Nat) (s:ag) (hs:∀t G,idx s.ai t=some G->lI G) (i:Nat) (T:aj) (hT:s.ai[i]? =some T) (hr:T.af.length<=4) (hn:1000<n):amX n s (i:Int)=some (sR s T T.af):=by
 unfold amX afk;simp only[bM,hT,au];exact Xc n s hs T T.af (by omega) T.af 0 n rfl (by omega)
def rN (ks:aK):bO->Int
 | []=>0
 |p::ps=>if sI ks [] p=0 then rN ks ps else sI ks [] p
def zJ:bn->Int
 | []=>0
 |T::ts=>if rN (eA T) T.ak=0 then zJ ts else rN (eA T) T.ak
def adt (k:bn->Int->Int->ag->Option Int) (ks:aK) (hk:ks.length<=8) (s:ag) (ps:bO) (hl:ps.length<=4) (hp:∀p∈ps,fG p<=1500000) (a1:bn) (a2 a3:Int):∀(x:bO) (i m:Nat),ps.drop i=x->x.length+1500000<m->m<4294967296->
  Mw k m ks a1 a2 a3 ps (ps.length:Int) (i:Int) s=if rN ks x=0 then k a1 a2 a3 s else some (rN ks x)
 | [],i,m+1,hd,hm,sU=>by
  have:ps.length<=i:=by simpa using hd
  have hq:¬((i:Int)<(ps.length:Int)):=by omega
  simp only[Mw,YL,hq,aX,aC,aA,rN,aB]
 |p::x,i,m+1,hd,hm,sU=>by
  let ⟨g1,g2,g3,hq⟩:=gdr hd
  simp at hm;have ih:=adt k ks hk s ps hl hp a1 a2 a3 x (i+1) m g2 (by omega) (by omega)
  have hpp:=hp p (cT g1);simp only[Mw,YL,hq,aU,aB,bM,g1,au,aJo m ks [] p (by omega) (by simp;omega) (by omega) (by omega),cf g3 (by omega),ih,rN]
  by_cases h:sI ks [] p=0
  ·simp only[h,jg,aC,aA,aB]
  ·have:(sI ks [] p !=0)=true:=by simpa using h
   simp only[h,this,aB,aA]
 |_,_,0,_,hm,_=>by simp at hm
def adf (k:Int->Int->ag->Option Int) (T:aj) (s:ag) (t:Int) (hT:idx s.ai t=some T) (hk:T.ae.length<=8) (ps:bO) (hl:ps.length<=4) (hp:∀p∈ps,fG p<=1500000) (a1 a2:Int):∀(x:bO) (i m:Nat),ps.drop i=x->x.length+1500000<m->m<4294967296->
  Mh k m t a1 a2 ps (ps.length:Int) (i:Int) s=if rN (eA T) x=0 then k a1 a2 s else some (rN (eA T) x)
 | [],i,m+1,hd,hm,sU=>by
  have:ps.length<=i:=by simpa using hd
  have hq:¬((i:Int)<(ps.length:Int)):=by omega
  simp only[Mh,X9,hq,aX,aC,aA,rN,aB]
 |p::x,i,m+1,hd,hm,sU=>by
  let ⟨g1,g2,g3,hq⟩:=gdr hd
  simp at hm;have ih:=adf k T s t hT hk ps hl hp a1 a2 x (i+1) m g2 (by omega) (by omega)
  have hpp:=hp p (cT g1);have BA:=oh T;simp only[Mh,X9,hq,aU,aB,bM,g1,au,adA hT (by omega) (by omega:1000<m),ajt m (eA T) [] p (by omega) (by simp;omega) (by omega) (by omega),cf g3 (by omega),ih,rN]
  by_cases h:sI (eA T) [] p=0
  ·simp only[h,jg,aC,aA,aB]
  ·have:(sI (eA T) [] p !=0)=true:=by simpa using h
   simp only[h,this,aB,aA]
 |_,_,0,_,hm,_=>by simp at hm
def uz (T:aj):Bool:=decide (T.ae.length<=8)&&(decide (T.af.length<=4)&&decide (T.ak.length<=4))
def qg {T:aj} (h:uz T=true):T.ae.length<=8/\T.af.length<=4/\T.ak.length<=4:=by simpa[uz] using h
def xa (T:aj):Prop:=∀p∈T.ak,fG p<=1500000
def ads (n0:Nat) (s:ag) (hl:s.ai.length<=8) (hb:∀T∈s.ai,uz T=true) (hz:∀T∈s.ai,xa T):∀(x:bn) (i m:Nat),s.ai.drop i=x->x.length+1500010<m->m<4294967296->
  Hr (RC n0) m s.ai (s.ai.length:Int) (i:Int) s=some (zJ x)
 | [],i,m+1,hd,hm,sU=>by
  have:s.ai.length<=i:=by simpa using hd
  have hq:¬((i:Int)<(s.ai.length:Int)):=by omega
  simp only[Hr,YJ,RC,hq,aX,aC,aA,zJ]
 |T::x,i,m+1,hd,hm,sU=>by
  let ⟨g1,g2,g3,hq⟩:=gdr hd
  simp at hm;have xZ:=cT g1;let ⟨b1,b2,b3⟩:=qg (hb T xZ);have hT:idx s.ai (i:Int)=some T:=by rw[bM];exact g1
  have BA:=oh T;have ih:=ads n0 s hl hb hz x (i+1) m g2 (by omega) (by omega)
  have iw:=adt (YK (Hr (RC n0) m) m) (eA T) (by omega) s T.ak b3 (hz T xZ) s.ai (s.ai.length:Int) (i:Int) T.ak 0 m rfl (by omega) (by omega)
  rw[show ((0:Nat):Int)=0 from rfl] at iw;simp only[Hr,YJ,hq,aU,aB,hT,au,aJp hT (by omega) (by omega:1000<m),iw,YK,cf g3 (by omega),ih,zJ]
  by_cases h:rN (eA T) T.ak=0
  ·simp only[h,aB]
  ·simp only[h,aA]
 |_,_,0,_,hm,_=>by simp at hm
def ade (n0:Nat) (s:ag) (hl:s.ai.length<=8) (hb:∀T∈s.ai,uz T=true) (hz:∀T∈s.ai,xa T):∀(x:bn) (i m:Nat),s.ai.drop i=x->x.length+1500010<m->m<4294967296->
  Hg (QN n0) m (s.ai.length:Int) (i:Int) s=some (zJ x)
 | [],i,m+1,hd,hm,sU=>by
  have:s.ai.length<=i:=by simpa using hd
  have hq:¬((i:Int)<(s.ai.length:Int)):=by omega
  simp only[Hg,X7,QN,hq,aX,aC,aA,zJ]
 |T::x,i,m+1,hd,hm,sU=>by
  let ⟨g1,g2,g3,hq⟩:=gdr hd
  simp at hm;have xZ:=cT g1;let ⟨b1,b2,b3⟩:=qg (hb T xZ);have hT:idx s.ai (i:Int)=some T:=by rw[bM];exact g1
  have ih:=ade n0 s hl hb hz x (i+1) m g2 (by omega) (by omega)
  have iw:=adf (X8 (Hg (QN n0) m) m) T s (i:Int) hT b1 T.ak b3 (hz T xZ) (s.ai.length:Int) (i:Int) T.ak 0 m rfl (by omega) (by omega)
  rw[show ((0:Nat):Int)=0 from rfl] at iw;simp only[Hg,X7,hq,aU,aB,hT,au,iw,X8,cf g3 (by omega),ih,zJ]
  by_cases h:rN (eA T) T.ak=0
  ·simp only[h,aB]
  ·simp only[h,aA]
 |_,_,0,_,hm,_=>by simp at hm
def adu (k:ag->Option Int) (s:ag) (ts:bn) (hl:ts.length<=8):∀(x:bn) (i m:Nat),ts.drop i=x->x.length<m->Mx k m ts (ts.length:Int) (i:Int) s=if x.all uz=true then k s else some 2
 | [],i,m+1,hd,hm=>by
  have:ts.length<=i:=by simpa using hd
  have hq:¬((i:Int)<(ts.length:Int)):=by omega
  simp only[Mx,YM,hq,aX,aC,aA,List.all_nil,aB]
 |T::x,i,m+1,hd,hm=>by
  let ⟨g1,g2,g3,hq⟩:=gdr hd
  have ih:=adu k s ts hl x (i+1) m g2 (by simp at hm;omega)
  simp only[Mx,YM,hq,aU,aB,bM,g1,au,cf g3 (by omega),ih,tO,uz]
  by_cases h1:T.ae.length<=8
  ·have e1:¬(8:Int)<(T.ae.length:Int):=by omega
   by_cases h2:T.af.length<=4
   ·have e2:¬(4:Int)<(T.af.length:Int):=by omega
    by_cases h3:T.ak.length<=4
    ·have e3:¬(4:Int)<(T.ak.length:Int):=by omega
     simp only[h1,h2,h3,e1,e2,e3,aU,aX,aC,aA,ny,gR]
    ·have e3:(4:Int)<(T.ak.length:Int):=by omega
     simp only[h1,h2,h3,e1,e2,e3,aU,aX,aC,aA,aB,AB,gf]
   ·have e2:(4:Int)<(T.af.length:Int):=by omega
    simp only[h1,h2,e1,e2,aU,aX,aC,aA,aB,AB,gf]
  ·have e1:(8:Int)<(T.ae.length:Int):=by omega
   simp only[h1,e1,aU,aX,aC,aA,aB,gf]
 |_,_,0,_,hm=>by simp at hm
def adi (k:ag->Option Int) (s:ag) (ts:bn) (hl:ts.length<=8):∀(x:bn) (i m:Nat),ts.drop i=x->x.length<m->Mk k m ts (ts.length:Int) (i:Int) s=if x.all uz=true then k s else some 2
 | [],i,m+1,hd,hm=>by
  have:ts.length<=i:=by simpa using hd
  have hq:¬((i:Int)<(ts.length:Int)):=by omega
  simp only[Mk,Yc,hq,aX,aC,aA,List.all_nil,aB]
 |T::x,i,m+1,hd,hm=>by
  let ⟨g1,g2,g3,hq⟩:=gdr hd
  have ih:=adi k s ts hl x (i+1) m g2 (by simp at hm;omega)
  simp only[Mk,Yc,hq,aU,aB,bM,g1,au,cf g3 (by omega),ih,tO,uz]
  by_cases h1:T.ae.length<=8
  ·have e1:¬(8:Int)<(T.ae.length:Int):=by omega
   by_cases h2:T.af.length<=4
   ·have e2:¬(4:Int)<(T.af.length:Int):=by omega
    by_cases h3:T.ak.length<=4
    ·have e3:¬(4:Int)<(T.ak.length:Int):=by omega
     simp only[h1,h2,h3,e1,e2,e3,aU,aX,aC,aA,ny,gR]
    ·have e3:(4:Int)<(T.ak.length:Int):=by omega
     simp only[h1,h2,h3,e1,e2,e3,aU,aX,aC,aA,aB,AB,gf]
   ·have e2:(4:Int)<(T.af.length:Int):=by omega
    simp only[h1,h2,e1,e2,aU,aX,aC,aA,aB,AB,gf]
  ·have e1:(8:Int)<(T.ae.length:Int):=by omega
   simp only[h1,e1,aU,aX,aC,aA,aB,gf]
 |_,_,0,_,hm=>by simp at hm
def adh (k:ag->Option Int) (s:ag) (hl:s.ai.length<=8) (hc:∀T∈s.ai,uz T=true):∀(x:bn) (i m:Nat),s.ai.drop i=x->x.length+2000<m->Mj k m (s.ai.length:Int) (i:Int) s=if qy ((s.ai.take i).map (·.av)) x=true then k s else some 70
 | [],i,m+1,hd,hm=>by
  have:s.ai.length<=i:=by simpa using hd
  have hq:¬((i:Int)<(s.ai.length:Int)):=by omega
  simp only[Mj,Yb,hq,aX,aC,aA,qy,aB]
 |T::x,i,m+1,hd,hm=>by
  let ⟨g1,g2,g3,hq⟩:=gdr hd
  simp at hm;have ih:=adh k s hl hc x (i+1) m g2 (by omega)
  rw[DW,g1] at ih;simp only[Kz,mB,jc,uE] at ih;simp only[Mj,Yb,hq,aU,aB,aDe m s hl i T g1 (qg (hc T (cT g1))).1 (by omega),au,cf g3 (by omega),ih,qy]
  rcases kf (Np ((s.ai.take i).map (·.av)) T) with hv|hv<;>simp only[hv,du,hZ,aC,aB,aA,gR,gf]
 |_,_,0,_,hm=>by simp at hm
def adg (k:ag->Option Int) (s:ag) (hs:∀t G,idx s.ai t=some G->lI G) (hl:s.ai.length<=8) (hc:∀T∈s.ai,uz T=true):∀(x:bn) (i m:Nat),s.ai.drop i=x->x.length+2000<m->Mi k m (s.ai.length:Int) (i:Int) s=if allRefs s x=true then k s else some 70
 | [],i,m+1,hd,hm=>by
  have:s.ai.length<=i:=by simpa using hd
  have hq:¬((i:Int)<(s.ai.length:Int)):=by omega
  simp only[Mi,Ya,hq,aX,aC,aA,allRefs,aB]
 |T::x,i,m+1,hd,hm=>by
  let ⟨g1,g2,g3,hq⟩:=gdr hd
  simp at hm;have ih:=adg k s hs hl hc x (i+1) m g2 (by omega)
  simp only[Mi,Ya,hq,aU,aB,aDd m s hs i T g1 (qg (hc T (cT g1))).2.1 (by omega),au,cf g3 (by omega),ih,allRefs]
  rcases kf (sR s T T.af) with hv|hv<;>simp only[hv,du,hZ,aC,aB,aA,gR,gf]
 |_,_,0,_,hm=>by simp at hm
def gA (s:ag):Int:=
 if 8<s.ai.length then 2
 else if s.ai.all uz=true then
  (if s.ax<0 then 70 else if 1000<s.ax then 70
   else if qy [] s.ai=true then (if allRefs s s.ai=true then zJ s.ai else 70) else 70)
 else 2
def S6 {s:ag} (hb:∀T∈s.ai,uz T=true) (h:qy [] s.ai=true):∀t G,idx s.ai t=some G->lI G:=λt G hG=>
 No (λT hT=>(qg (hb T hT)).1) h G (cT (Bq hG).2.2)
structure SOK (s:ag):Prop where
 len:s.ai.length<=8
 cy:∀t T,idx s.ai t=some T->lI T
def qb {s:ag} (h:gA s=0):SOK s:=by
 unfold gA at h;split at h
 ·cases h
 ·rename_i h8;split at h
  ·rename_i hb;rw[iJ] at hb;split at h
   ·cases h
   ·split at h
    ·cases h
    ·split at h
     ·rename_i ht;exact ⟨by omega,S6 hb ht⟩
     ·cases h
  ·cases h
def QI (n:Nat) (s:ag) (hz:∀T∈s.ai,xa T) (hn:1600000<n) (fN:n<4294967296):F15 n s=some (gA s):=by
 unfold F15 anT gA;by_cases h8:8<s.ai.length
 ·have:(8:Int)<(s.ai.length:Int):=by omega
  simp only[h8,this,aU,aB]
 ·have h8':¬(8:Int)<(s.ai.length:Int):=by omega
  have h0:=adu (YI n) s s.ai (by omega) s.ai 0 n rfl (by omega)
  rw[show ((0:Nat):Int)=0 from rfl] at h0;simp only[h8,h8',aX,aC,aA,h0];by_cases hb:s.ai.all uz=true
  ·simp only[hb,aB,YI];have mU:=iJ.1 hb;by_cases v1:s.ax<0
   ·simp only[v1,aU,aB]
   ·by_cases v2:1000<s.ax
    ·simp only[v1,v2,aU,aX,aC,aA,aB]
    ·simp only[v1,v2,aX,aC,aA,aJr n s (by omega) (λT hT=>(qg (mU T hT)).1) (by omega),au]
     by_cases ht:qy [] s.ai=true
     ·simp only[ht,du,aC,aA,aB,aJq n s (S6 mU ht) (by omega) (λT hT=>(qg (mU T hT)).2.1) (by omega),au]
      by_cases hr:allRefs s s.ai=true
      ·have h3:=ads n s (by omega) mU hz s.ai 0 n rfl (by omega) fN
       rw[show ((0:Nat):Int)=0 from rfl] at h3;simp only[hr,du,aC,aA,aB,h3]
      ·simp only[hr,Bool.not_eq_true] at hr ⊢;simp[hr]
     ·have ht':qy [] s.ai=false:=by simpa using ht
      simp[ht']
  ·simp only[hb,aA,aC]
def FI (n:Nat) (s:ag) (hz:∀T∈s.ai,xa T) (hn:1600000<n) (fN:n<4294967296):F94 n s=some (gA s):=by
 unfold F94 aeh gA;by_cases h8:8<s.ai.length
 ·have:(8:Int)<(s.ai.length:Int):=by omega
  simp only[h8,this,aU,aB]
 ·have h8':¬(8:Int)<(s.ai.length:Int):=by omega
  have h0:=adi (X4 n) s s.ai (by omega) s.ai 0 n rfl (by omega)
  rw[show ((0:Nat):Int)=0 from rfl] at h0;simp only[h8,h8',aX,aC,aA,h0];by_cases hb:s.ai.all uz=true
  ·simp only[hb,aB,X4];have mU:=iJ.1 hb;by_cases v1:s.ax<0
   ·simp only[v1,aU,aB]
   ·by_cases v2:1000<s.ax
    ·simp only[v1,v2,aU,aX,aC,aA,aB]
    ·have h1:=adh (X5 n) s (by omega) mU s.ai 0 n rfl (by omega)
     rw[show ((0:Nat):Int)=0 from rfl,DY,uE] at h1;simp only[v1,v2,aX,aC,aA,h1];by_cases ht:qy [] s.ai=true
     ·have h2:=adg (X6 n) s (S6 mU ht) (by omega) mU s.ai 0 n rfl (by omega)
      rw[show ((0:Nat):Int)=0 from rfl] at h2;simp only[ht,aB,X5,h2];by_cases hr:allRefs s s.ai=true
      ·have h3:=ade n s (by omega) mU hz s.ai 0 n rfl (by omega) fN
       rw[show ((0:Nat):Int)=0 from rfl] at h3;simp only[hr,aB,X6,h3]
      ·simp only[hr,aA,aC]
     ·simp only[ht,aA,aC]
  ·simp only[hb,aA,aC]
def kI (id : Int) (r1 r2 r3 : cB) (ch : bO) : bn :=
  [⟨ByteArray.mk #[112, 114, 111, 106, 101, 99, 116, 115], [⟨ByteArray.mk #[105, 100], 4⟩, ⟨ByteArray.mk #[111, 119, 110, 101, 114], 4⟩], 1, [], []⟩,
   ⟨ByteArray.mk #[116, 97, 115, 107, 115], [⟨ByteArray.mk #[105, 100], id⟩, ⟨ByteArray.mk #[112, 114, 111, 106, 101, 99, 116], 4⟩, ⟨ByteArray.mk #[116, 105, 116, 108, 101], 5⟩, ⟨ByteArray.mk #[100, 111, 110, 101], 3⟩], 1, r1, ch⟩,
   ⟨ByteArray.mk #[109, 101, 109, 98, 101, 114, 115], [⟨ByteArray.mk #[112, 114, 111, 106, 101, 99, 116], 4⟩, ⟨ByteArray.mk #[112, 101, 114, 115, 111, 110], 4⟩], 2, r2, []⟩,
   ⟨ByteArray.mk #[97, 114, 99, 104, 105, 118, 101, 100], [⟨ByteArray.mk #[116, 97, 115, 107], id⟩], 1, r3, []⟩]
structure adx (v id:Int) (k:Nat) (r1 r2 r3:cB) (ch:bO):Prop where
 v0:0<=v
 v1:v<=2
 iN:id=4\/id=5
 hk:k=2\/k=3\/k=4
 h1:r1= []\/r1= [⟨[1],0⟩]
 h2:r2= []\/r2= [⟨[0],0⟩]
 h3:r3= []\/r3= [⟨[0],1⟩]
 hc:ch.length<=1/\rN [id,4,5,3] ch=0/\∀p∈ch,fG p<=119
def wX (s:ag):Prop:=∃v id k r1 r2 r3 ch,adx v id k r1 r2 r3 ch/\s=⟨v,(kI id r1 r2 r3 ch).take k⟩
def wX.jD {s:ag} (h:wX s):gA s=0:=by
 obtain ⟨v,id,k,r1,r2,r3,ch,⟨v0,v1,iN,hk,h1,h2,h3,hc0,hc,_⟩,rfl⟩:=h;have e1:¬8<((kI id r1 r2 r3 ch).take k).length:=by rw[dR];simp[kI];omega
 have e2:((kI id r1 r2 r3 ch).take k).all uz=true:=by
  have xf:r1.length<=4:=by rcases h1 with rfl|rfl<;>simp
  have hr2:r2.length<=4:=by rcases h2 with rfl|rfl<;>simp
  have hr3:r3.length<=4:=by rcases h3 with rfl|rfl<;>simp
  have sf:ch.length<=4:=by omega
  rcases hk with rfl|rfl|rfl<;>simp[kI,uz,xf,hr2,hr3,sf]
 have e3:qy [] ((kI id r1 r2 r3 ch).take k)=true:=by
  rcases iN with rfl|rfl<;>rcases hk with rfl|rfl|rfl<;>kernel_rfl
 have e4:allRefs ⟨v,(kI id r1 r2 r3 ch).take k⟩ ((kI id r1 r2 r3 ch).take k)=true:=by
  rcases iN with rfl|rfl<;>rcases hk with rfl|rfl|rfl<;>rcases h1 with rfl|rfl<;>rcases h2 with rfl|rfl<;>rcases h3 with rfl|rfl<;>kernel_rfl
 have e5:zJ ((kI id r1 r2 r3 ch).take k)=0:=by
  rcases hk with rfl|rfl|rfl<;>simp[kI,zJ,rN,eA,hc]
 unfold gA;simp only[e1,e2,e3,e4,e5,aA,aB,show ¬v<0 by omega,show ¬1000<v by omega]
def wX.ok {s:ag} (h:wX s):SOK s:=qb h.jD
def wX.sz {s:ag} (h:wX s):∀T∈s.ai,xa T:=by
 obtain ⟨v,id,k,r1,r2,r3,ch,⟨_,_,_,_,_,_,_,_,_,hz⟩,rfl⟩:=h;intro T hT p hp;have hT:=qG hT;simp only[kI,cH,List.not_mem_nil,or_false] at hT;rcases hT with rfl|rfl|rfl|rfl
 ·simp at hp
 ·have:=hz p hp;omega
 ·simp at hp
 ·simp at hp
def wX.pos {s:ag} (h:wX s):2<=s.ai.length:=by
 obtain ⟨v,id,k,r1,r2,r3,ch,⟨_,_,_,hk,_⟩,rfl⟩:=h;rw[dR];simp[kI];omega
def Ot (n:Nat) (hn:2000<=n) (fN:n<4294967296) (c:aM) (hc:dk c) (z:ag) (v id:Int) (k:Nat) (r1 r2 r3:cB) (h:adx v id k r1 r2 r3 []) (ts:bn) (mS:ts=(kI id r1 r2 r3 []).take k) (b5:ag) (Js:b5.ax=v):
  Ok (HD n c z b5 ts) λr=>dk r.2/\wX r.1:=by
 unfold HD;refine Ok.bind (tL n c 3 hc) λb hb=> ?_
 refine Ok.ite (λ_=> ?_) λ_=>Ok.pure ⟨hb,v,id,k,r1,r2,r3,[],h,by rw[Js,mS]⟩
 have hT:idx (ag.mk b5.ax ts).ai 1=some ⟨ByteArray.mk #[116,97,115,107,115],[⟨ByteArray.mk #[105,100],id⟩,⟨ByteArray.mk #[112,114,111,106,101,99,116],4⟩,⟨ByteArray.mk #[116,105,116,108,101],5⟩,⟨ByteArray.mk #[100,111,110,101],3⟩],1,r1,[]⟩:=by
  rw[mS];rcases h.hk with rfl|rfl|rfl<;>rfl
 rw[adA hT (by simp) (by omega),au]
 have EL:kP [id,4,5,3]=true:=by rcases h.iN with rfl|rfl<;>rfl
 refine Ok.bind (aJl [id,4,5,3] [] EL rfl (by simp) (by simp) 1 n b.2 hb (by omega) fN (by omega) (by omega)) λp ⟨hp,p0,pz⟩=> ?_
 have e1:eW ts.length 1=some 1:=by rw[mS];rcases h.hk with rfl|rfl|rfl<;>rfl
 have e2:ts[0+1]? =some ⟨ByteArray.mk #[116,97,115,107,115],[⟨ByteArray.mk #[105,100],id⟩,⟨ByteArray.mk #[112,114,111,106,101,99,116],4⟩,⟨ByteArray.mk #[116,105,116,108,101],5⟩,⟨ByteArray.mk #[100,111,110,101],3⟩],1,r1,[]⟩:=by
  rw[mS];rcases h.hk with rfl|rfl|rfl<;>rfl
 rw[e1,au,e2,au];have e3:setAt ts (0+1) ⟨ByteArray.mk #[116,97,115,107,115],[⟨ByteArray.mk #[105,100],id⟩,⟨ByteArray.mk #[112,114,111,106,101,99,116],4⟩,⟨ByteArray.mk #[116,105,116,108,101],5⟩,⟨ByteArray.mk #[100,111,110,101],3⟩],1,r1,[p.1]⟩=some ((kI id r1 r2 r3 [p.1]).take k):=by
  rw[mS];rcases h.hk with rfl|rfl|rfl<;>rfl
 rw[e3,au];exact Ok.pure ⟨hp,v,id,k,r1,r2,r3,[p.1],⟨h.v0,h.v1,h.iN,h.hk,h.h1,h.h2,h.h3,by simp,by simp[rN,p0],by simpa using pz⟩,by rw[Js]⟩
def HC (n:Nat) (hn:2000<=n) (fN:n<4294967296) (c:aM) (hc:dk c) (z:ag) (v id:Int) (k:Nat) (r1 r2:cB) (h:adx v id k r1 r2 [] []) (ts:bn) (mS:ts=(kI id r1 r2 [] []).take k) (b5:ag) (Js:b5.ax=v):
  Ok (Di n (k:Int) c z b5 ts) λr=>dk r.2/\wX r.1:=by
 unfold Di;refine Ok.ite (λhk=> ?_) λ_=>Ot n hn fN c hc _ v id k r1 r2 [] h ts mS _ Js
 have hk:k=4:=by have:=h.hk;simp at hk;omega
 subst hk;refine Ok.bind (tL n c 3 hc) λb hb=> ?_
 refine Ok.ite (λ_=> ?_) λ_=>Ot n hn fN b.2 hb _ v id 4 r1 r2 [] h ts mS _ Js
 subst mS;show Ok (HD n b.2 ⟨0,[]⟩ ⟨b5.ax,(kI id r1 r2 [⟨[0],1⟩] []).take 4⟩ ((kI id r1 r2 [⟨[0],1⟩] []).take 4)) _;exact Ot n hn fN b.2 hb _ v id 4 r1 r2 [⟨[0],1⟩] {h with h3:=.inr rfl} _ rfl _ Js
def ael (n:Nat) (hn:2000<=n) (fN:n<4294967296) (c:aM) (hc:dk c) (z:ag) (v id:Int) (k:Nat) (r1:cB) (h:adx v id k r1 [] [] []) (ts:bn) (mS:ts=(kI id r1 [] [] []).take k) (b5:ag) (Js:b5.ax=v):
  Ok (HB n (k:Int) c z b5 ts) λr=>dk r.2/\wX r.1:=by
 unfold HB;refine Ok.ite (λhk=> ?_) λ_=>HC n hn fN c hc _ v id k r1 [] h ts mS _ Js
 refine Ok.bind (tL n c 3 hc) λb hb=> ?_
 refine Ok.ite (λ_=> ?_) λ_=>HC n hn fN b.2 hb _ v id k r1 [] h ts mS _ Js
 subst mS;have hk:k=3\/k=4:=by have:=h.hk;simp at hk;omega
 rcases hk with rfl|rfl
 ·show Ok (Di n (3:Nat) b.2 ⟨0,[]⟩ ⟨b5.ax,(kI id r1 [⟨[0],0⟩] [] []).take 3⟩ ((kI id r1 [⟨[0],0⟩] [] []).take 3)) _;exact HC n hn fN b.2 hb _ v id 3 r1 [⟨[0],0⟩] {h with h2:=.inr rfl} _ rfl _ Js
 ·show Ok (Di n (4:Nat) b.2 ⟨0,[]⟩ ⟨b5.ax,(kI id r1 [⟨[0],0⟩] [] []).take 4⟩ ((kI id r1 [⟨[0],0⟩] [] []).take 4)) _;exact HC n hn fN b.2 hb _ v id 4 r1 [⟨[0],0⟩] {h with h2:=.inr rfl} _ rfl _ Js
def aek (n:Nat) (hn:2000<=n) (fN:n<4294967296) (c:aM) (hc:dk c) (z:ag) (id:Int) (iN:id=4\/id=5) (k:Nat) (hk:k=2\/k=3\/k=4):
  Ok (QY n (k:Int) id c z) λr=>dk r.2/\wX r.1:=by
 unfold QY;refine Ok.bind (ka n c 3 hc) λv ⟨hv,v0,v1,_⟩=> ?_
 have v1:=v1 (by omega)
 simp only[Cf,anp,au];have h:∀r1,(r1= []\/r1= [⟨[1],0⟩])->adx v.1 id k r1 [] [] []:=λr1 h1=>⟨v0,by omega,iN,hk,h1,.inl rfl,.inl rfl,by simp,rfl,by simp⟩
 have e0:tE 4 (k:Int)=some k:=by unfold tE;rw[aH (by omega)];rfl
 rw[e0,au];refine Ok.bind (tL n v.2 2 hv) λb hb=> ?_
 refine Ok.ite (λ_=> ?_) λ_=> ?_
 rotate_left
 ·show Ok (HB n (k:Int) b.2 ⟨0,[]⟩ ⟨v.1,(kI id [] [] [] []).take k⟩ ((kI id [] [] [] []).take k)) _;exact ael n hn fN b.2 hb _ v.1 id k [] (h [] (.inl rfl)) _ rfl _ rfl
 have e1:eW k 1=some 1:=by rcases hk with rfl|rfl|rfl<;>rfl
 rw[e1,au];show Ok (HB n (k:Int) b.2 ⟨0,[]⟩ ⟨v.1,(kI id [⟨[1],0⟩] [] [] []).take k⟩ ((kI id [⟨[1],0⟩] [] [] []).take k)) _;exact ael n hn fN b.2 hb _ v.1 id k [⟨[1],0⟩] (h _ (.inr rfl)) _ rfl _ rfl
def aJv (n:Nat) (hn:2000<=n) (fN:n<4294967296) (c:aM) (hc:dk c):Ok (F38 n c) λr=>dk r.2/\wX r.1:=by
 unfold F38 anN;refine Ok.bind (ka n c 3 hc) λv ⟨hv,v0,v1,_⟩=> ?_
 have v1:=v1 (by omega)
 have e:bl (2+v.1)=((2+v.1.toNat:Nat):Int):=by rw[dw (by omega) (by omega)];omega
 rw[e];refine Ok.bind (tL n v.2 5 hv) λb hb=> ?_
 exact Ok.ite (λ_=>aek n hn fN b.2 hb _ 5 (.inr rfl) _ (by omega)) λ_=>aek n hn fN b.2 hb _ 4 (.inl rfl) _ (by omega)
def CX:∀{a b c:List UInt8},Op.bytesLess a b=true->Op.bytesLess b c=true->Op.bytesLess a c=true
 |_,[],_,h,_=>by cases ‹List UInt8› <;>simp[Op.bytesLess] at h
 |_,_::_,[],_,h=>by simp[Op.bytesLess] at h
 | [],_::_,_::_,_,_=>by simp[Op.bytesLess]
 |x::a,y::b,z::c,h1,h2=>by
  rw[VD] at h1 h2 ⊢;simp only[pE,jX,bF,qI] at h1 h2 ⊢;rcases h1 with h1|⟨rfl,h1⟩<;>rcases h2 with h2|⟨rfl,h2⟩
  ·exact .inl (UInt8.lt_trans h1 h2)
  ·exact .inl h1
  ·exact .inl h2
  ·exact .inr ⟨rfl,CX h1 h2⟩
def afL {a:aP}:lj a b= -1↔a.ay<b.ay\/(a.ay=b.ay/\(a.bZ<b.bZ\/(a.bZ=b.bZ/\Op.bytesLess a.bB.toList b.bB.toList=true))):=by
 unfold lj;split
 ·rename_i h;simp[h]
 ·split
  ·rename_i h1 h;constructor
   ·intro h;omega
   ·intro h;omega
  ·have e:a.ay=b.ay:=by omega
   split
   ·rename_i h;simp[e,h]
   ·split
    ·constructor
     ·intro h;omega
     ·intro h;omega
    ·have e2:a.bZ=b.bZ:=by omega
     split
     ·rename_i h;simp[e,e2,h]
     ·rename_i h;split
      ·constructor
       ·intro h;omega
       ·rintro (h'|⟨_,h'|⟨_,h'⟩⟩)
        ·omega
        ·omega
        ·exact absurd h' h
      ·constructor
       ·intro h;omega
       ·rintro (h'|⟨_,h'|⟨_,h'⟩⟩)
        ·omega
        ·omega
        ·exact absurd h' h
def ajF {a c:aP} (h1:lj a b= -1) (h2:lj b c= -1):lj a c= -1:=by
 rw[afL] at*;rcases h1 with h1|⟨e1,h1⟩<;>rcases h2 with h2|⟨e2,h2⟩
 ·left;omega
 ·left;omega
 ·left;omega
 ·right;refine ⟨by omega,?_⟩
  rcases h1 with h1|⟨e3,h1⟩<;>rcases h2 with h2|⟨e4,h2⟩
  ·left;omega
  ·left;omega
  ·left;omega
  ·exact .inr ⟨by omega,CX h1 h2⟩
def D8 {a:aP} (h:lj a b=0):a=b:=by
 unfold lj at h;split at h
 ·cases h
 ·split at h
  ·cases h
  ·split at h
   ·cases h
   ·split at h
    ·cases h
    ·split at h
     ·cases h
     ·split at h
      ·rename_i h5;obtain ⟨x,y,z⟩:=a;obtain ⟨x',y',z'⟩:=b;simp only at*;rw[show x=x' by omega,show y=y' by omega,h5]
      ·cases h
def Em:∀{x y:cC},eZ x y=0->x=y
 | [],[],_=>rfl
 | [],_::_,h=>by simp[eZ] at h
 |_::_,[],h=>by simp[eZ] at h
 |a::x,b::y,h=>by
  simp only[eZ] at h;split at h
  ·rename_i h0;rw[D8 h0,Em h]
  ·exact absurd h (by assumption)
def aga {x y:cC}:eZ x y=0↔x=y:=⟨Em,λh=>h ▸ IL x⟩
def Po:∀{x y z:cC},eZ x y= -1->eZ y z= -1->eZ x z= -1
 | [],[],_,h,_=>by simp[eZ] at h
 | [],_::_,[],_,h=>by simp[eZ] at h
 | [],_::_,_::_,_,_=>by simp[eZ]
 |_::_,[],_,h,_=>by simp[eZ] at h
 |_::_,_::_,[],_,h=>by simp[eZ] at h
 |a::x,b::y,c::z,h1,h2=>by
  simp only[eZ] at h1 h2 ⊢;split at h1
  ·rename_i e1;have e1:=D8 e1;subst e1;split at h2
   ·rename_i e2;rw[aH e2];exact Po h1 h2
   ·rename_i e2;rw[aL e2];exact h2
  ·split at h2
   ·rename_i e2;have e2:=D8 e2;subst e2;rw[aL (by omega)];exact h1
   ·have:=ajF h1 h2;rw[aL (by omega)];exact this
abbrev lC (T:aj) (r:cC):cC:=r.take T.aw.toNat
def lt (a b:cC):Prop:=eZ a b= -1
instance (a b:cC):Decidable (lt a b):=inferInstanceAs (Decidable (_=_))
def lt_irrefl (a:cC):¬lt a a:=λh=>by have:=IL a;unfold lt at h;omega
def lt_trans {a b c:cC} (h1:lt a b) (h2:lt b c):lt a c:=Po h1 h2
def lt_asymm {a b:cC} (h:lt a b):¬lt b a:=λh'=>lt_irrefl a (lt_trans h h')
def abg (a b:cC):lt a b\/a=b\/lt b a:=by
 rcases Gg a b with h|h|h
 ·exact .inl h
 ·exact .inr (.inl (Em h))
 ·exact .inr (.inr (by show eZ b a= -1;rw[Nv a b,h]))
def Lt {a b:cC}:eZ a b<0↔lt a b:=by
 unfold lt;rcases Gg a b with h|h|h<;>omega
def Ord (T:aj) (rows:bU):Prop:=rows.Pairwise λa b=>lt (lC T a) (lC T b)
def wm (T:aj) (k:cC) (N rows:bU):bU:=rows.filter (λr=>decide (lt (lC T r) k))++N++rows.filter (λr=>decide (lt k (lC T r)))
def atA {T:aj} {k:cC} {N rows:bU} {r:cC}:r∈wm T k N rows↔(r∈rows/\lC T r≠k)\/r∈N:=by
 unfold wm;simp only[eR,lr,jX];constructor
 ·rintro ((⟨h1,h2⟩|h)|⟨h1,h2⟩)
  ·exact .inl ⟨h1,λe=>lt_irrefl _ (e ▸ h2)⟩
  ·exact .inr h
  ·exact .inl ⟨h1,λe=>lt_irrefl _ (e ▸ h2)⟩
 ·rintro (⟨h1,h2⟩|h)
  ·rcases abg (lC T r) k with h|h|h
   ·exact .inl (.inl ⟨h1,h⟩)
   ·exact absurd h h2
   ·exact .inr ⟨h1,h⟩
  ·exact .inl (.inr h)
def atz {T:aj} {k:cC} {N rows:bU} (h:Ord T rows) (hN:N= []\/∃r,N= [r]/\lC T r=k):Ord T (wm T k N rows):=by
 unfold Ord wm at*;have hN1:∀r∈N,lC T r=k:=by
  rcases hN with rfl|⟨r,rfl,e⟩
  ·simp
  ·simpa using e
 rw[List.pairwise_append,List.pairwise_append];refine ⟨⟨h.filter _,?_,λa ha b hb=> ?_⟩,h.filter _,λa ha b hb=> ?_⟩
 ·rcases hN with rfl|⟨r,rfl,e⟩<;>simp
 ·rw[hN1 b hb];simpa using (lr.1 ha).2
 ·have hb:lt k (lC T b):=by simpa using (lr.1 hb).2
  rcases eR.1 ha with ha|ha
  ·exact lt_trans (by simpa using (lr.1 ha).2) hb
  ·rw[hN1 a ha];exact hb
def filter_all {p:J->Bool} {l:List J} (h:∀x∈l,p x=true):l.filter p=l:=vE.2 h
def filter_none {p:J->Bool} {l:List J} (h:∀x∈l,p x=false):l.filter p= []:=so.2 λx hx=>by rw[h x hx];simp
def fw (a b i:Int):Int:=if b<0 then (if a<i then i-1 else i) else if i=a then b else if a<b/\a<i/\i<=b then i-1 else if b<a/\b<=i/\i<a then i+1 else i
def ME (n:Nat) (i a b:Int) (h1: -9223372036854775808<=i) (h2:i<=9223372036854775807) (h3: -9223372036854775808<=a) (h4:a<=9223372036854775807):Hv n i a b=some (fw a b i):=by
 have w1:a<i->bl (i-1)=i-1:=λh=>dw (by omega) (by omega)
 have w2:i<a->bl (i+1)=i+1:=λh=>dw (by omega) (by omega)
 unfold Hv afr tM fw;by_cases c1:b<0
 ·by_cases c2:a<i<;>simp[c1,c2,w1]
 ·by_cases c2:i=a
  ·subst c2;simp[c1]
  ·by_cases c3:a<i
   ·have n1:¬i<a:=by omega
    by_cases c4:b<i
    ·have n2:¬i<=b:=by omega
     by_cases c5:a<b<;>by_cases c6:b<a<;>by_cases c7:i<b<;>simp[c1,c2,c3,c4,n1,n2,c5,c6,c7]
    ·have c4':i<=b:=by omega
     have c5:a<b:=by omega
     simp[c1,c2,c3,c4,c4',c5,w1]
   ·have c3':i<a:=by omega
    by_cases c4:i<b
    ·have n2:¬b<=i:=by omega
     by_cases c5:a<b<;>by_cases c6:b<a<;>simp[c1,c2,c3,c4,n2,c5,c6]
    ·have c4':b<=i:=by omega
     have c6:b<a:=by omega
     have c5:¬a<b:=by omega
     simp[c1,c2,c3,c4,c4',c5,c6,c3',w2]
def j2 (f:Int->Int) (o:aT):aT:=if o.ay==1 then ⟨o.ay,f o.cQ,o.aD⟩ else o
mutual
def l4 (f:Int->Int):ah->ah
 |⟨op,c,l,r,args⟩=>⟨op,c,j2 f l,j2 f r,iV f args⟩
def iV (f:Int->Int):bO->bO
 | []=> []
 |x::xs=>l4 f x::iV f xs
end
def I1 (f:Int->Int):∀xs:bO,(iV f xs).length=xs.length
 | []=>by simp[iV]
 |x::xs=>by simp[iV,I1 f xs]
def I0 (f:Int->Int):∀xs:bO,iV f xs=xs.map (l4 f)
 | []=>by simp[iV]
 |x::xs=>by simp[iV,I0 f xs]
mutual
def aie (f:Int->Int):∀p:ah,fG (l4 f p)=fG p
 |⟨op,c,l,r,args⟩=>by simp only[l4,fG,abf f args]
def abf (f:Int->Int):∀xs:bO,kM (iV f xs)=kM xs
 | []=>by simp[iV]
 |x::xs=>by simp only[iV,kM,aie f x,abf f xs]
end
def zn (N:Int) (o:aT):Bool:=o.ay !=1||(decide (0<=o.cQ)&&decide (o.cQ<N))
mutual
def pS (N:Int):ah->Bool
 |⟨op,c,l,r,args⟩=>(if op==3 then zn N l&&zn N r else l.ay !=1&&r.ay !=1)&&IS N args
def IS (N:Int):bO->Bool
 | []=>true
 |x::xs=>pS N x&&IS N xs
end
def U8 {N:Int}:∀{xs:bO} {x:ah},IS N xs=true->x∈xs->pS N x=true
 |y::ys,x,h,hx=>by
  simp only[IS,bF] at h;rcases cH.1 hx with rfl|hx
  ·exact h.1
  ·exact U8 h.2 hx
def Py (h:Af o=true):o.ay=0:=by
 simp[Af] at h;exact h.1
def M0 {l r:aT} (h:kN c l r=true):l.ay=0/\r.ay=0:=by
 simp only[kN,bF] at h;exact ⟨Py h.1.2,Py h.2⟩
def aba (h:kW cols params o≠0):zn cols.length o=true:=by
 unfold zn;by_cases h1:o.ay=1
 ·have h:kAt cols o≠0:=by
   unfold kW at h;simpa[h1] using h
  unfold kAt at h;split at h
  ·rename_i hh;simp[h1,hh.1,hh.2.1]
  ·exact absurd rfl h
 ·simp[h1]
mutual
def axh {cols params:aK}:∀{p:ah},pV cols params p=true->pS cols.length p=true
 |⟨op,c,l,r,args⟩,h=>by
  unfold pV at h;unfold pS;by_cases h1:op=1\/op=2
  ·have cZ:(op==3)=false:=by rcases h1 with rfl|rfl<;>rfl
   have hb:(op==1||op==2)=true:=by rcases h1 with rfl|rfl<;>rfl
   rw[hb] at h;simp only[aB,bF] at h;let ⟨k1,k2⟩:=M0 h.1;have ha:args= []:=by simpa using h.2
   rw[cZ,ha];simp[k1,k2,IS]
  ·have hb:(op==1||op==2)=false:=by
    rw[Bool.or_eq_false_iff];simp;omega
   rw[hb] at h;simp only[aC,aA] at h;by_cases h3:op=3
   ·subst h3;simp at h;have ha:args= []:=h.1.1.1.1;rw[ha];have k1:=aba (cols:=cols) (params:=params) (o:=l) h.1.2;have k2:=aba (cols:=cols) (params:=params) (o:=r) (by rw[<-h.2];exact h.1.2)
    simp[k1,k2,IS]
   ·have cZ:(op==3)=false:=by simpa using h3
    rw[cZ] at h ⊢;simp only[aC,aA] at h ⊢;have key:kN c l r=true/\pM cols params args=true:=by
     split at h
     ·simpa using h
     ·split at h
      ·simp only[bF] at h;exact h.2
      ·cases h
    let ⟨k1,k2⟩:=M0 key.1;rw[ahJ key.2,k1,k2];rfl
def ahJ {cols params:aK}:∀{xs:bO},pM cols params xs=true->IS cols.length xs=true
 | [],_=>by simp[IS]
 |x::xs,h=>by
  simp only[pM,bF] at h;simp only[IS,axh h.1,ahJ h.2,ny]
end
def vT (h:o.ay≠1):j2 f o=o:=by
 unfold j2;rw[aL (by simpa using h)]
def ajr:∀(n:Nat) (p:ah),fG p<=n->fG p<1000000->Hu n p=some p
 |0,⟨_,_,_,_,_⟩,h,_=>by simp[fG] at h
 |n+1,⟨op,c,l,r,args⟩,h,hb=>by
  simp only[fG] at h hb;have hlen:=py args;have loop:∀(k3:ah->ah->bO->Option ah) (xs:bO) (i k:Nat) (b4 b5:ah),args.drop i=xs->xs.length<k->
    ∃y9 y8,y8.bh=b5.bh/\y8.eP=b5.eP/\y8.cq=b5.cq/\y8.bL=b5.bL/\Fo (Hu n) k3 k args (args.length:Int) (i:Int) b4 b5 (args.take i)=k3 y9 y8 args:=by
   intro k3 xs;induction xs with
   |nil=>
    intro i k b4 b5 hd hk;have hi:args.length<=i:=by simpa using hd
    have hq:¬((i:Int)<(args.length:Int)):=by omega
    cases k with
    |zero=>simp at hk
    |succ k=>exact ⟨ah.mk b4.bh b4.eP b4.cq b4.bL [],ah.mk b5.bh b5.eP b5.cq b5.bL args,rfl,rfl,rfl,rfl,by simp[Fo,RP,hq,kq hi]⟩
   |cons x xs ih=>
    intro i k b4 b5 hd hk;let ⟨g1,g2,g3⟩:=bE hd;have hq:((i:Int)<(args.length:Int)):=by omega
    cases k with
    |zero=>simp at hk
    |succ k=>
     have hx:x∈args:=cT g1;have hs:=su hx;have ht:args.take i++ [x]=args.take (i+1):=by rw[vC,g1];rfl
     let ⟨y9,y8,e1,e2,e3,e4,e5⟩:=ih (i+1) k (ah.mk b4.bh b4.eP b4.cq b4.bL []) (ah.mk b5.bh b5.eP b5.cq b5.bL (args.take (i+1))) g2 (by simp at hk;omega)
     refine ⟨y9,y8,e1,e2,e3,e4,?_⟩;simp only[Fo,RP,hq,aU,aB,bM,g1,au,ajr n x (by omega) (by omega),dL (args.take i) [x] (by simp;omega),ht,cf g3 (by omega:args.length<4294967296),e5]
  have fin:∀(b2 b4 b5:ah),b2.fArgs=args->Kj (Hu n) n b2 b4 b5=some ⟨b5.bh,b5.eP,b5.cq,b5.bL,args⟩:=by
   intro b2 b4 b5 ha;let ⟨y9,y8,e1,e2,e3,e4,e5⟩:=loop (RO (Hu n) n) args 0 n (ah.mk 0 0 (aT.mk 0 0 (aP.mk 0 0 ByteArray.empty)) (aT.mk 0 0 (aP.mk 0 0 ByteArray.empty)) []) (ah.mk b5.bh b5.eP b5.cq b5.bL []) rfl (by omega)
   unfold Kj;rw[ha];refine e5.trans ?_;unfold RO;rw[e1,e2,e3,e4]
  have f3:∀(b2 b4 b5:ah),b2.fArgs=args->Ki (Hu n) n b2 b4 b5=some ⟨b5.bh,b5.eP,b5.cq,b5.bL,args⟩:=by
   intro b2 b4 b5 ha;unfold Ki;split
   ·rw[show ∀c,adW n c=some c from λ_=>rfl,au]
    exact fin b2 _ _ ha
   ·exact fin b2 _ _ ha
  unfold Hu afd;split
  ·rw[show ∀c,adW n c=some c from λ_=>rfl,au]
   exact f3 ⟨op,c,l,r,args⟩ _ _ rfl
  ·exact f3 ⟨op,c,l,r,args⟩ _ _ rfl
def j7 (m:aE) (c:Int):Int:=
 if m.bh=2 then (if c<0 then c else if c=m.aN then -1 else if m.aN<c then c-1 else c)
 else if m.bh=3 then (if c<0 then c else if c=m.aN then m.eL else if m.aN<c/\c<=m.eL then c-1 else if m.eL<=c/\c<m.aN then c+1 else c)
 else c
def l6 (x:Int):Prop:= -9223372036854775808<=x/\x<=9223372036854775807
def ajp (n:Nat) (i a b:Int) (hi:l6 i) (ha:l6 a):amU n i a b=some (if i=a then b else if a<i/\i<=b then i-1 else if b<=i/\i<a then i+1 else i):=by
 let ⟨h1,h2⟩:=hi;let ⟨h3,h4⟩:=ha;have w1:a<i->bl (i-1)=i-1:=λh=>dw (by omega) (by omega)
 have w2:i<a->bl (i+1)=i+1:=λh=>dw (by omega) (by omega)
 unfold amU aeR FV;by_cases c2:i=a
 ·subst c2;simp
 ·by_cases c3:a<i
  ·have n1:¬i<a:=by omega
   by_cases c4:b<i
   ·have n2:¬i<=b:=by omega
    by_cases c7:i<b<;>simp[c2,c3,c4,n1,n2,c7]
   ·have c4':i<=b:=by omega
    simp[c2,c3,c4,c4',w1]
  ·have c3':i<a:=by omega
   by_cases c4:i<b
   ·have n2:¬b<=i:=by omega
    simp[c2,c3,c4,n2]
   ·have c4':b<=i:=by omega
    simp[c2,c3,c4,c4',c3',w2]
def aja (n:Nat) (c:Int) (g:aF) (eT:g.fm.bh=2\/g.fm.bh=3) (hc:l6 c) (ha:l6 g.fm.aN):Oi n c g=some (j7 g.fm c):=by
 let ⟨h1,h2⟩:=hc;let ⟨h3,h4⟩:=ha;unfold Oi aep VY Ss j7;rcases eT with h|h
 ·have n7:¬g.fm.bh=7:=by omega
  by_cases c1:c<0
  ·simp[h,c1]
  ·by_cases c2:c=g.fm.aN
   ·simp[h,c1,c2];have:0<=g.fm.aN:=by omega
    simp[this];intro;omega
   ·by_cases c3:g.fm.aN<c
    ·simp[h,c1,c2,c3,dw (x:=c-1) (by omega) (by omega)]
    ·simp[h,c1,c2,c3]
 ·by_cases c1:c<0
  ·simp[h,c1]
  ·have:=ajp n c g.fm.aN g.fm.eL ⟨h1,h2⟩ ⟨h3,h4⟩;simp only[h,this,c1,au,hY,aX,hZ,aB,aA,show ((3:Int)==7)=false from rfl,show ((3:Int)==2)=false from rfl,show ¬(3:Int)=2 by omega,aC]
def aeb (N:Int) (hN:N<=1000) (g:aF) (eT:g.fm.bh=2\/g.fm.bh=3) (ha:l6 g.fm.aN):∀(n:Nat) (p:ah),fG p<=n->fG p<1000000->pS N p=true->Ay n p g=some (l4 (j7 g.fm) p)
 |0,⟨_,_,_,_,_⟩,h,_,_=>by simp[fG] at h
 |n+1,⟨op,c,l,r,args⟩,h,hb,hp=>by
  simp only[fG] at h hb;have hlen:=py args;have hml:=I1 (j7 g.fm) args;simp only[pS,bF] at hp;let ⟨qq,hp2⟩:=hp;have hF:∀o:aT,(if op==3 then zn N o=true else o.ay≠1)->o.ay=1->Oi n o.cQ g=some (j7 g.fm o.cQ):=λo ho hk=>by
   split at ho
   ·simp[zn,hk] at ho;exact aja n _ g eT ⟨by omega,by omega⟩ ha
   ·exact absurd hk ho
  have hl:(if op==3 then zn N l=true else l.ay≠1):=by
   split at qq
   ·rename_i q;simp only[bF] at qq;rw[aH q];exact qq.1
   ·rename_i q;simp at qq;rw[aL q];exact qq.1
  have hr:(if op==3 then zn N r=true else r.ay≠1):=by
   split at qq
   ·rename_i q;simp only[bF] at qq;rw[aH q];exact qq.2
   ·rename_i q;simp at qq;rw[aL q];exact qq.2
  have loop:∀(k3:aF->ah->ah->bO->Option ah) (xs:bO) (i k:Nat) (b4 b5:ah),args.drop i=xs->xs.length<k->
    ∃y9 y8,y8.bh=b5.bh/\y8.eP=b5.eP/\y8.cq=b5.cq/\y8.bL=b5.bL/\AT (Ay n) k3 k args (args.length:Int) (i:Int) g b4 b5 ((iV (j7 g.fm) args).take i)=k3 g y9 y8 (iV (j7 g.fm) args):=by
   intro k3 xs;induction xs with
   |nil=>
    intro i k b4 b5 hd hk;have hi:args.length<=i:=by simpa using hd
    have hq:¬((i:Int)<(args.length:Int)):=by omega
    cases k with
    |zero=>simp at hk
    |succ k=>exact ⟨ah.mk b4.bh b4.eP b4.cq b4.bL [],ah.mk b5.bh b5.eP b5.cq b5.bL (iV (j7 g.fm) args),rfl,rfl,rfl,rfl,by simp[AT,MV,hq,kq (show (iV (j7 g.fm) args).length<=i by omega)]⟩
   |cons x xs ih=>
    intro i k b4 b5 hd hk;let ⟨g1,g2,g3⟩:=bE hd;have hq:((i:Int)<(args.length:Int)):=by omega
    cases k with
    |zero=>simp at hk
    |succ k=>
     have hx:x∈args:=cT g1;have hs:=su hx;have ht:(iV (j7 g.fm) args).take i++ [l4 (j7 g.fm) x]=(iV (j7 g.fm) args).take (i+1):=by
      rw[vC,I0,lz,g1];rfl
     let ⟨y9,y8,e1,e2,e3,e4,e5⟩:=ih (i+1) k (ah.mk b4.bh b4.eP b4.cq b4.bL []) (ah.mk b5.bh b5.eP b5.cq b5.bL ((iV (j7 g.fm) args).take (i+1))) g2 (by simp at hk;omega)
     refine ⟨y9,y8,e1,e2,e3,e4,?_⟩;simp only[AT,MV,hq,aU,aB,bM,g1,au,aeb N hN g eT ha n x (by omega) (by omega) (U8 hp2 hx),dL ((iV (j7 g.fm) args).take i) [l4 (j7 g.fm) x] (by simp;omega),ht,cf g3 (by omega:args.length<4294967296),e5]
  have fin:∀(b2 b4 b5:ah),b2.fArgs=args->FY (Ay n) n g b2 b4 b5=some ⟨b5.bh,b5.eP,b5.cq,b5.bL,iV (j7 g.fm) args⟩:=by
   intro b2 b4 b5 ha;let ⟨y9,y8,e1,e2,e3,e4,e5⟩:=loop (MU (Ay n) n) args 0 n (ah.mk 0 0 (aT.mk 0 0 (aP.mk 0 0 ByteArray.empty)) (aT.mk 0 0 (aP.mk 0 0 ByteArray.empty)) []) (ah.mk b5.bh b5.eP b5.cq b5.bL []) rfl (by omega)
   unfold FY;rw[ha];refine e5.trans ?_;unfold MU;rw[e1,e2,e3,e4]
  have f3:∀(b2 b4 b5:ah),b2.fArgs=args->b5.bL=r->FX (Ay n) n g b2 b4 b5=some ⟨b5.bh,b5.eP,b5.cq,j2 (j7 g.fm) r,iV (j7 g.fm) args⟩:=by
   intro b2 b4 b5 ha hr5;unfold FX j2;rw[hr5];split
   ·rename_i hk;rw[hF r hr (by simpa using hk),au]
    exact fin b2 _ _ ha
   ·rw[<-hr5];exact fin b2 _ _ ha
  unfold Ay V7;simp only[l4];split
  ·rename_i hk;rw[hF l hl (by simpa using hk),au,f3 ⟨op,c,l,r,args⟩ _ _ rfl rfl]
   unfold j2;rw[aH hk]
  ·rename_i hk;rw[f3 ⟨op,c,l,r,args⟩ _ _ rfl rfl,vT (o:=l) (by simpa using hk)]
def ajg (N:Int) (hN:N<=1000) (a b:Int) (ha:l6 a):∀(n:Nat) (p:ah),fG p<=n->fG p<1000000->pS N p=true->DL n p a b=some (l4 (fw a b) p)
 |0,⟨_,_,_,_,_⟩,h,_,_=>by simp[fG] at h
 |n+1,⟨op,c,l,r,args⟩,h,hb,hp=>by
  simp only[fG] at h hb;have hlen:=py args;have hml:=I1 (fw a b) args;simp only[pS,bF] at hp;let ⟨qq,hp2⟩:=hp;have loop:∀(k3:ah->ah->bO->Option ah) (xs:bO) (i k:Nat) (b3 b6:ah),args.drop i=xs->xs.length<k->
    ∃b6',Fe (DL n) k3 k a b args (args.length:Int) (i:Int) b3 b6 ((iV (fw a b) args).take i)=k3 b3 b6' (iV (fw a b) args):=by
   intro k3 xs;induction xs with
   |nil=>
    intro i k b3 b6 hd hk;have hi:args.length<=i:=by simpa using hd
    have hq:¬((i:Int)<(args.length:Int)):=by omega
    cases k with
    |zero=>simp at hk
    |succ k=>exact ⟨ah.mk b6.bh b6.eP b6.cq b6.bL [],by simp[Fe,Rq,hq,kq (show (iV (fw a b) args).length<=i by omega)]⟩
   |cons x xs ih=>
    intro i k b3 b6 hd hk;let ⟨g1,g2,g3⟩:=bE hd;have hq:((i:Int)<(args.length:Int)):=by omega
    cases k with
    |zero=>simp at hk
    |succ k=>
     have hx:x∈args:=cT g1;have hs:=su hx;have ht:(iV (fw a b) args).take i++ [l4 (fw a b) x]=(iV (fw a b) args).take (i+1):=by
      rw[vC,I0,lz,g1];rfl
     let ⟨b6',e5⟩:=ih (i+1) k b3 (ah.mk b6.bh b6.eP b6.cq b6.bL []) g2 (by simp at hk;omega)
     refine ⟨b6',?_⟩;simp only[Fe,Rq,hq,aU,aB,bM,g1,au,ajg N hN a b ha n x (by omega) (by omega) (U8 hp2 hx),dL ((iV (fw a b) args).take i) [l4 (fw a b) x] (by simp;omega),ht,cf g3 (by omega:args.length<4294967296),e5]
  have fin:∀(b3 b6:ah),b3.fArgs=args->Cj (DL n) n a b b3 b6=some ⟨b3.bh,b3.eP,b3.cq,b3.bL,iV (fw a b) args⟩:=by
   intro b3 b6 hb3;let ⟨b6',e5⟩:=loop (aeD (DL n) n) args 0 n b3 (ah.mk 0 0 (aT.mk 0 0 (aP.mk 0 0 ByteArray.empty)) (aT.mk 0 0 (aP.mk 0 0 ByteArray.empty)) []) rfl (by omega)
   unfold Cj;rw[hb3];exact e5
  unfold DL aeC;simp only[l4];by_cases h3:op=3
  ·subst h3;simp only[hY,aB,bF] at qq ⊢;have hF:∀o:aT,zn N o=true->o.ay=1->Hv n o.cQ a b=some (fw a b o.cQ):=λo ho hk=>by
    simp[zn,hk] at ho;exact ME n _ a b (by omega) (by omega) ha.1 ha.2
   have f0:∀(b3 b6:ah),b3.fArgs=args->b3.bL=r->Ke (DL n) (Cj (DL n) n) n a b b3 b6=some ⟨b3.bh,b3.eP,b3.cq,j2 (fw a b) r,iV (fw a b) args⟩:=by
    intro b3 b6 hb3 hr5;unfold Ke j2;rw[hr5];split
    ·rename_i hk;rw[hF r qq.2 (by simpa using hk),au]
     exact fin _ _ hb3
    ·rw[<-hr5];exact fin b3 _ hb3
   split
   ·rename_i hk;rw[hF l qq.1 (by simpa using hk),au,f0 _ _ rfl rfl]
    unfold j2;rw[aH hk]
   ·rename_i hk;rw[f0 _ _ rfl rfl,vT (o:=l) (by simpa using hk)]
  ·have cZ:(op==3)=false:=by simpa using h3
   rw[cZ] at qq ⊢;simp at qq;simp only[aC,aA];rw[fin _ _ rfl,vT qq.1,vT qq.2]
def gC {n:Nat} (h:i<n):eW n (i:Int)=some i:=by
 unfold eW;rw[aH ⟨by omega,by omega⟩];rfl
def dx {xs:List J} (x:J) (h:i<xs.length):setAt xs i x=some (xs.set i x):=by
 unfold setAt;rw[aH h]
def fk {J:Type} (f:J->J) (l:List J) (j:Nat):List J:=(l.take j).map f++l.drop j
def kE (f:J->J) (l:List J) (j:Nat):(fk f l j).length=l.length:=by
 simp[fk];omega
def wx (f:J->J) (l:List J):fk f l 0=l:=by simp[fk]
def rD (f:J->J) (l:List J) {j:Nat} (h:l.length<=j):fk f l j=l.map f:=by
 simp[fk,kq h,pr h]
def l3 (f:J->J) {l:List J} {j:Nat} {x:J} (h:l[j]? =some x):(fk f l j)[j]? =some x:=by
 have hl:=(bY.1 h).1;unfold fk;rw[nf (by simp;omega),nS,dR,fB (by omega),nT,fa]
 exact h
def rC (f:J->J) {l:List J} {j:Nat} {x:J} (h:l[j]? =some x):(fk f l j).set j (f x)=fk f l (j+1):=by
 have hl:=(bY.1 h).1;unfold fk;rw[xw _ _ (by simp;omega),nS,dR,fB (by omega),nT,vC,h,qJ hl,List.set_cons_zero]
 have:l[j]=x:=by rw[dI hl] at h;exact kV h
 simp
def gP (f:Int->Int) (r:bk):bk:=⟨r.ae.map f,r.aG⟩
def sJ (f:Int->Int) (T:aj):aj:=⟨T.av,T.ae,T.aw,T.af.map (gP f),T.ak.map (l4 f)⟩
structure yw (r:bk):Prop where
 len:r.ae.length<=1000
 rng:∀c∈r.ae,l6 c
structure TOK (N:Int) (T:aj):Prop where
 cols:T.ae.length<=1000
 refs:T.af.length<=1000
 ref:∀r∈T.af,yw r
 zI:T.ak.length<=1000
 jD:∀p∈T.ak,pS N p=true/\fG p<=1000
def rl {l:List J} {x:J} (h:l[i]? =some x):l.take i++ [x]=l.take (i+1):=by rw[vC,h];rfl
def Xb (k:aj->aj->cN->cB->Option aj) (rs:cB) (hl:rs.length<=1000) (hr:∀r∈rs,yw r) (b6:cN):∀(x:cB) (i m:Nat) (b1 b2:aj),rs.drop i=x->x.length<m->
  Fv k m rs (rs.length:Int) (i:Int) b1 b2 b6 (rs.take i)=k (aj.mk b1.av b6 b1.aw b1.af b1.ak) (aj.mk b2.av [] b2.aw [] []) b6 rs
 | [],i,m+1,b1,b2,hd,hm=>by
  have hi:rs.length<=i:=by simpa using hd
  have hq:¬((i:Int)<(rs.length:Int)):=by omega
  simp only[Fv,Sa,hq,aX,aC,aA,kq hi]
 |r::x,i,m+1,b1,b2,hd,hm=>by
  let ⟨g1,g2,g3,hq⟩:=gdr hd
  have jB:=hr r (cT g1);have ih:=Xb k rs hl hr b6 x (i+1) m (aj.mk b1.av b6 b1.aw b1.af b1.ak) (aj.mk b2.av [] b2.aw [] []) g2 (by simp at hm;omega)
  have e1:(rs.take i).length=i:=by simp;omega
  simp only[Fv,Sa,hq,aU,aB,bM,g1,au,dL [] r.ae (by have:=jB.len;simp;omega),jW,dL (rs.take i) [r] (by simp;omega),rl g1,cf g3 (by omega)]
  rw[e1,dx _ (by simp;omega),au]
  have e2:(rs.take (i+1)).set i r=rs.take (i+1):=by
   rw[<-rl g1,xw _ _ (by omega)]
   simp[e1]
  rw[e2];exact ih
 |_,_,0,_,_,_,hm=>by simp at hm
def VV (n:Nat) (T:aj) (hT:T.ae.length<=1000/\T.af.length<=1000/\T.ak.length<=1000) (hr:∀r∈T.af,yw r) (hn:2000<n):adZ n T=some T:=by
 unfold adZ afj;rw[dL _ _ (by simp;omega),au,jW]
 refine (Xb (R9 n) T.af hT.2.1 hr T.ae T.af 0 n _ _ rfl (by omega)).trans ?_
 unfold R9;rw[dL _ _ (by simp;omega)]
 rfl
def ada (k:aj->aj->aj->cN->cB->Option aj) (rs:cB) (hl:rs.length<=1000) (hr:∀r∈rs,yw r) (b1:aj) (bR:cN):∀(x:cB) (i m:Nat) (b2 b3:aj),rs.drop i=x->x.length<m->
  Me k m rs (rs.length:Int) (i:Int) b1 b2 b3 bR (rs.take i)=k b1 (aj.mk b2.av [] b2.aw [] []) (aj.mk b3.av bR b3.aw rs []) bR rs
 | [],i,m+1,b2,b3,hd,hm=>by
  have hi:rs.length<=i:=by simpa using hd
  have hq:¬((i:Int)<(rs.length:Int)):=by omega
  simp only[Me,X0,hq,aX,aC,aA,kq hi]
 |r::x,i,m+1,b2,b3,hd,hm=>by
  let ⟨g1,g2,g3,hq⟩:=gdr hd
  have jB:=hr r (cT g1);have ih:=ada k rs hl hr b1 bR x (i+1) m (aj.mk b2.av [] b2.aw [] []) (aj.mk b3.av bR b3.aw (rs.take (i+1)) []) g2 (by simp at hm;omega)
  have e1:(rs.take i).length=i:=by simp;omega
  simp only[Me,X0,hq,aU,aB,bM,g1,au,dL [] r.ae (by have:=jB.len;simp;omega),jW,dL (rs.take i) [r] (by simp;omega),rl g1,cf g3 (by omega)]
  rw[e1,dx _ (by simp;omega),au]
  have e2:(rs.take (i+1)).set i r=rs.take (i+1):=by
   rw[<-rl g1,xw _ _ (by omega)]
   simp[e1]
  rw[e2];exact ih
 |_,_,0,_,_,_,hm=>by simp at hm
def acZ (k:aj->aj->cN->bO->cB->Option aj) (ps:bO) (hl:ps.length<=1000) (hp:∀p∈ps,fG p<=1000) (bR:cN) (rs:cB):∀(x:bO) (i m:Nat) (b2 b3:aj),ps.drop i=x->x.length+1000<m->
  Mc k m ps (ps.length:Int) (i:Int) b2 b3 bR (ps.take i) rs=k (aj.mk b2.av [] b2.aw [] []) (aj.mk b3.av bR b3.aw rs ps) bR ps rs
 | [],i,m+1,b2,b3,hd,hm=>by
  have hi:ps.length<=i:=by simpa using hd
  have hq:¬((i:Int)<(ps.length:Int)):=by omega
  simp only[Mc,XZ,hq,aX,aC,aA,kq hi]
 |p::x,i,m+1,b2,b3,hd,hm=>by
  let ⟨g1,g2,g3,hq⟩:=gdr hd
  have yV:=hp p (cT g1);simp at hm;have ih:=acZ k ps hl hp bR rs x (i+1) m (aj.mk b2.av [] b2.aw [] []) (aj.mk b3.av bR b3.aw rs (ps.take (i+1))) g2 (by omega)
  simp only[Mc,XZ,hq,aU,aB,bM,g1,au,ajr m p (by omega) (by omega),dL (ps.take i) [p] (by simp;omega),rl g1,cf g3 (by omega)]
  exact ih
 |_,_,0,_,_,_,hm=>by simp at hm
def asu (n:Nat) (T:aj) (hT:T.ae.length<=1000/\T.af.length<=1000/\T.ak.length<=1000) (hr:∀r∈T.af,yw r) (hp:∀p∈T.ak,fG p<=1000) (hn:4000<n):F96 n T=some T:=by
 unfold F96 anl;rw[dL _ _ (by simp;omega),au,jW]
 refine (ada (XY n) T.af hT.2.1 hr T T.ae T.af 0 n _ _ rfl (by omega)).trans ?_
 unfold XY;refine (acZ (anm n) T.ak hT.2.2 hp T.ae T.af T.ak 0 n _ _ rfl (by omega)).trans ?_
 rfl
structure DM (T:aj):Prop where
 len:T.ae.length<=1000/\T.af.length<=1000/\T.ak.length<=1000
 ref:∀r∈T.af,yw r
 jD:∀p∈T.ak,fG p<=1000
def ado (k:ag->ag->bn->Option ag) (ts:bn) (hl:ts.length<=1000) (ht:∀T∈ts,DM T):∀(x:bn) (i m:Nat) (b2 b3:ag),ts.drop i=x->x.length+4000<m->
  Mq k m ts (ts.length:Int) (i:Int) b2 b3 (ts.take i)=k (ag.mk b2.ax []) (ag.mk b3.ax ts) ts
 | [],i,m+1,b2,b3,hd,hm=>by
  have hi:ts.length<=i:=by simpa using hd
  have hq:¬((i:Int)<(ts.length:Int)):=by omega
  simp only[Mq,Yw,hq,aX,aC,aA,kq hi]
 |T::x,i,m+1,b2,b3,hd,hm=>by
  let ⟨g1,g2,g3,hq⟩:=gdr hd
  have hT:=ht T (cT g1);simp at hm;have ih:=ado k ts hl ht x (i+1) m (ag.mk b2.ax []) (ag.mk b3.ax (ts.take (i+1))) g2 (by omega)
  have e1:(ts.take i).length=i:=by simp;omega
  simp only[Mq,Yw,hq,aU,aB,bM,g1,au,asu m T hT.len hT.ref hT.jD (by omega),dL (ts.take i) [T] (by simp;omega),rl g1,cf g3 (by omega)]
  rw[e1,dx _ (by simp;omega),au]
  have e2:(ts.take (i+1)).set i T=ts.take (i+1):=by
   rw[<-rl g1,xw _ _ (by omega)]
   simp[e1]
  rw[e2];exact ih
 |_,_,0,_,_,_,hm=>by simp at hm
def asy (n:Nat) (s:ag) (hl:s.ai.length<=1000) (ht:∀T∈s.ai,DM T) (hn:6000<n):F41 n s=some s:=by
 unfold F41 anK;exact ado (anL n) s.ai hl ht s.ai 0 n _ _ rfl (by omega)
def W6 (k:Int->Int->Int->Int->cN->bO->aj->aj->cB->Option (aj×cN×cB×bO)) (a b:Int) (ha:l6 a) (cols:aK) (hl:cols.length<=1000) (hc:∀c∈cols,l6 c) (t13 t14:Int) (cs:cN) (ch:bO) (refs:cB) (ri:Nat):∀(x:aK) (j m:Nat) (b3 b6:aj) (b8 rr:bk),cols.drop j=x->x.length<m->
  Fs k m a b t13 t14 (cols.length:Int) (j:Int) cs ch b3 b6 b8 (fk (fw a b) cols j) refs rr ri=((setAt refs ri (bk.mk (cols.map (fw a b)) rr.aG)).bind λz2=>k a b t13 t14 cs ch (aj.mk b3.av cs b3.aw z2 ch) (aj.mk b6.av [] b6.aw [] []) z2)
 | [],j,m+1,b3,b6,b8,rr,hd,hm=>by
  have hi:cols.length<=j:=by simpa using hd
  have hq:¬((j:Int)<(cols.length:Int)):=by omega
  simp only[Fs,RY,hq,aX,aC,aA,rD _ _ hi]
 |c::x,j,m+1,b3,b6,b8,rr,hd,hm=>by
  let ⟨g1,g2,g3,hq⟩:=gdr hd
  have sZ:=hc c (cT g1);have ih:=W6 k a b ha cols hl hc t13 t14 cs ch refs ri x (j+1) m (aj.mk b3.av cs b3.aw refs ch) (aj.mk b6.av [] b6.aw [] []) (bk.mk (fk (fw a b) cols (j+1)) b8.aG) (bk.mk [] rr.aG) g2 (by simp at hm;omega)
  have hb:eW (fk (fw a b) cols j).length (j:Int)=some j:=gC (by rw[kE];exact g3)
  simp only[Fs,RY,hq,aU,aB,hb,au,cA,l3 _ g1,ME m c a b sZ.1 sZ.2 ha.1 ha.2,dx _ (show j<(fk (fw a b) cols j).length by rw[kE];exact g3),rC _ g1,cf g3 (by omega)]
  exact ih
 |_,_,0,_,_,_,_,_,hm=>by simp at hm
def W5 (k:Int->Int->cN->bO->aj->aj->cB->Option (aj×cN×cB×bO)) (a b:Int) (ha:l6 a) (rs:cB) (hl:rs.length<=1000) (hr:∀r∈rs,yw r) (cs:cN) (ch:bO):∀(x:cB) (i m:Nat) (b3 b6:aj),rs.drop i=x->x.length+1000<m->
  B7 k m a b (rs.length:Int) (i:Int) cs ch b3 b6 (fk (gP (fw a b)) rs i)=k a b cs ch (aj.mk b3.av cs b3.aw (rs.map (gP (fw a b))) ch) (aj.mk b6.av [] b6.aw [] []) (rs.map (gP (fw a b)))
 | [],i,m+1,b3,b6,hd,hm=>by
  have hi:rs.length<=i:=by simpa using hd
  have hq:¬((i:Int)<(rs.length:Int)):=by omega
  simp only[B7,RW,hq,aX,aC,aA,rD _ _ hi]
 |r::x,i,m+1,b3,b6,hd,hm=>by
  let ⟨g1,g2,g3,hq⟩:=gdr hd
  have jB:=hr r (cT g1);simp at hm;have ih:=W5 k a b ha rs hl hr cs ch x (i+1) m (aj.mk b3.av cs b3.aw (fk (gP (fw a b)) rs (i+1)) ch) (aj.mk b6.av [] b6.aw [] []) g2 (by omega)
  have hb:eW (fk (gP (fw a b)) rs i).length (i:Int)=some i:=gC (by rw[kE];exact g3)
  have inner:=W6 (RX (B7 k m) m) a b ha r.ae jB.len jB.rng (rs.length:Int) (i:Int) cs ch (fk (gP (fw a b)) rs i) i r.ae 0 m (aj.mk b3.av cs b3.aw (fk (gP (fw a b)) rs i) ch) (aj.mk b6.av [] b6.aw [] []) r (bk.mk [] r.aG) rfl (by have:=jB.len;omega)
  rw[wx,dx _ (show i<(fk (gP (fw a b)) rs i).length by rw[kE];exact g3),au] at inner
  have e:(fk (gP (fw a b)) rs i).set i (bk.mk (r.ae.map (fw a b)) r.aG)=fk (gP (fw a b)) rs (i+1):=rC (gP (fw a b)) g1;rw[show (bk.mk ([]:aK) r.aG).aG=r.aG from rfl,e] at inner;simp only[B7,RW,hq,aU,aB,hb,au,cA,l3 _ g1];refine inner.trans ?_;simp only[RX,cf g3 (by omega:rs.length<4294967296)]
  exact ih
 |_,_,0,_,_,_,hm=>by simp at hm
def W4 (k:cN->bO->aj->aj->cB->Option (aj×cN×cB×bO)) (N:Int) (hN:N<=1000) (a b:Int) (ha:l6 a) (ps:bO) (hl:ps.length<=1000) (hp:∀p∈ps,pS N p=true/\fG p<=1000) (cs:cN) (refs:cB):∀(x:bO) (i m:Nat) (b3 b6:aj),ps.drop i=x->x.length+1000<m->
  Fq k m a b (ps.length:Int) (i:Int) cs (fk (l4 (fw a b)) ps i) b3 b6 refs=k cs (ps.map (l4 (fw a b))) (aj.mk b3.av cs b3.aw refs (ps.map (l4 (fw a b)))) (aj.mk b6.av [] b6.aw [] []) refs
 | [],i,m+1,b3,b6,hd,hm=>by
  have hi:ps.length<=i:=by simpa using hd
  have hq:¬((i:Int)<(ps.length:Int)):=by omega
  simp only[Fq,RV,hq,aX,aC,aA,rD _ _ hi]
 |p::x,i,m+1,b3,b6,hd,hm=>by
  let ⟨g1,g2,g3,hq⟩:=gdr hd
  have yV:=hp p (cT g1);simp at hm;have ih:=W4 k N hN a b ha ps hl hp cs refs x (i+1) m (aj.mk b3.av cs b3.aw refs (fk (l4 (fw a b)) ps (i+1))) (aj.mk b6.av [] b6.aw [] []) g2 (by omega)
  have hb:eW (fk (l4 (fw a b)) ps i).length (i:Int)=some i:=gC (by rw[kE];exact g3)
  simp only[Fq,RV,hq,aU,aB,hb,au,cA,l3 _ g1,ajg N hN a b ha m p (by omega) (by omega) yV.1,dx _ (show i<(fk (l4 (fw a b)) ps i).length by rw[kE];exact g3),rC _ g1,cf g3 (by omega)]
  exact ih
 |_,_,0,_,_,_,hm=>by simp at hm
def MA (n:Nat) (T:aj) (N:Int) (hN:N<=1000) (hT:TOK N T) (a b:Int) (ha:l6 a) (hn:3000<n):adX n T a b=some (sJ (fw a b) T,T.ae,T.af.map (gP (fw a b)),T.ak.map (l4 (fw a b))):=by
 unfold adX aff;have h1:=W5 (RU n) a b ha T.af hT.refs hT.ref T.ae T.ak T.af 0 n T (aj.mk ByteArray.empty [] 0 [] []) rfl (by have:=hT.refs;omega)
 rw[wx] at h1;refine h1.trans ?_;unfold RU;have h2:=W4 (afg n) N hN a b ha T.ak hT.zI hT.jD T.ae (T.af.map (gP (fw a b))) T.ak 0 n (aj.mk T.av T.ae T.aw (T.af.map (gP (fw a b))) T.ak) (aj.mk ByteArray.empty [] 0 [] []) rfl (by have:=hT.zI;omega)
 rw[wx] at h2;exact h2
def WR (k:Nat->Int->Int->aF->bn->aj->cB->Option aF) (m0:aE) (eT:m0.bh=2\/m0.bh=3) (ha:l6 m0.aN) (cols:aK) (hl:cols.length<=1000) (hc:∀c∈cols,l6 c) (jw:Nat) (t17 t18:Int) (ts:bn) (refs:cB) (ri:Nat):∀(x:aK) (j m:Nat) (v:Int) (tt:bn) (b5 rr:bk) (tr:aj),cols.drop j=x->x.length<m->
  Fa k m jw t17 t18 (cols.length:Int) (j:Int) (aF.mk (ag.mk v tt) m0) b5 (fk (j7 m0) cols j) ts tr refs rr ri=((setAt refs ri (bk.mk (cols.map (j7 m0)) rr.aG)).bind λz2=>k jw t17 t18 (aF.mk (ag.mk v ts) m0) ts (aj.mk tr.av tr.ae tr.aw [] tr.ak) z2)
 | [],j,m+1,v,tt,b5,rr,tr,hd,hm=>by
  have hi:cols.length<=j:=by simpa using hd
  have hq:¬((j:Int)<(cols.length:Int)):=by omega
  simp only[Fa,Rk,hq,aX,aC,aA,rD _ _ hi]
 |c::x,j,m+1,v,tt,b5,rr,tr,hd,hm=>by
  let ⟨g1,g2,g3,hq⟩:=gdr hd
  have sZ:=hc c (cT g1);have ih:=WR k m0 eT ha cols hl hc jw t17 t18 ts refs ri x (j+1) m v ts (bk.mk (fk (j7 m0) cols (j+1)) b5.aG) (bk.mk [] rr.aG) (aj.mk tr.av tr.ae tr.aw [] tr.ak) g2 (by simp at hm;omega)
  have hb:eW (fk (j7 m0) cols j).length (j:Int)=some j:=gC (by rw[kE];exact g3)
  have e1:=aja m c (aF.mk (ag.mk v ts) m0) eT sZ ha;simp only[Fa,Rk,hq,aU,aB,hb,au,cA,l3 _ g1,e1,dx _ (show j<(fk (j7 m0) cols j).length by rw[kE];exact g3),rC _ g1,cf g3 (by omega)]
  exact ih
 |_,_,0,_,_,_,_,_,_,hm=>by simp at hm
def WQ (k:Nat->aF->bn->Option aF) (m0:aE) (eT:m0.bh=2\/m0.bh=3) (ha:l6 m0.aN) (rs:cB) (hl:rs.length<=1000) (hr:∀r∈rs,yw r) (jw:Nat) (ts:bn):∀(x:cB) (i m:Nat) (v:Int) (tt:bn) (tr:aj),rs.drop i=x->x.length+1000<m->
  B1 k m jw (rs.length:Int) (i:Int) (aF.mk (ag.mk v tt) m0) ts tr (fk (gP (j7 m0)) rs i)=((setAt ts jw (aj.mk tr.av tr.ae tr.aw (rs.map (gP (j7 m0))) tr.ak)).bind λz=>k jw (aF.mk (ag.mk v z) m0) z)
 | [],i,m+1,v,tt,tr,hd,hm=>by
  have hi:rs.length<=i:=by simpa using hd
  have hq:¬((i:Int)<(rs.length:Int)):=by omega
  simp only[B1,Ri,hq,aX,aC,aA,rD _ _ hi]
 |r::x,i,m+1,v,tt,tr,hd,hm=>by
  let ⟨g1,g2,g3,hq⟩:=gdr hd
  have jB:=hr r (cT g1);simp at hm;have ih:=WQ k m0 eT ha rs hl hr jw ts x (i+1) m v ts (aj.mk tr.av tr.ae tr.aw [] tr.ak) g2 (by omega)
  have hb:eW (fk (gP (j7 m0)) rs i).length (i:Int)=some i:=gC (by rw[kE];exact g3)
  have inner:=WR (Rj (B1 k m) m) m0 eT ha r.ae jB.len jB.rng jw (rs.length:Int) (i:Int) ts (fk (gP (j7 m0)) rs i) i r.ae 0 m v ts r (bk.mk [] r.aG) (aj.mk tr.av tr.ae tr.aw [] tr.ak) rfl (by have:=jB.len;omega)
  rw[wx,dx _ (show i<(fk (gP (j7 m0)) rs i).length by rw[kE];exact g3),au] at inner
  have e:(fk (gP (j7 m0)) rs i).set i (bk.mk (r.ae.map (j7 m0)) r.aG)=fk (gP (j7 m0)) rs (i+1):=rC (gP (j7 m0)) g1;rw[show (bk.mk ([]:aK) r.aG).aG=r.aG from rfl,e] at inner;simp only[B1,Ri,hq,aU,aB,hb,au,cA,l3 _ g1];refine inner.trans ?_;simp only[Rj,cf g3 (by omega:rs.length<4294967296)]
  exact ih
 |_,_,0,_,_,_,_,hm=>by simp at hm
def WO (N:Int) (hN:N<=1000) (m0:aE) (eT:m0.bh=2\/m0.bh=3) (ha:l6 m0.aN) (ps:bO) (hl:ps.length<=1000) (hp:∀p∈ps,pS N p=true/\fG p<=1000) (jw:Nat) (ts:bn):∀(x:bO) (i m:Nat) (v:Int) (tt:bn) (tr:aj),ps.drop i=x->x.length+1000<m->
  E9 m jw (ps.length:Int) (i:Int) (aF.mk (ag.mk v tt) m0) (fk (l4 (j7 m0)) ps i) ts tr=((setAt ts jw (aj.mk tr.av tr.ae tr.aw tr.af (ps.map (l4 (j7 m0))))).bind λz=>some (aF.mk (ag.mk v z) m0))
 | [],i,m+1,v,tt,tr,hd,hm=>by
  have hi:ps.length<=i:=by simpa using hd
  have hq:¬((i:Int)<(ps.length:Int)):=by omega
  simp only[E9,Rh,hq,aX,aC,aA,rD _ _ hi]
 |p::x,i,m+1,v,tt,tr,hd,hm=>by
  let ⟨g1,g2,g3,hq⟩:=gdr hd
  have yV:=hp p (cT g1);simp at hm;have ih:=WO N hN m0 eT ha ps hl hp jw ts x (i+1) m v ts (aj.mk tr.av tr.ae tr.aw tr.af []) g2 (by omega)
  have hb:eW (fk (l4 (j7 m0)) ps i).length (i:Int)=some i:=gC (by rw[kE];exact g3)
  have e1:=aeb N hN (aF.mk (ag.mk v ts) m0) eT ha m p (by omega) (by omega) yV.1
  simp only[E9,Rh,hq,aU,aB,hb,au,cA,l3 _ g1,e1,dx _ (show i<(fk (l4 (j7 m0)) ps i).length by rw[kE];exact g3),rC _ g1,cf g3 (by omega)]
  exact ih
 |_,_,0,_,_,_,_,hm=>by simp at hm
def aje (n:Nat) (v:Int) (ts:bn) (m0:aE) (j:Nat) (T:aj) (hj:m0.aG=(j:Int)) (hT:ts[j]? =some T) (eT:m0.bh=2\/m0.bh=3) (ha:l6 m0.aN) (N:Int) (hN:N<=1000) (ht:TOK N T) (hn:3000<n):
  adF n (aF.mk (ag.mk v ts) m0)=some (aF.mk (ag.mk v (ts.set j (sJ (j7 m0) T))) m0):=by
 have hl:=(bY.1 hT).1;have e1:Cg n (aF.mk (ag.mk v ts) m0)=some j:=by
  unfold Cg Rp;simp only[hj,gC hl,au,cA]
 unfold adF aey;rw[e1,au];simp only[hT,au];have h1:=WQ (Rg n) m0 eT ha T.af ht.refs ht.ref j ts T.af 0 n v ts (aj.mk T.av T.ae T.aw [] T.ak) rfl (by have:=ht.refs;omega)
 rw[wx,dx _ hl,au] at h1;refine h1.trans ?_;unfold Rg;rw[pw hl,au];have EK:j<(ts.set j (aj.mk T.av T.ae T.aw (T.af.map (gP (j7 m0))) T.ak)).length:=by simpa using hl
 have h2:=WO N hN m0 eT ha T.ak ht.zI ht.jD j (ts.set j (aj.mk T.av T.ae T.aw (T.af.map (gP (j7 m0))) T.ak)) T.ak 0 n v (ts.set j (aj.mk T.av T.ae T.aw (T.af.map (gP (j7 m0))) T.ak)) (aj.mk T.av T.ae T.aw (T.af.map (gP (j7 m0))) []) rfl (by have:=ht.zI;omega)
 rw[wx,dx _ EK,au,vD] at h2;exact h2
def oS (x:Int) (o:aT):Bool:=o.ay==1&&o.cQ==x
mutual
def oQ (x:Int):ah->Bool
 |⟨op,_,l,r,args⟩=>(op==3&&(oS x l||oS x r))||pU x args
def pU (x:Int):bO->Bool
 | []=>false
 |p::ps=>oQ x p||pU x ps
end
def kj (l:aK) (q:Int->Bool) (sz:Nat) (r:aK):Prop:=(∀x,0<=x->(x∈r↔x∈l\/q x=true))/\r.length<=l.length+sz
def kj.refl (l:aK) {q:Int->Bool} (h:∀x,0<=x->q x=false) (sz:Nat):kj l q sz l:=⟨λx hx=>by simp[h x hx],by omega⟩
def kj.trans {a b c:aK} {q':Int->Bool} {s s':Nat} (h:kj a q s b) (k:kj b q' s' c):kj a (λx=>q x||q' x) (s+s') c:=
 ⟨λx hx=>by rw[k.1 x hx,h.1 x hx];simp[or_assoc],by have:=h.2;have:=k.2;omega⟩
def kj.mono {a b:aK} {q':Int->Bool} {s s':Nat} (h:kj a q s b) (hq:∀x,q x=q' x) (hs:s<=s'):kj a q' s' b:=
 ⟨λx hx=>by rw[h.1 x hx,hq],by have:=h.2;omega⟩
def aFw {xs:List J} {j:Nat} (h:j<=xs.length):cut xs none (some (j:Int))=some (xs.take j):=by
 unfold cut;simp[h]
def N6 {xs:List J} {j:Nat} (h:j<=xs.length):cut xs (some (j:Int)) none=some (xs.drop j):=by
 unfold cut;simp[h]
def WN (k:aK->Int->Int->Option aK) (l:aK) (c:Int) (hl:l.length<=900000):∀(x:aK) (i m:Nat),l.drop i=x->x.length<m->i<=l.length->∃j:Nat,j<=l.length/\B0 k m l c (i:Int)=k l c (j:Int)
 | [],i,m+1,hd,hm,hi=>by
  have:l.length<=i:=by simpa using hd
  have hq:¬((i:Int)<(l.length:Int)):=by omega
  exact ⟨i,hi,by simp only[B0,Kb,hq,aX,aC,aA]⟩
 |y::x,i,m+1,hd,hm,hi=>by
  let ⟨g1,g2,g3,hq⟩:=gdr hd
  by_cases h:y<c
  ·let ⟨j,h1,h2⟩:=WN k l c hl x (i+1) m g2 (by simp at hm;omega) (by omega)
   refine ⟨j,h1,?_⟩;simp only[B0,Kb,hq,aU,aB,bM,g1,au,h,cf g3 (by omega),h2]
  ·exact ⟨i,hi,by simp only[B0,Kb,hq,aU,aB,bM,g1,au,h,aX,aC,aA]⟩
 |_,_,0,_,hm,_=>by simp at hm
def aCN (n:Nat) (l:aK) (c:Int) (hl:l.length<=900000) (hn:l.length<n):Ok (amL n l c) λr=>(∀x,x∈r↔x∈l\/x=c)/\r.length<=l.length+1:=by
 let ⟨j,h1,h2⟩:=WN (Q7 n) l c hl l 0 n rfl (by omega) (by omega)
 have hB:Ok (Ka n l c (j:Int)) λr=>(∀x,x∈r↔x∈l\/x=c)/\r.length<=l.length+1:=by
  unfold Ka;rw[aFw h1,au,dL _ _ (by simp;omega),au,dL _ _ (by simp;omega),au,N6 h1,au,dL _ _ (by simp;omega),au]
  refine Ok.pure ⟨λx=> ?_,by simp;omega⟩
  have e:x∈l↔x∈l.take j\/x∈l.drop j:=by
   conv=>lhs;rw[<-DN j l]
   exact eR
  rw[e];simp only[jW,eR,ez];constructor
  ·rintro ((h|h)|h)
   ·exact .inl (.inl h)
   ·exact .inr h
   ·exact .inl (.inr h)
  ·rintro ((h|h)|h)
   ·exact .inl (.inl h)
   ·exact .inr h
   ·exact .inl (.inr h)
 unfold amL aeo;rw[show (0:Int)=((0:Nat):Int) from rfl,h2];unfold Q7;by_cases hq:(j:Int)<(l.length:Int)
 ·have hj:j<l.length:=by omega
  simp only[hq,aU,aB,bM,dI hj,au];by_cases he:l[j]=c
  ·simp only[he,hY,aB];refine Ok.pure ⟨λx=>⟨.inl,λh=> ?_⟩,by omega⟩
   rcases h with h|rfl
   ·exact h
   ·rw[<-he];exact rS hj
  ·have:(l[j]==c)=false:=by simpa using he
   simp only[this,aC,aA];exact hB
 ·simp only[hq,aX,aC,aA];exact hB
def Ni (s:ah->aK->Option aK) (k:aK->ah->Option aK) (p:ah) (os:td) (t:Nat) (o:aT) (ho:os[t]? =some o) (h2:os.length=2) (m:Nat) (l:aK) (hl:l.length<=800000) (hm:l.length+2<m):
  ∃l',kj l (λx=>oS x o) 1 l'/\uX s k (m+1) l (t:Int) p os=uX s k m l' ((t+1:Nat):Int) p os:=by
 have ht:=(bY.1 ho).1;have hq:(t:Int)<2:=by omega
 have hb:eW os.length (t:Int)=some t:=gC ht;have hw:bl ((t:Int)+1)=((t+1:Nat):Int):=cf ht (by omega)
 by_cases hk:o.ay=1
 ·by_cases hi:o.cQ<0
  ·refine ⟨l,kj.refl l (λx hx=> ?_) 1,?_⟩
   ·simp[oS,hk];omega
   ·simp only[uX,FQ,hq,aU,aB,hb,au,cA,ho,hk,hY,hi,du,aC,aA,hw]
  ·let ⟨r,e,h1,h3⟩:=aCN m l o.cQ (by omega) (by omega)
   refine ⟨r,⟨λx hx=> ?_,h3⟩,?_⟩
   ·rw[h1];simp[oS,hk];constructor
    ·rintro (h|h)
     ·exact .inl h
     ·exact .inr h.symm
    ·rintro (h|h)
     ·exact .inl h
     ·exact .inr h.symm
   ·simp only[uX,FQ,hq,aU,aB,hb,au,cA,ho,hk,hY,hi,aX,hZ,e,hw]
 ·have hkf:(o.ay==1)=false:=by simpa using hk
  refine ⟨l,kj.refl l (λx hx=>by simp[oS,hk]) 1,?_⟩
  simp only[uX,FQ,hq,aU,aB,hb,au,cA,ho,hkf,aC,aA,hw]
def asm (s:ah->aK->Option aK) (k:aK->ah->Option aK) (p:ah) (a b:aT) (m:Nat) (l:aK) (hl:l.length<=700000) (hm:l.length+10<m):
  ∃l',kj l (λx=>oS x a||oS x b) 2 l'/\uX s k m l 0 p [a,b]=k l' p:=by
 obtain ⟨m,rfl⟩:∃q,m=q+3:=⟨m-3,by omega⟩
 let ⟨l1,c1,e1⟩:=Ni s k p [a,b] 0 a rfl rfl (m+2) l (by omega) (by omega)
 have h1:=c1.2;let ⟨l2,c2,e2⟩:=Ni s k p [a,b] 1 b rfl rfl (m+1) l1 (by omega) (by omega)
 refine ⟨l2,c1.trans c2,?_⟩;refine e1.trans (e2.trans ?_);simp only[uX,FQ,show ¬(((1+1:Nat):Int)<2) by omega,aX,aC,aA]
def ajc:∀(n:Nat) (p:ah) (l:aK),l.length+2*fG p+20<=n->l.length+2*fG p<=500000->Ok (DK n p l) (kj l (λx=>oQ x p) (2*fG p))
 |0,_,_,h,_=>by omega
 |n+1,⟨op,c,a,b,args⟩,l,h,hb=>by
  simp only[fG] at h hb ⊢;have hlen:=py args;have loop:∀(xs:bO) (i k:Nat) (l1:aK),args.drop i=xs->xs.length<k->l1.length+2*kM xs+20<=n->l1.length+2*kM xs<=500000->
    Ok (E8 (DK n) (Rb (DK n) n) k l1 (args.length:Int) (i:Int) ⟨op,c,a,b,args⟩) (kj l1 (λx=>pU x xs) (2*kM xs)):=by
   intro xs;induction xs with
   |nil=>
    intro i k l1 hd hk h1 h2;have:args.length<=i:=by simpa using hd
    have hq:¬((i:Int)<(args.length:Int)):=by omega
    cases k with
    |zero=>simp at hk
    |succ k=>
     simp only[E8,Re,hq,aX,aC,aA,Rb];exact Ok.pure (kj.refl _ (λx _=>by simp[pU]) _)
   |cons x xs ih=>
    intro i k l1 hd hk h1 h2;let ⟨g1,g2,g3⟩:=bE hd;have hq:((i:Int)<(args.length:Int)):=by omega
    simp only[kM] at h1 h2;cases k with
    |zero=>simp at hk
    |succ k=>
     simp only[E8,Re,hq,aU,aB,bM,g1,au];refine Ok.bind (ajc n x l1 (by omega) (by omega)) λl2 c2=> ?_
     have EK:=c2.2;rw[cf g3 (by omega:args.length<4294967296)]
     refine (ih (i+1) k l2 g2 (by simp at hk;omega) (by omega) (by omega)).mono λr c3=> ?_
     exact (c2.trans c3).mono (λy=>by simp[pU]) (by simp only[kM];omega)
  have tail:∀l1:aK,l1.length+2*kM args+20<=n->l1.length+2*kM args<=500000->Ok (FP (DK n) n l1 ⟨op,c,a,b,args⟩) (kj l1 (λx=>pU x args) (2*kM args)):=λl1 h1 h2=>by
   unfold FP;exact loop args 0 n l1 rfl (by omega) h1 h2
  unfold DK aes;by_cases h3:op=3
  ·subst h3;simp only[hY,aB];let ⟨l1,c1,e1⟩:=asm (DK n) (FP (DK n) n) ⟨3,c,a,b,args⟩ a b n l (by omega) (by omega)
   have hl1:=c1.2;rw[e1];refine (tail l1 (by omega) (by omega)).mono λr c2=> ?_
   exact (c1.trans c2).mono (λy=>by simp[oQ]) (by omega)
  ·have cZ:(op==3)=false:=by simpa using h3
   simp only[cZ,aC,aA];refine (tail l (by omega) (by omega)).mono λr c2=> ?_
   exact c2.mono (λy=>by simp[oQ,cZ]) (by omega)
def aCQ (n:Nat) (p:ah) (h:2*fG p+20<=n) (hb:2*fG p<=500000):Ok (amQ n p) (kj [] (λx=>oQ x p) (2*fG p)):=by
 unfold amQ aeE;exact Ok.bind (ajc n p [] (by simpa using h) (by simpa using hb)) λr hr=>Ok.pure hr
def Nj (s:aK->ah->Option (aK×aK)) (k:kG->Int->aK->ah->Option (aK×aK)) (n:Nat) (t16:kG) (t:Int) (l:aK) (b3:ah) (o:aT) (hl:l.length<=800000):
  ∃l',kj l (λx=>oS x o) 1 l'/\J9 s k n t16 t l b3 o=k t16 (bl (t+1)) l' b3:=by
 unfold J9;by_cases hk:o.ay=1
 ·by_cases hi:o.cQ<0
  ·refine ⟨l,kj.refl l (λx hx=>by simp[oS,hk];omega) 1,by simp[hk,hi]⟩
  ·refine ⟨l++ [o.cQ],⟨λx hx=> ?_,by simp⟩,?_⟩
   ·simp[oS,hk];constructor
    ·rintro (h|h)
     ·exact .inl h
     ·exact .inr h.symm
    ·rintro (h|h)
     ·exact .inl h
     ·exact .inr h.symm
   ·simp only[hk,hY,aB,hi,aX,hZ,dL l [o.cQ] (by simp;omega),au]
 ·exact ⟨l,kj.refl l (λx hx=>by simp[oS,hk]) 1,by simp[hk]⟩
def asl (s:aK->ah->Option (aK×aK)) (k:aK->ah->Option (aK×aK)) (p:ah) (a b:aT) (m:Nat) (l:aK) (hl:l.length<=700000) (hm:10<m):
  ∃l',kj l (λx=>oS x a||oS x b) 2 l'/\uW s k m (kG.mk a b) 0 l p=k l' p:=by
 obtain ⟨m,rfl⟩:∃q,m=q+3:=⟨m-3,by omega⟩
 let ⟨l1,c1,e1⟩:=Nj s (uW s k (m+2)) (m+2) (kG.mk a b) 0 l p a (by omega)
 have h1:=c1.2;let ⟨l2,c2,e2⟩:=Nj s (uW s k (m+1)) (m+1) (kG.mk a b) 1 l1 p b (by omega)
 refine ⟨l2,c1.trans c2,?_⟩;have s0:uW s k (m+3) (kG.mk a b) 0 l p=uW s k (m+2) (kG.mk a b) 1 l1 p:=e1;have s1:uW s k (m+2) (kG.mk a b) 1 l1 p=uW s k (m+1) (kG.mk a b) 2 l2 p:=e2;rw[s0,s1];rfl
def aiZ:∀(n:Nat) (l:aK) (p:ah),2*fG p+20<=n->l.length+2*fG p<=500000->Ok (DJ n l p) λr=>r.1=r.2/\kj l (λx=>oQ x p) (2*fG p) r.2
 |0,_,_,h,_=>by omega
 |n+1,l,⟨op,c,a,b,args⟩,h,hb=>by
  simp only[fG] at h hb ⊢;have hlen:=py args;have loop:∀(xs:bO) (i k:Nat) (l1:aK),args.drop i=xs->xs.length<k->2*kM xs+20<=n->l1.length+2*kM xs<=500000->
    Ok (E6 (DJ n) (Q3 (DJ n) n) k args (args.length:Int) (i:Int) l1) λr=>r.1=r.2/\kj l1 (λx=>pU x xs) (2*kM xs) r.2:=by
   intro xs;induction xs with
   |nil=>
    intro i k l1 hd hk h1 h2;have:args.length<=i:=by simpa using hd
    have hq:¬((i:Int)<(args.length:Int)):=by omega
    cases k with
    |zero=>simp at hk
    |succ k=>
     simp only[E6,Q4,hq,aX,aC,aA,Q3];exact Ok.pure ⟨rfl,kj.refl _ (λx _=>by simp[pU]) _⟩
   |cons x xs ih=>
    intro i k l1 hd hk h1 h2;let ⟨g1,g2,g3⟩:=bE hd;have hq:((i:Int)<(args.length:Int)):=by omega
    simp only[kM] at h1 h2;cases k with
    |zero=>simp at hk
    |succ k=>
     simp only[E6,Q4,hq,aU,aB,bM,g1,au];refine Ok.bind (aiZ n l1 x (by omega) (by omega)) λl2 ⟨_,c2⟩=> ?_
     have EK:=c2.2;rw[cf g3 (by omega:args.length<4294967296)]
     refine (ih (i+1) k l2.2 g2 (by simp at hk;omega) (by omega) (by omega)).mono λr ⟨c0,c3⟩=> ?_
     exact ⟨c0,(c2.trans c3).mono (λy=>by simp[pU]) (by simp only[kM];omega)⟩
  have tail:∀l1:aK,l1.length+2*kM args<=500000->Ok (FO (DJ n) n l1 ⟨op,c,a,b,args⟩) λr=>r.1=r.2/\kj l1 (λx=>pU x args) (2*kM args) r.2:=λl1 h2=>by
   unfold FO;exact loop args 0 n l1 rfl (by omega) (by omega) h2
  unfold DJ aem;by_cases h3:op=3
  ·subst h3;simp only[hY,aB];let ⟨l1,c1,e1⟩:=asl (DJ n) (FO (DJ n) n) ⟨3,c,a,b,args⟩ a b n l (by omega) (by omega)
   have hl1:=c1.2;rw[e1];refine (tail l1 (by omega)).mono λr ⟨c0,c2⟩=> ?_
   exact ⟨c0,(c1.trans c2).mono (λy=>by simp[oQ]) (by omega)⟩
  ·have cZ:(op==3)=false:=by simpa using h3
   simp only[cZ,aC,aA];refine (tail l (by omega)).mono λr ⟨c0,c2⟩=> ?_
   exact ⟨c0,c2.mono (λy=>by simp[oQ,cZ]) (by omega)⟩
def Kp (k:kG->Int->aK->ah->Option aK) (n:Nat) (t16:kG) (t:Int) (l:aK) (b3:ah) (o:aT) (hl:l.length<=800000):
  ∃l',kj l (λx=>oS x o) 1 l'/\FW k n t16 t l b3 o=k t16 (bl (t+1)) l' b3:=by
 unfold FW;by_cases hk:o.ay=1
 ·by_cases hi:o.cQ<0
  ·refine ⟨l,kj.refl l (λx hx=>by simp[oS,hk];omega) 1,by simp[hk,hi]⟩
  ·refine ⟨l++ [o.cQ],⟨λx hx=> ?_,by simp⟩,?_⟩
   ·simp[oS,hk];constructor
    ·rintro (h|h)
     ·exact .inl h
     ·exact .inr h.symm
    ·rintro (h|h)
     ·exact .inl h
     ·exact .inr h.symm
   ·simp only[hk,hY,aB,hi,aX,hZ,dL l [o.cQ] (by simp;omega),au]
 ·exact ⟨l,kj.refl l (λx hx=>by simp[oS,hk]) 1,by simp[hk]⟩
def amJ (k:aK->ah->Option aK) (p:ah) (a b:aT) (m:Nat) (l:aK) (hl:l.length<=700000) (hm:10<m):
  ∃l',kj l (λx=>oS x a||oS x b) 2 l'/\sH k m (kG.mk a b) 0 l p=k l' p:=by
 obtain ⟨m,rfl⟩:∃q,m=q+3:=⟨m-3,by omega⟩
 let ⟨l1,c1,e1⟩:=Kp (sH k (m+2)) (m+2) (kG.mk a b) 0 l p a (by omega)
 have h1:=c1.2;let ⟨l2,c2,e2⟩:=Kp (sH k (m+1)) (m+1) (kG.mk a b) 1 l1 p b (by omega)
 refine ⟨l2,c1.trans c2,?_⟩;have s0:sH k (m+3) (kG.mk a b) 0 l p=sH k (m+2) (kG.mk a b) 1 l1 p:=e1;have s1:sH k (m+2) (kG.mk a b) 1 l1 p=sH k (m+1) (kG.mk a b) 2 l2 p:=e2;rw[s0,s1];rfl
def awm (n:Nat) (p:ah) (h:4*fG p+60<=n) (hb:2*fG p<=400000):Ok (XV n p) (kj [] (λx=>oQ x p) (2*fG p)):=by
 let ⟨op,c,a,b,args⟩:=p;simp only[fG] at h hb ⊢;have hlen:=py args;have loop:∀(xs:bO) (i k:Nat) (l1:aK),args.drop i=xs->xs.length+2*kM args+20<k->l1.length+2*kM xs<=500000->
   Ok (AS (MR n) k args (args.length:Int) (i:Int) l1) (kj l1 (λx=>pU x xs) (2*kM xs)):=by
  intro xs;induction xs with
  |nil=>
   intro i k l1 hd hk h2;have:args.length<=i:=by simpa using hd
   have hq:¬((i:Int)<(args.length:Int)):=by omega
   cases k with
   |zero=>simp at hk
   |succ k=>
    simp only[AS,MT,hq,aX,aC,aA,MR];exact Ok.pure (kj.refl _ (λx _=>by simp[pU]) _)
  |cons x xs ih=>
   intro i k l1 hd hk h2;let ⟨g1,g2,g3⟩:=bE hd;have hq:((i:Int)<(args.length:Int)):=by omega
   have hx:x∈args:=cT g1;have hs:=su hx;simp only[kM] at h2;cases k with
   |zero=>simp at hk
   |succ k=>
    simp at hk;simp only[AS,MT,hq,aU,aB,bM,g1,au];refine Ok.bind (aiZ k l1 x (by omega) (by omega)) λl2 ⟨_,c2⟩=> ?_
    have EK:=c2.2;rw[cf g3 (by omega:args.length<4294967296)]
    refine (ih (i+1) k l2.2 g2 (by omega) (by omega)).mono λr c3=> ?_
    exact (c2.trans c3).mono (λy=>by simp[pU]) (by simp only[kM];omega)
 have tail:∀(l1:aK) (q:ah),q.fArgs=args->l1.length+2*kM args<=500000->Ok (AW n l1 q) (kj l1 (λx=>pU x args) (2*kM args)):=λl1 q hq h2=>by
  unfold AW;rw[hq];exact loop args 0 n l1 rfl (by omega) h2
 unfold XV V5;by_cases h3:op=3
 ·subst h3;simp only[hY,aB];let ⟨l1,c1,e1⟩:=amJ (AW n) ⟨3,c,a,b,args⟩ a b n [] (by simp) (by omega)
  have hl1:=c1.2;simp at hl1;rw[e1];refine (tail l1 _ rfl (by omega)).mono λr c2=> ?_
  exact (c1.trans c2).mono (λy=>by simp[oQ]) (by omega)
 ·have cZ:(op==3)=false:=by simpa using h3
  simp only[cZ,aC,aA];refine (tail [] _ rfl (by simp;omega)).mono λr c2=> ?_
  exact c2.mono (λy=>by simp[oQ,cZ]) (by omega)
def aiv (z:Int):∀xs:aK,z∈kT xs↔z∈xs
 | []=>Iff.rfl
 | [x]=>Iff.rfl
 |x::y::l=>by
  have ih:=aiv z (y::l);show z∈(if x=y then kT (y::l) else x::kT (y::l))↔_
  split
  ·rename_i e;subst e;rw[ih];simp
  ·rw[cH,ih,cH (a:=z) (b:=x)]
def aCO (n:Nat) (p:ah) (h:4*fG p+60<=n) (hb:2*fG p<=400000):Ok (amN n p) λr=>r.length<=2*fG p/\∀x,0<=x->(x∈r↔oQ x p=true):=by
 unfold amN aeq;refine Ok.bind (awm n p h hb) λl c=> ?_
 have hl:=c.2;simp at hl;have hp:=Aa l;have h1:adL n l=some (lK l):=by unfold adL;rw[aH (by omega)]
 rw[h1,au,show lL (lK l).length l.length=some () by unfold lL;rw[aH hp.length_eq],au]
 have h2:adB n (lK l)=some (kT (lK l),kT (lK l)):=by unfold adB;rw[aH (by rw[hp.length_eq];omega)]
 rw[h2,au];refine Ok.pure ⟨?_,λx hx=> ?_⟩
 ·have:=JK (lK l);rw[hp.length_eq] at this;show (kT (lK l)).length<=_;omega
 ·show x∈kT (lK l)↔_;rw[aiv,hp.mem_iff,c.1 x hx];simp
def qw (c:Int) (rs:cB):Bool:=rs.any λr=>decide (c∈r.ae)
def qx (c:Int) (ps:bO):Bool:=ps.any λp=>oQ c p
def zX (c:Int) (T:aj):Bool:=qw c T.af||qx c T.ak
def Xa (k:Int->cB->Int->Int->aj->Option Bool) (c:Int) (t14:cB) (t15 t16:Int) (T:aj) (cols:aK) (hl:cols.length<=1000):∀(x:aK) (j m:Nat),cols.drop j=x->x.length<m->
  Fu k m c t14 t15 t16 cols (cols.length:Int) (j:Int) T=if c∈x then some true else k c t14 t15 t16 T
 | [],j,m+1,hd,hm=>by
  have hi:cols.length<=j:=by simpa using hd
  have hq:¬((j:Int)<(cols.length:Int)):=by omega
  simp[Fu,R8,hq]
 |y::x,j,m+1,hd,hm=>by
  let ⟨g1,g2,g3,hq⟩:=gdr hd
  have ih:=Xa k c t14 t15 t16 T cols hl x (j+1) m g2 (by simp at hm;omega)
  simp only[Fu,R8,hq,aU,aB,bM,g1,au,cf g3 (by omega),ih]
  by_cases h:y=c
  ·subst h;simp
  ·have h2:¬c=y:=λe=>h e.symm
   simp[h,h2]
 |_,_,0,_,hm=>by simp at hm
def W9 (k:Int->aj->Option Bool) (c:Int) (T:aj) (rs:cB) (hl:rs.length<=1000) (hr:∀r∈rs,yw r):∀(x:cB) (i m:Nat),rs.drop i=x->x.length+1000<m->
  B9 k m c rs (rs.length:Int) (i:Int) T=if qw c x=true then some true else k c T
 | [],i,m+1,hd,hm=>by
  have hi:rs.length<=i:=by simpa using hd
  have hq:¬((i:Int)<(rs.length:Int)):=by omega
  simp[B9,R6,hq,qw]
 |r::x,i,m+1,hd,hm=>by
  let ⟨g1,g2,g3,hq⟩:=gdr hd
  have jB:=hr r (cT g1);simp at hm;have ih:=W9 k c T rs hl hr x (i+1) m g2 (by omega)
  have inner:=Xa (R7 (B9 k m) m) c rs (rs.length:Int) (i:Int) T r.ae jB.len r.ae 0 m rfl (by have:=jB.len;omega)
  simp only[B9,R6,hq,aU,aB,bM,g1,au];refine inner.trans ?_;simp only[R7,cf g3 (by omega:rs.length<4294967296),ih]
  have e:qw c (r::x)=(decide (c∈r.ae)||qw c x):=by simp[qw]
  rw[e];by_cases h:c∈r.ae<;>simp[h]
 |_,_,0,_,hm=>by simp at hm
def W8 (k:Int->bO->Int->Int->Option Bool) (c:Int) (t33:bO) (t34 t35:Int) (cols:aK) (hl:cols.length<=10000):∀(x:aK) (j m:Nat),cols.drop j=x->x.length<m->
  Ft k m c t33 t34 t35 cols (cols.length:Int) (j:Int)=if c∈x then some true else k c t33 t34 t35
 | [],j,m+1,hd,hm=>by
  have hi:cols.length<=j:=by simpa using hd
  have hq:¬((j:Int)<(cols.length:Int)):=by omega
  simp[Ft,R4,hq]
 |y::x,j,m+1,hd,hm=>by
  let ⟨g1,g2,g3,hq⟩:=gdr hd
  have ih:=W8 k c t33 t34 t35 cols hl x (j+1) m g2 (by simp at hm;omega)
  simp only[Ft,R4,hq,aU,aB,bM,g1,au,cf g3 (by omega),ih]
  by_cases h:y=c
  ·subst h;simp
  ·have h2:¬c=y:=λe=>h e.symm
   simp[h,h2]
 |_,_,0,_,hm=>by simp at hm
def W7 (k:Option Bool) (c:Int) (hc:0<=c) (ps:bO) (hl:ps.length<=1000) (hp:∀p∈ps,fG p<=1000):∀(x:bO) (i m:Nat),ps.drop i=x->x.length+10000<m->
  B8 k m c ps (ps.length:Int) (i:Int)=if qx c x=true then some true else k
 | [],i,m+1,hd,hm=>by
  have hi:ps.length<=i:=by simpa using hd
  have hq:¬((i:Int)<(ps.length:Int)):=by omega
  simp[B8,R1,hq,qx]
 |p::x,i,m+1,hd,hm=>by
  let ⟨g1,g2,g3,hq⟩:=gdr hd
  have yV:=hp p (cT g1);simp at hm;have ih:=W7 k c hc ps hl hp x (i+1) m g2 (by omega)
  let ⟨r,e1,c1,c2⟩:=aCQ m p (by omega) (by omega)
  simp at c2;have inner:=W8 (R2 (B8 k m) m) c ps (ps.length:Int) (i:Int) r (by omega) r 0 m rfl (by omega)
  simp only[B8,R1,hq,aU,aB,bM,g1,au,e1];refine inner.trans ?_;simp only[R2,cf g3 (by omega:ps.length<4294967296),ih]
  have e:qx c (p::x)=(oQ c p||qx c x):=by simp[qx]
  have hm:=c1 c hc;simp at hm;rw[e];cases hcp:oQ c p with
  |true=>rw[aH (hm.2 hcp)];simp
  |false=>rw[aL (λh=>by rw[hm.1 h] at hcp;cases hcp)];simp
 |_,_,0,_,hm=>by simp at hm
def MC (n:Nat) (T:aj) (c:Int) (hc:0<=c) (hT:DM T) (hn:20000<n):adY n T c=some (zX c T):=by
 unfold adY afh;have h1:=W9 (RZ n) c T T.af hT.len.2.1 hT.ref T.af 0 n rfl (by have:=hT.len.2.1;omega)
 refine h1.trans ?_;unfold RZ;have h2:=W7 (R0 n) c hc T.ak hT.len.2.2 hT.jD T.ak 0 n rfl (by have:=hT.len.2.2;omega)
 rw[show (0:Int)=((0:Nat):Int) from rfl,h2];unfold zX R0;cases qw c T.af<;>cases qx c T.ak<;>rfl
def WM (v:Int) (l:aK) (hl:l.length<=10000) (n0:Nat):∀(x:aK) (j m:Nat),l.drop j=x->x.length<m->
  Ok (E7 (Q5 n0) m l v (l.length:Int) (j:Int)) λr=>(r<0↔¬v∈x)
 | [],j,m+1,hd,hm=>by
  have hi:l.length<=j:=by simpa using hd
  have hq:¬((j:Int)<(l.length:Int)):=by omega
  simp only[E7,Q6,hq,aX,aC,aA,Q5];exact Ok.pure ⟨λ_=>by simp,λ_=>by omega⟩
 |y::x,j,m+1,hd,hm=>by
  let ⟨g1,g2,g3,hq⟩:=gdr hd
  simp only[E7,Q6,hq,aU,aB,bM,g1,au];by_cases h:v=y
  ·subst h;simp only[hY,aB];exact Ok.pure ⟨λh=>by omega,λh=>absurd jt h⟩
  ·have:(v==y)=false:=by simpa using h
   simp only[this,aC,aA,cf g3 (by omega)]
   refine (WM v l hl n0 x (j+1) m g2 (by simp at hm;omega)).mono λr hr=> ?_
   rw[hr];simp[h]
 |_,_,0,_,hm=>by simp at hm
def ajb (n:Nat) (l:aK) (v:Int) (hl:l.length<=10000) (hn:l.length<n):adC n l v=some (decide (v∈l)):=by
 let ⟨r,e,h⟩:=WM v l hl n l 0 n rfl hn;unfold adC aer awc aen;rw[show (0:Int)=((0:Nat):Int) from rfl,e,au];by_cases hv:v∈l
 ·have:¬r<0:=λhr=>(h.1 hr) hv
  simp[hv,this]
 ·have:r<0:=h.2 hv;simp[hv,this]
def WU (k:aF->aj->Option Bool) (g:aF) (T:aj) (rs:cB) (hl:rs.length<=1000) (hr:∀r∈rs,yw r):∀(x:cB) (i m:Nat),rs.drop i=x->x.length+1000<m->
  Fc k m g T rs (rs.length:Int) (i:Int)=if qw g.fm.aN x=true then some true else k g T
 | [],i,m+1,hd,hm=>by
  have hi:rs.length<=i:=by simpa using hd
  have hq:¬((i:Int)<(rs.length:Int)):=by omega
  simp[Fc,Ro,hq,qw]
 |r::x,i,m+1,hd,hm=>by
  let ⟨g1,g2,g3,hq⟩:=gdr hd
  have jB:=hr r (cT g1);simp at hm;have ih:=WU k g T rs hl hr x (i+1) m g2 (by omega)
  simp only[Fc,Ro,hq,aU,aB,bM,g1,au,ajb m r.ae g.fm.aN (by have:=jB.len;omega) (by have:=jB.len;omega),cf g3 (by omega:rs.length<4294967296),ih]
  have e:qw g.fm.aN (r::x)=(decide (g.fm.aN∈r.ae)||qw g.fm.aN x):=by simp[qw]
  rw[e];by_cases h:g.fm.aN∈r.ae<;>simp[h]
 |_,_,0,_,hm=>by simp at hm
def WT (k:Option Bool) (g:aF) (hc:0<=g.fm.aN) (ps:bO) (hl:ps.length<=1000) (hp:∀p∈ps,fG p<=1000):∀(x:bO) (i m:Nat),ps.drop i=x->x.length+10000<m->
  Fb k m g ps (ps.length:Int) (i:Int)=if qx g.fm.aN x=true then some true else k
 | [],i,m+1,hd,hm=>by
  have hi:ps.length<=i:=by simpa using hd
  have hq:¬((i:Int)<(ps.length:Int)):=by omega
  simp[Fb,Rn,hq,qx]
 |p::x,i,m+1,hd,hm=>by
  let ⟨g1,g2,g3,hq⟩:=gdr hd
  have yV:=hp p (cT g1);simp at hm;have ih:=WT k g hc ps hl hp x (i+1) m g2 (by omega)
  let ⟨r,e1,c2,c1⟩:=aCO m p (by omega) (by omega)
  simp only[Fb,Rn,hq,aU,aB,bM,g1,au,e1,ajb m r g.fm.aN (by omega) (by omega),cf g3 (by omega:ps.length<4294967296),ih]
  have e:qx g.fm.aN (p::x)=(oQ g.fm.aN p||qx g.fm.aN x):=by simp[qx]
  have hm:=c1 g.fm.aN hc;rw[e];cases hcp:oQ g.fm.aN p with
  |true=>simp[hm.2 hcp]
  |false=>
   have:¬g.fm.aN∈r:=λh=>by rw[hm.1 h] at hcp;cases hcp
   simp[this]
 |_,_,0,_,hm=>by simp at hm
def On (n:Nat) (v:Int) (ts:bn) (m0:aE) (j:Nat) (T:aj) (hj:m0.aG=(j:Int)) (hT:ts[j]? =some T):MD n (aF.mk (ag.mk v ts) m0)=some T:=by
 unfold MD V6;simp only[hj,bM,hT,au]
def FJ (n:Nat) (v:Int) (ts:bn) (m0:aE) (j:Nat) (hj:m0.aG=(j:Int)) (hl:j<ts.length):Cg n (aF.mk (ag.mk v ts) m0)=some j:=by
 unfold Cg Rp;simp only[hj,gC hl,au,cA]
def Mz (n:Nat) (v:Int) (ts:bn) (m0:aE) (j:Nat) (T:aj) (hj:m0.aG=(j:Int)) (hT:ts[j]? =some T) (c:Int):Ol n (aF.mk (ag.mk v ts) m0) c=some (decide (T.aw<=c)&&decide (c<(T.ae.length:Int))):=by
 unfold Ol aeA;rw[On n v ts m0 j T hj hT,au];by_cases h:c<T.aw
 ·have:¬T.aw<=c:=by omega
  simp[h,this]
 ·have:T.aw<=c:=by omega
  simp[h,this]
def ajf (n:Nat) (v:Int) (ts:bn) (m0:aE) (j:Nat) (T:aj) (hj:m0.aG=(j:Int)) (hT:ts[j]? =some T) (hc:0<=m0.aN) (ht:DM T) (hn:20000<n):adH n (aF.mk (ag.mk v ts) m0)=some (zX m0.aN T):=by
 unfold adH aez;rw[On n v ts m0 j T hj hT,au];have h1:=WU (Rl n) (aF.mk (ag.mk v ts) m0) T T.af ht.len.2.1 ht.ref T.af 0 n rfl (by have:=ht.len.2.1;omega)
 refine h1.trans ?_;unfold Rl;have h2:=WT (Rm n) (aF.mk (ag.mk v ts) m0) hc T.ak ht.len.2.2 ht.jD T.ak 0 n rfl (by have:=ht.len.2.2;omega)
 rw[show (0:Int)=((0:Nat):Int) from rfl,h2];unfold zX Rm;show (if qw m0.aN T.af=true then _ else if qx m0.aN T.ak=true then _ else _)=_
 cases qw m0.aN T.af<;>cases qx m0.aN T.ak<;>rfl
mutual
def aok:∀p:ah,fG p+1=3*qV p
 |⟨_,_,_,_,args⟩=>by have:=aol args;simp only[fG,qV];omega
def aol:∀xs:bO,kM xs=3*pN xs
 | []=>by simp[kM,pN]
 |x::xs=>by have:=aok x;have:=aol xs;simp only[kM,pN];omega
end
def aBR {p:ah} (h:sI ks [] p=0):fG p<=71/\pV ks [] p=true/\kP ks=true:=by
 unfold sI at h;split at h
 ·cases h
 ·rename_i h0;split at h
  ·cases h
  ·split at h
   ·cases h
   ·rename_i h1;split at h
    ·cases h
    ·rename_i h2;have:=aok p;simp at h0 h1 h2;exact ⟨by omega,h2,h0⟩
def aiD {ks:aK}:∀{ps:bO},rN ks ps=0->∀p∈ps,sI ks [] p=0
 |q::ps,h,p,hp=>by
  unfold rN at h;split at h
  ·rename_i h0;rcases cH.1 hp with rfl|hp
   ·exact h0
   ·exact aiD h p hp
  ·rename_i h0;exact absurd h h0
def aiB:∀{ts:bn},zJ ts=0->∀T∈ts,rN (eA T) T.ak=0
 |G::ts,h,T,hT=>by
  unfold zJ at h;split at h
  ·rename_i h0;rcases cH.1 hT with rfl|hT
   ·exact h0
   ·exact aiB h T hT
  ·rename_i h0;exact absurd h h0
def Pm {tc:cN}:∀{gs:cN} {cs:aK},pA tc gs cs=true->cs.length<=gs.length/\∀c∈cs,0<=c/\c<(tc.length:Int)
 |_,[],_=>⟨by simp,λc hc=>by cases hc⟩
 | [],_::_,h=>by cases h
 |g::gs,c::cs,h=>by
  unfold pA at h;split at h
  ·cases h
  ·rename_i x hx;simp only[bF] at h;let ⟨h1,h2⟩:=Pm h.2;let ⟨i1,i2,_⟩:=Bq hx;refine ⟨by simp;omega,λd hd=> ?_⟩
   rcases cH.1 hd with rfl|hd
   ·exact ⟨i1,by omega⟩
   ·exact h2 d hd
def aaE {s:ag} {T:aj}:∀{rs:cB},sR s T rs=true->∀r∈rs,aaF s T r=true
 |q::rs,h,r,hr=>by
  unfold sR at h;rw[bF] at h;rcases cH.1 hr with rfl|hr
  ·exact h.1
  ·exact aaE h.2 r hr
def QA {s:ag}:∀{ts:bn},allRefs s ts=true->∀T∈ts,sR s T T.af=true
 |G::ts,h,T,hT=>by
  unfold allRefs at h;rw[bF] at h;rcases cH.1 hT with rfl|hT
  ·exact h.1
  ·exact QA h.2 T hT
structure TG (k:Nat) (T:aj):Prop where
 zq:1<=T.aw
 jl:T.aw<=(T.ae.length:Int)
 cols:T.ae.length<=8
 refs:T.af.length<=4
 zI:T.ak.length<=4
 ref:∀r∈T.af,r.ae.length<=8/\(∀c∈r.ae,0<=c/\c<(T.ae.length:Int))/\0<=r.aG/\r.aG<(k:Int)
 jD:∀p∈T.ak,pS (T.ae.length:Int) p=true/\fG p<=71
structure SG (s:ag):Prop where
 len:s.ai.length<=8
 v0:0<=s.ax
 v1:s.ax<=1000
 cy:∀T∈s.ai,TG s.ai.length T
def SG.of {s:ag} (h:gA s=0):SG s:=by
 have hS:=qb h;unfold gA at h;split at h
 ·cases h
 ·rename_i h8;split at h
  ·rename_i hb;rw[iJ] at hb;split at h
   ·cases h
   ·rename_i v0;split at h
    ·cases h
    ·rename_i v1;split at h
     ·rename_i ht;split at h
      ·rename_i hr;refine ⟨by omega,by omega,by omega,λT hT=> ?_⟩
       let ⟨b1,b2,b3⟩:=qg (hb T hT);have t1:=No (λT hT=>(qg (hb T hT)).1) ht T hT
       refine ⟨t1.zq,t1.jl,b1,b2,b3,λr jB=> ?_,λp hp=> ?_⟩
       ·have q:=aaE (QA hr T hT) r jB;unfold aaF at q;split at q
        ·cases q
        ·rename_i G hG;rw[bF] at q;let ⟨c1,c2⟩:=Pm q.2;let ⟨i1,i2,i3⟩:=Bq hG;have:=(qg (hb G (cT i3))).1;exact ⟨by omega,c2,i1,by omega⟩
       ·let ⟨c1,c2,c3⟩:=aBR (aiD (aiB h T hT) p hp);have:=axh c2;rw[show ((eA T).length:Int)=(T.ae.length:Int) by simp[eA]] at this
        exact ⟨this,c1⟩
      ·cases h
     ·cases h
  ·cases h
def TG.cp {k:Nat} {T:aj} (h:TG k T):DM T:=
 ⟨⟨by have:=h.cols;omega,by have:=h.refs;omega,by have:=h.zI;omega⟩,λr hr=>⟨by have:=(h.ref r hr).1;omega,λc hc=>by have:=(h.ref r hr).2.1 c hc;have:=h.cols;exact ⟨by omega,by omega⟩⟩,λp hp=>by have:=(h.jD p hp).2;omega⟩
def TG.tok {k:Nat} {T:aj} (h:TG k T):TOK (T.ae.length:Int) T:=
 ⟨h.cp.len.1,h.cp.len.2.1,h.cp.ref,h.cp.len.2.2,λp hp=>⟨(h.jD p hp).1,by have:=(h.jD p hp).2;omega⟩⟩
def aal {a b i n:Int} (ha:0<=a) (ha':a<n) (hb:0<=b) (mU:b<n) (hi:0<=i) (sW:i<n):0<=fw a b i/\fw a b i<n:=by
 unfold fw;split
 ·omega
 ·split
  ·omega
  ·split
   ·omega
   ·split<;>omega
def UT {a b i n:Int} (ha:0<=a) (ha':a<n) (hb:0<=b) (mU:b<n) (hi:0<=i) (sW:i<n):fw b a (fw a b i)=i:=by
 unfold fw;rw[aL (show ¬b<0 by omega),aL (show ¬a<0 by omega)]
 by_cases h1:i=a
 ·rw[aH h1,aH rfl,h1]
 ·rw[aL h1];by_cases h2:a<b/\a<i/\i<=b
  ·rw[aH h2,aL (by omega),aL (by omega),aH (by omega)];omega
  ·rw[aL h2];by_cases h3:b<a/\b<=i/\i<a
   ·rw[aH h3,aL (by omega),aH (by omega)];omega
   ·rw[aL h3,aL (by omega),aL (by omega),aL (by omega)]
def uJ {J:Type} (C:List J) (a b:Nat):List J:=(C.take a++C.drop (a+1)).take b++C[a]?.toList++(C.take a++C.drop (a+1)).drop b
def aiu {C:List J} (ha:a<C.length) (i:Nat):(C.take a++C.drop (a+1))[i]? =if i<a then C[i]? else C[i+1]? :=by
 rw[qH,dR,fB (by omega)]
 split
 ·rename_i h;rw[eN,aH h]
 ·rename_i h;rw[fa];congr 1;omega
def yc {C:List J} (ha:a<C.length):(C.take a++C.drop (a+1)).length=C.length-1:=by simp;omega
def Lx {C:List J} {b:Nat} (ha:a<C.length) (hb:b<C.length):(uJ C a b).length=C.length:=by
 unfold uJ;have:=yc ha;rw[gO,gO,dR,iX,this,dI ha];simp;omega
def aib {C:List J} {b q:Nat} (ha:a<C.length) (hb:b<C.length) (hq:q<C.length):(uJ C a b)[q]? =C[(fw b a q).toNat]? :=by
 have hd:=yc ha;unfold uJ;rw[dI ha,Kz,qH,gO,dR,hd,fB (by omega),List.length_singleton]
 unfold fw;rw[aL (show ¬((a:Int)<0) by omega)]
 by_cases h1:q<b
 ·rw[aH (by omega),nR (by rw[dR,hd];omega),eN,aH h1,aiu ha,aL (show ¬((q:Int)=(b:Int)) by omega)]
  by_cases h2:q<a
  ·rw[aH h2,aL (by omega),aL (by omega)];congr 1
  ·rw[aL h2,aL (by omega),aH (by omega)];congr 1
 ·by_cases h2:q=b
  ·subst h2;rw[aH (by omega),aH rfl,nf (by rw[dR,hd];omega),dR,hd,fB (by omega),nT,Kx,dI ha]
   rfl
  ·rw[aL (by omega),fa,aiu ha,aL (show ¬((q:Int)=(b:Int)) by omega),show b+(q-(b+1))=q-1 by omega]
   by_cases h3:q-1<a
   ·rw[aH h3,aH (by omega)];congr 1;omega
   ·rw[aL h3,aL (by omega),aL (by omega)];congr 1;omega
def aFf {C X:List J} {b:Nat} (ha:a<C.length) (hb:b<C.length) (hl:X.length=C.length) (hx:∀i:Nat,i<C.length->X[(fw a b i).toNat]? =C[i]?):X=uJ C a b:=by
 refine xv λq=> ?_
 by_cases hq:q<C.length
 ·rw[aib ha hb hq];let ⟨i1,i2⟩:=aal (a:=(b:Int)) (b:=(a:Int)) (i:=(q:Int)) (n:=(C.length:Int)) (by omega) (by omega) (by omega) (by omega) (by omega) (by omega)
  have h:=hx (fw b a q).toNat (by omega)
  rw[SN i1,UT (n:=(C.length:Int)) (by omega) (by omega) (by omega) (by omega) (by omega) (by omega),Kx] at h
  exact h
 ·rw[tQ (by omega),tQ (by rw[Lx ha hb];omega)]
def BT (m:aE):Bool:=yo m.aD&&(m.bf.length==0&&(decide (m.av=ByteArray.empty)&&(m.ay==0&&(m.aG==0&&(m.aN==0&&(m.eL==0&&(decide (m.ar.av=ByteArray.empty)&&(m.ar.ae.length==0&&(m.ar.aw==0&&(m.ar.af.length==0&&m.ar.ak.length==0))))))))))
def zT:aj:=aj.mk ByteArray.empty [] 0 [] []
def OG (m:aE):aE:=
 if m.bh=1 then aE.mk m.bh 0 m.aN m.eL ByteArray.empty 0 zv m.bf m.ar
 else if m.bh=2 then aE.mk m.bh 0 0 m.eL m.av m.ay zv m.bf m.ar
 else if m.bh=3 then aE.mk m.bh 0 0 0 m.av m.ay m.aD m.bf m.ar
 else if m.bh=4 then aE.mk m.bh 0 0 m.eL ByteArray.empty m.ay m.aD m.bf m.ar
 else if m.bh=5 then aE.mk m.bh 0 m.aN m.eL ByteArray.empty m.ay m.aD m.bf m.ar
 else if m.bh=6 then aE.mk m.bh m.aG m.aN m.eL m.av m.ay m.aD m.bf zT
 else if m.bh=7 then aE.mk m.bh 0 m.aN m.eL m.av m.ay m.aD m.bf m.ar
 else aE.mk m.bh 0 0 m.eL m.av m.ay m.aD [] m.ar
def pX (m:aE):Bool:=decide (1<=m.bh)&&(decide (m.bh<=8)&&BT (OG m))
def ma (j:Int) (T:aj):aj:=⟨T.av,T.ae,T.aw,T.af.map λr=>⟨r.ae,fw j (-1) r.aG⟩,T.ak⟩
def Ik (a b:aP):Bool:=(a.ay==b.ay)&&((a.bZ==b.bZ)&&((decide (a.bB=b.bB))&&true))
def wK (v:aP) (l:gu):Nat:=l.countP λq=>Ik q.f0 v
def wJ (v:aP) (l:gu):Nat:=l.countP λq=>Ik q.f1 v
def uH (k:Int) (l:gu):Bool:=decide (1<=l.length)&&(decide (l.length<=16)&&l.all λp=>gB p.f0&&(p.f0.ay==k&&(wK p.f0 l==1&&wJ p.f0 l==1)))
inductive la (s:ag) (m:aE):ag->Prop
 |amo (j:Nat) (T:aj) (h:m.bh=1) (hj:m.aG=(j:Int)) (hT:s.ai[j]? =some T) (hv:gB m.aD=true) (hk:m.aD.ay=m.ay):
   la s m ⟨s.ax+1,s.ai.set j ⟨T.av,T.ae++ [⟨m.av,m.ay⟩],T.aw,T.af,T.ak⟩⟩
 |XL (j c:Nat) (T:aj) (x:cG) (h:m.bh=2) (hj:m.aG=(j:Int)) (hT:s.ai[j]? =some T) (hc:m.aN=(c:Int)) (hx:T.ae[c]? =some x) (hk:T.aw<=(c:Int)) (hv:gB m.aD=true) (xj:m.aD.ay=x.ay) (hu:zX (c:Int) T=false):
   la s m ⟨s.ax+1,s.ai.set j (sJ (fw (c:Int) (-1)) ⟨T.av,T.ae.take c++T.ae.drop (c+1),T.aw,T.af,T.ak⟩)⟩
 |move (j c d:Nat) (T:aj) (h:m.bh=3) (hj:m.aG=(j:Int)) (hT:s.ai[j]? =some T) (hc:m.aN=(c:Int)) (hd:m.eL=(d:Int)) (h1:c<T.ae.length) (h2:d<T.ae.length) (hk:T.aw<=(c:Int)) (xk:T.aw<=(d:Int)):
   la s m ⟨s.ax+1,s.ai.set j (sJ (fw (c:Int) (d:Int)) ⟨T.av,uJ T.ae c d,T.aw,T.af,T.ak⟩)⟩
 |aks (j c:Nat) (T:aj) (x:cG) (h:m.bh=4) (hj:m.aG=(j:Int)) (hT:s.ai[j]? =some T) (hc:m.aN=(c:Int)) (hx:T.ae[c]? =some x):
   la s m ⟨s.ax+1,s.ai.set j ⟨T.av,T.ae.set c ⟨m.av,x.ay⟩,T.aw,T.af,T.ak⟩⟩
 |akp (j:Nat) (T:aj) (h:m.bh=5) (hj:m.aG=(j:Int)) (hT:s.ai[j]? =some T):
   la s m ⟨s.ax+1,s.ai.set j ⟨m.av,T.ae,T.aw,T.af,T.ak⟩⟩
 |amn (h:m.bh=6):la s m ⟨s.ax+1,s.ai++ [m.ar]⟩
 |XK (j:Nat) (T:aj) (h:m.bh=7) (hj:m.aG=(j:Int)) (hT:s.ai[j]? =some T) (hr:∀i U,i≠j->s.ai[i]? =some U->∀r∈U.af,r.aG≠(j:Int)):
   la s m ⟨s.ax+1,(s.ai.take j++s.ai.drop (j+1)).map (ma (j:Int))⟩
 |El (j c:Nat) (T:aj) (x:cG) (h:m.bh=8) (hj:m.aG=(j:Int)) (hT:s.ai[j]? =some T) (hc:m.aN=(c:Int)) (hx:T.ae[c]? =some x) (hk:T.aw<=(c:Int)) (hp:uH x.ay m.bf=true) (hu:zX (c:Int) T=false):
   la s m ⟨s.ax+1,s.ai⟩
def aDc (n:Nat) (m:aE):Ok (VW n m) λr=>r=true->pX m=true:=by
 unfold VW Sb;have key:∀q:aE,Ok (qa n q) λr=>r=true->BT q=true:=λq=>by
  unfold qa;refine Ok.ite (λh1=>Ok.ite (λh2=>Ok.ite (λh3=>Ok.ite (λh4=>Ok.ite (λh5=>Ok.ite (λh6=>Ok.ite (λh7=>Ok.ite (λh8=>Ok.ite (λh9=>Ok.ite (λh10=>Ok.ite (λh11=>Ok.pure λh12=> ?_) ?_) ?_) ?_) ?_) ?_) ?_) ?_) ?_) ?_) ?_) ?_
  ·have h12:((q.ar.ak.length:Int)==0)=true:=h12;have e:∀k:Nat,((k:Int)==0)=(k==0):=λk=>by rw[ly];simp
   rw[e] at h7 h9 h11 h12;have h6':yo q.aD=true:=h6;unfold BT;rw[h1,h2,h3,h4,h5,h6',h7,h8,h9,h10,h11,h12];rfl
  all_goals exact λ_=>Ok.pure λh=>by cases h
 have fin:∀q:aE,1<=m.bh->m.bh<=8->q=OG m->Ok (qa n q) λr=>r=true->pX m=true:=λq h1 h8 hq=>(key q).mono λr hr h=>by
  unfold pX;rw[<-hq,hr h];simp[h1,h8]
 refine Ok.ite (λh=> ?_) λn1=>Ok.ite (λh=> ?_) λn2=>Ok.ite (λh=> ?_) λn3=>Ok.ite (λh=> ?_) λn4=>Ok.ite (λh=> ?_) λn5=>Ok.ite (λh=> ?_) λn6=>Ok.ite (λh=> ?_) λn7=>Ok.ite (λh=> ?_) λn8=>Ok.pure λh=>by cases h
 all_goals (simp at h;refine fin _ (by omega) (by omega) ?_;unfold OG;simp[h,zv,zT])
def aJi (n:Nat) (m:aE) (h:pX m=true):F98 n m=some true:=by
 have key:∀q:aE,BT q=true->wY n q=some true:=λq hq=>by
  unfold BT at hq;simp only[bF,qI,jX] at hq;let ⟨a1,a2,a3,a4,a5,a6,a7,a8,a9,a10,a11,a12⟩:=hq;have a1':((q.aD.ay==0)&&((q.aD.bZ==0)&&((decide (q.aD.bB=ByteArray.empty))&&true)))=true:=a1;unfold wY Hy;simp only[a1',a2,a3,a4,a5,a6,a7,a8,a9,a10,a11,a12];rfl
 unfold pX at h;simp only[bF,jX] at h;let ⟨h1,h8,hb⟩:=h;have hb:=key _ hb;unfold F98 ank;unfold OG at hb;rcases (by omega:m.bh=1\/m.bh=2\/m.bh=3\/m.bh=4\/m.bh=5\/m.bh=6\/m.bh=7\/m.bh=8) with e|e|e|e|e|e|e|e<;>(simp[e,zv,zT] at hb;simp[e,hb])
def W3 (k:gu->Int->Int->Int->gu->Int->Int->Int->Int->jn->Option Bool) (l:gu) (hl:l.length<=16) (l0:gu) (kind:Int) (t19:gu) (t20 t21 t32 t33:Int) (b6:jn):∀(x:gu) (i m f s:Nat),l.drop i=x->x.length<m->f+x.length<=100->s+x.length<=100->
  Fp k m l0 kind (f:Int) (s:Int) t19 t20 t21 t32 t33 l (l.length:Int) (i:Int) b6=k l0 kind ((f+wK b6.f0 x:Nat):Int) ((s+wJ b6.f0 x:Nat):Int) t19 t20 t21 t32 t33 b6
 | [],i,m+1,f,s,hd,hm,_,_=>by
  have hi:l.length<=i:=by simpa using hd
  have hq:¬((i:Int)<(l.length:Int)):=by omega
  simp[Fp,RS,hq,wK,wJ]
 |q::x,i,m+1,f,s,hd,hm,hf,hs=>by
  let ⟨g1,g2,g3,hq⟩:=gdr hd
  simp at hm hf hs;have ih:=λf' s' h1 h2=>W3 k l hl l0 kind t19 t20 t21 t32 t33 b6 x (i+1) m f' s' g2 (by omega) h1 h2
  have w:∀c:Nat,c<=100->bl ((c:Int)+1)=((c+1:Nat):Int):=λc hc=>by rw[dw (by omega) (by omega)];rfl
  have eF:wK b6.f0 (q::x)=wK b6.f0 x+if Ik q.f0 b6.f0=true then 1 else 0:=by simp[wK,List.countP_cons]
  have eS:wJ b6.f0 (q::x)=wJ b6.f0 x+if Ik q.f1 b6.f0=true then 1 else 0:=by simp[wJ,List.countP_cons]
  have e1:(q.f0.ay==b6.f0.ay&&(q.f0.bZ==b6.f0.bZ&&(decide (q.f0.bB=b6.f0.bB)&&true)))=Ik q.f0 b6.f0:=rfl;have e2:(q.f1.ay==b6.f0.ay&&(q.f1.bZ==b6.f0.bZ&&(decide (q.f1.bB=b6.f0.bB)&&true)))=Ik q.f1 b6.f0:=rfl;simp only[Fp,RS,hq,aU,aB,bM,g1,au,e1,RT,e2,cf g3 (by omega),eF,eS]
  cases h1:Ik q.f0 b6.f0<;>cases h2:Ik q.f1 b6.f0
  ·simp only[aC,aA,ng];exact ih f s (by omega) (by omega)
  ·simp only[aC,aA,aB,ng,w s (by omega)]
   refine (ih f (s+1) (by omega) (by omega)).trans ?_
   rw[show s+1+wJ b6.f0 x=s+(wJ b6.f0 x+1) by omega]
  ·simp only[aC,aA,aB,ng,w f (by omega)]
   refine (ih (f+1) s (by omega) (by omega)).trans ?_
   rw[show f+1+wK b6.f0 x=f+(wK b6.f0 x+1) by omega]
  ·simp only[aB,w s (by omega),w f (by omega)]
   refine (ih (f+1) (s+1) (by omega) (by omega)).trans ?_
   rw[show f+1+wK b6.f0 x=f+(wK b6.f0 x+1) by omega,show s+1+wJ b6.f0 x=s+(wJ b6.f0 x+1) by omega]
 |_,_,0,_,_,_,hm,_,_=>by simp at hm
def W0 (n0:Nat) (l:gu) (hl:l.length<=16) (kind:Int):∀(x:gu) (i m:Nat),l.drop i=x->x.length+100<m->
  B6 (Kk n0) m l kind l (l.length:Int) (i:Int)=some (x.all λp=>gB p.f0&&(p.f0.ay==kind&&(wK p.f0 l==1&&wJ p.f0 l==1)))
 | [],i,m+1,hd,hm=>by
  have hi:l.length<=i:=by simpa using hd
  have hq:¬((i:Int)<(l.length:Int)):=by omega
  simp[B6,RQ,hq,Kk]
 |p::x,i,m+1,hd,hm=>by
  let ⟨g1,g2,g3,hq⟩:=gdr hd
  simp at hm;have ih:=W0 n0 l hl kind x (i+1) m g2 (by omega)
  have inner:=W3 (RR (B6 (Kk n0) m) m) l hl l kind l (l.length:Int) (i:Int) p.f0.ay kind p l 0 m 0 0 rfl (by omega) (by omega) (by omega)
  simp only[B6,RQ,hq,aU,aB,bM,g1,au,AU,tO];cases hr:gB p.f0 with
  |false=>simp
  |true=>
   by_cases hk:p.f0.ay=kind
   ·have hk1:(p.f0.ay !=kind)=false:=by simpa using hk
    have xk:(p.f0.ay==kind)=true:=by simpa using hk
    simp only[du,aC,aA,hk1,xk,gR];refine inner.trans ?_;simp only[RR,cA,cf g3 (by omega:l.length<4294967296)]
    have c1:(((wK p.f0 l:Nat):Int) !=1)= !(wK p.f0 l==1):=by rw[ly];simp;omega
    have c2:(((wJ p.f0 l:Nat):Int) !=1)= !(wJ p.f0 l==1):=by rw[ly];simp;omega
    rw[c1,c2];cases wK p.f0 l==1
    ·simp
    ·cases wJ p.f0 l==1
     ·simp
     ·simp only[du,aC,aA,gR];exact ih
   ·have hk1:(p.f0.ay !=kind)=true:=by simpa using hk
    have xk:(p.f0.ay==kind)=false:=by simpa using hk
    simp[hk1,xk]
 |_,_,0,_,hm=>by simp at hm
def ajs (n:Nat) (l:gu) (kind:Int) (hn:1000<n):amW n l kind=some (uH kind l):=by
 unfold amW afe uH;by_cases h1:l.length<1
 ·have:(l.length:Int)<1:=by omega
  have h2:¬1<=l.length:=by omega
  simp only[this,aU,aB,h2,aX,gf]
 ·have ta:¬(l.length:Int)<1:=by omega
  have h2:1<=l.length:=by omega
  by_cases h3:16<l.length
  ·have:(16:Int)<(l.length:Int):=by omega
   have h4:¬l.length<=16:=by omega
   simp only[ta,aX,aC,aA,this,aU,aB,h2,h4,gR,gf]
  ·have Ju:¬(16:Int)<(l.length:Int):=by omega
   have h4:l.length<=16:=by omega
   simp only[ta,Ju,aX,aC,aA,h2,h4,aU,gR];exact W0 n l h4 kind l 0 n rfl (by omega)
def jE {l:List J} {x:J} (h:l[i]? =some x):l.set i x=l:=by
 let ⟨h1,h2⟩:=bY.1 h;rw[<-h2,List.set_getElem_self]
def Of (k:ag->aE->ag->ag->bn->Option (ag×Bool)) (ts:bn) (hl:ts.length<=1000) (ht:∀T∈ts,DM T) (s:ag) (mg:aE):∀(x:bn) (i m:Nat) (b4 b6:ag),ts.drop i=x->x.length+4000<m->
  Mg k m ts (ts.length:Int) (i:Int) s mg b4 b6 (ts.take i)=k s mg (ag.mk b4.ax []) (ag.mk b6.ax ts) ts
 | [],i,m+1,b4,b6,hd,hm=>by
  have hi:ts.length<=i:=by simpa using hd
  have hq:¬((i:Int)<(ts.length:Int)):=by omega
  simp only[Mg,X3,hq,aX,aC,aA,kq hi]
 |T::x,i,m+1,b4,b6,hd,hm=>by
  let ⟨g1,g2,g3,hq⟩:=gdr hd
  have hT:=ht T (cT g1);simp at hm;have ih:=Of k ts hl ht s mg x (i+1) m (ag.mk b4.ax []) (ag.mk b6.ax (ts.take (i+1))) g2 (by omega)
  have e1:(ts.take i).length=i:=by simp;omega
  simp only[Mg,X3,hq,aU,aB,bM,g1,au,VV m T hT.len hT.ref (by omega),dL (ts.take i) [T] (by simp;omega),rl g1,cf g3 (by omega)]
  rw[e1,dx _ (by simp;omega),au]
  have e2:(ts.take (i+1)).set i T=ts.take (i+1):=jE (by rw[eN,aH (by omega)];exact g1)
  rw[e2];exact ih
 |_,_,0,_,_,_,hm=>by simp at hm
def Oe (k:Nat->aE->ag->ag->cN->bn->Option (ag×Bool)) (j:Nat) (mg:aE) (a b:Nat) (ha:mg.aN=(a:Int)) (hb:mg.eL=(b:Int)) (C:cN) (hl:C.length<=8) (ha':a<C.length) (mU:b<C.length) (ts:bn):∀(x:cN) (i m:Nat) (b4 b6:ag) (X:cN) (rr:aj),C.drop i=x->x.length+100<m->X.length=C.length->(∀q:Nat,q<i->X[(fw a b q).toNat]? =C[q]?)->i<=C.length->
  ∃y9,Mf k m j (C.length:Int) (i:Int) mg b4 b6 X C ts rr=((setAt ts j (aj.mk rr.av C rr.aw rr.af rr.ak)).bind λz2=>k j mg y9 (ag.mk b6.ax z2) (uJ C a b) z2)
 | [],i,m+1,b4,b6,X,rr,hd,hm,hX,hx,hi=>by
  have sW:C.length<=i:=by simpa using hd
  have hq:¬((i:Int)<(C.length:Int)):=by omega
  have e:=aFf ha' mU hX λq hq=>hx q (by omega)
  subst e;exact ⟨ag.mk b4.ax [],by simp only[Mf,X2,hq,aX,aC,aA]⟩
 |c::x,i,m+1,b4,b6,X,rr,hd,hm,hX,hx,hi=>by
  let ⟨g1,g2,g3,hq⟩:=gdr hd
  simp at hm;have hbnd:eW C.length (i:Int)=some i:=gC g3;let ⟨s1,s2⟩:=aal (a:=(a:Int)) (b:=(b:Int)) (i:=(i:Int)) (n:=(C.length:Int)) (by omega) (by omega) (by omega) (by omega) (by omega) (by omega)
  have hsh:fw a b i=((fw a b i).toNat:Int):=(SN s1).symm;have cY:(fw a b i).toNat<X.length:=by omega
  have Jt:eW X.length (fw a b i)=some (fw a b i).toNat:=by rw[hsh];exact gC (by simpa using cY)
  have hF:=ME m (i:Int) (a:Int) (b:Int) (by omega) (by omega) (by omega) (by omega)
  let ⟨y9,ih⟩:=Oe k j mg a b ha hb C hl ha' mU ts x (i+1) m (ag.mk b4.ax []) (ag.mk b6.ax ts) (X.set (fw a b i).toNat c) (aj.mk rr.av [] rr.aw rr.af rr.ak) g2 (by omega) (by simpa using hX) (λq o6=>by
   rw[List.getElem?_set];by_cases he:q=i
   ·subst he;rw[aH rfl,aH cY,g1]
   ·have:(fw a b i).toNat≠(fw a b q).toNat:=λhc=>by
     let ⟨q1,q2⟩:=aal (a:=(a:Int)) (b:=(b:Int)) (i:=(q:Int)) (n:=(C.length:Int)) (by omega) (by omega) (by omega) (by omega) (by omega) (by omega)
     have h3:fw a b i=fw a b q:=by omega
     have h1:=UT (a:=(a:Int)) (b:=(b:Int)) (i:=(i:Int)) (n:=(C.length:Int)) (by omega) (by omega) (by omega) (by omega) (by omega) (by omega)
     have h2:=UT (a:=(a:Int)) (b:=(b:Int)) (i:=(q:Int)) (n:=(C.length:Int)) (by omega) (by omega) (by omega) (by omega) (by omega) (by omega)
     rw[h3,h2] at h1;omega
    rw[aL this];exact hx q (by omega)) (by omega)
  refine ⟨y9,?_⟩;simp only[Mf,X2,hq,aU,aB,hbnd,au,cA,g1,ha,hb,hF,Jt,dI cY,dx _ cY,cf g3 (by omega)]
  exact ih
 |_,_,0,_,_,_,_,_,hm,_,_,_=>by simp at hm
def iP (j:Int) (r:bk):bk:=⟨r.ae,fw j (-1) r.aG⟩
def r7 (a:Int) (rs:cB):Bool:=rs.all λr=>r.aG !=a
def adb (k:Int->Int->ag->aE->ag->ag->aj->cN->bO->bn->bn->aj->Nat->Nat->cB->Option (ag×Bool)) (t299 t300:Int) (s:ag) (mg:aE) (a:Nat) (ha:mg.aG=(a:Int)) (ha8:a<=1000) (cs:cN) (ch:bO) (R cur:bn) (j:Nat) (hj:j<cur.length) (rs:cB) (hl:rs.length<=1000) (hr:∀r∈rs,l6 r.aG):∀(x:cB) (i m:Nat) (b4 b6:ag) (nM rr:aj),rs.drop i=x->x.length<m->
  He k m t299 t300 (rs.length:Int) (i:Int) s mg b4 b6 nM cs ch R cur rr j j (fk (iP a) rs i)=if r7 a x=true then k t299 t300 s mg (ag.mk b4.ax []) (ag.mk b6.ax cur) (aj.mk nM.av cs nM.aw (rs.map (iP a)) ch) cs ch R cur (aj.mk rr.av [] rr.aw [] []) j j (rs.map (iP a)) else some (s,false)
 | [],i,m+1,b4,b6,nM,rr,hd,hm=>by
  have hi:rs.length<=i:=by simpa using hd
  have hq:¬((i:Int)<(rs.length:Int)):=by omega
  simp[He,QL,hq,rD _ _ hi,r7]
 |r::x,i,m+1,b4,b6,nM,rr,hd,hm=>by
  let ⟨g1,g2,g3,hq⟩:=gdr hd
  have jB:=hr r (cT g1);have ih:=adb k t299 t300 s mg a ha ha8 cs ch R cur j hj rs hl hr x (i+1) m (ag.mk b4.ax []) (ag.mk b6.ax cur) (aj.mk nM.av cs nM.aw (fk (iP a) rs (i+1)) ch) (aj.mk rr.av [] rr.aw [] []) g2 (by simp at hm;omega)
  have hb:eW (fk (iP a) rs i).length (i:Int)=some i:=gC (by rw[kE];exact g3)
  have e:r7 (a:Int) (r::x)=(r.aG !=(a:Int)&&r7 a x):=by simp[r7]
  have hs:(fk (iP a) rs i).set i (bk.mk r.ae (fw a (-1) r.aG))=fk (iP a) rs (i+1):=rC (iP a) g1;rw[e];by_cases h:r.aG=(a:Int)
  ·have h1:(r.aG==(a:Int))=true:=by simpa using h
   have h2:(r.aG !=(a:Int))=false:=by simpa using h
   simp only[He,QL,hq,aU,aB,hb,au,cA,l3 _ g1,ha,h1,show lL j j=some () by unfold lL;rw[aH rfl],dx _ hj,h2,gf,aC,aA]
  ·have h1:(r.aG==(a:Int))=false:=by simpa using h
   have h2:(r.aG !=(a:Int))=true:=by simpa using h
   simp only[He,QL,hq,aU,aB,hb,au,cA,l3 _ g1,ha,h1,h2,gR,aC,aA,ME m r.aG (a:Int) (-1) jB.1 jB.2 (by omega) (by omega),dx _ (show i<(fk (iP a) rs i).length by rw[kE];exact g3),hs,cf g3 (by omega)]
   exact ih
 |_,_,0,_,_,_,_,_,hm=>by simp at hm
def pq (a:Nat) (ts:bn):bn:=ts.take a++ts.drop (a+1)
def arH {T:aj} (h:ts[i]? =some T) (cZ:i≠a):pq a (ts.take i)++ [T]=pq a (ts.take (i+1)):=by
 unfold pq;rw[vC,h,Kz];have hl:=(bY.1 h).1;by_cases hi:i<a
 ·rw[kq (by simp;omega),pr (by simp;omega),kq (l:=ts.take i++ [T]) (by simp;omega),pr (l:=ts.take i++ [T]) (by simp;omega)]
  simp
 ·rw[agx (by simp;omega),agw (by simp;omega),lu]
def arI:pq a (ts.take (a+1))=pq a (ts.take a):=by
 unfold pq;rw[oD,oD,fB (by omega),Nat.min_self,pr (by simp;omega),pr (by simp;omega)]
def yL (a:Nat) (ts:bn) (i:Nat):Prop:=∀q U,q<i->q≠a->ts[q]? =some U->r7 a U.af=true
def Hd {P:ag×Bool->Prop} (k:ag->ag->bn->bn->Nat->Option (ag×Bool)) (s:ag) (mg:aE) (a:Nat) (ha:mg.aG=(a:Int)) (ha8:a<=1000) (ts:bn) (hl:ts.length<=1000) (ht:∀T∈ts,T.af.length<=1000/\∀r∈T.af,l6 r.aG) (v:Int) (hP:¬yL a ts ts.length->P (s,false))
  (hk:∀b4 iZ cur g,yL a ts ts.length->Ok (k b4 (ag.mk v iZ) ((pq a ts).map (ma a)) cur g) P):∀(x:bn) (i m:Nat) (b4:ag) (tt cur:bn),ts.drop i=x->x.length+2000<m->cur.length=ts.length->(∀q,i<=q->cur[q]? =ts[q]?)->yL a ts i->
  Ok (Da k m (ts.length:Int) (i:Int) s mg b4 (ag.mk v tt) ((pq a (ts.take i)).map (ma a)) cur i) P
 | [],i,m+1,b4,tt,cur,hd,hm,hc,hcq,uo=>by
  have hi:ts.length<=i:=by simpa using hd
  have hq:¬((i:Int)<(ts.length:Int)):=by omega
  simp only[Da,QK,hq,aX,aC,aA,kq hi];refine hk _ _ _ _ λq U h1 h2 h3=>uo q U (by omega) h2 h3
 |T::x,i,m+1,b4,tt,cur,hd,hm,hc,hcq,uo=>by
  let ⟨g1,g2,g3,hq⟩:=gdr hd
  simp at hm;have hT:=ht T (cT g1);have hb:eW cur.length (i:Int)=some i:=gC (by omega)
  have DB:cur[i]? =some T:=(hcq i (dg _)).trans g1;have uP:i<cur.length:=by omega
  have hsj:lL i i=some ():=by unfold lL;rw[aH rfl]
  by_cases h:i=a
  ·have h1:((i:Int)==mg.aG)=true:=by rw[ha,h];exact hY _
   have ih:=Hd k s mg a ha ha8 ts hl ht v hP hk x (i+1) m (ag.mk b4.ax []) (cur.set i (aj.mk T.av [] T.aw [] [])) (cur.set i (aj.mk T.av [] T.aw [] [])) g2 (by omega) (by simpa using hc) (λq o6=>by rw[xt (by omega)];exact hcq q (by omega)) (λq U h1 h2 h3=>uo q U (by omega) h2 h3)
   rw[show pq a (ts.take (i+1))=pq a (ts.take i) by subst h;exact arI] at ih
   simp only[Da,QK,hq,aU,aB,hb,au,cA,DB,hsj,h1,dx _ uP,MH,cf g3 (by omega:ts.length<4294967296)]
   exact ih
  ·have h1:((i:Int)==mg.aG)=false:=by rw[ha];exact SR (by omega)
   have inner:=adb (X1 (MH (Da k m) m) m) (ts.length:Int) (i:Int) s mg a ha ha8 T.ae T.ak ((pq a (ts.take i)).map (ma a)) cur i uP T.af hT.1 hT.2 T.af 0 m (ag.mk b4.ax []) (ag.mk v cur) T (aj.mk T.av [] T.aw [] []) rfl (by omega)
   rw[wx] at inner;simp only[Da,QK,hq,aU,aB,hb,au,cA,DB,hsj,h1,aC,aA];rw[show (0:Int)=((0:Nat):Int) from rfl,inner];by_cases hn:r7 a T.af=true
   ·rw[aH hn];have ur:((pq a (ts.take i)).map (ma a)).length<=1000:=by
     have:(pq a (ts.take i)).length<=ts.length:=by unfold pq;simp;omega
     simpa using (by omega:(pq a (ts.take i)).length<=1000)
    have es:((pq a (ts.take i)).map (ma a)++ [aj.mk T.av T.ae T.aw (T.af.map (iP a)) T.ak])=(pq a (ts.take (i+1))).map (ma a):=by
     rw[<-arH g1 h,mB];rfl
    have ih:=Hd k s mg a ha ha8 ts hl ht v hP hk x (i+1) m (ag.mk b4.ax []) (cur.set i (aj.mk T.av [] T.aw [] [])) (cur.set i (aj.mk T.av [] T.aw [] [])) g2 (by omega) (by simpa using hc) (λq o6=>by rw[xt (by omega)];exact hcq q (by omega)) (λq U h1 h2 h3=>by
     by_cases he:q=i
     ·subst he;rw[g1] at h3;cases h3;exact hn
     ·exact uo q U (by omega) h2 h3)
    unfold X1;rw[dL _ _ (by simp at ur ⊢;omega),au,dx _ (by simp),au,hsj,au,dx _ uP,au]
    rw[jE (l:=(pq a (ts.take i)).map (ma a)++ [aj.mk T.av T.ae T.aw (T.af.map (iP a)) T.ak]) (by simp)]
    simp only[MH,cf g3 (by omega:ts.length<4294967296)]
    rw[es];exact ih
   ·rw[aL hn];exact Ok.pure (hP λhh=>hn (hh i T g3 h g1))
 |_,_,0,_,_,_,_,hm,_,_,_=>by simp at hm
structure MB (m:aE):Prop where
 CU:l6 m.aN
 to:l6 m.eL
 dfn:DM m.ar
def awp (n:Nat) (hn:1600000<n) (fN:n<4294967296) (b4 b6:ag) (ts:bn) (h:∀T∈ts,xa T):Ok (mf n b4 b6 ts) λr=>r.1=⟨b6.ax,ts⟩/\(r.2=true->gA r.1=0):=by
 unfold mf;rw[FI n ⟨b6.ax,ts⟩ h hn fN,au];exact Ok.pure ⟨rfl,λh=>by simpa using h⟩
def sr {j:Nat} {T:aj} (h:∀U∈ts,xa U) (hT:xa T):∀U∈ts.set j T,xa U:=λU hU=>by
 rcases YU hU with h1|rfl
 ·exact h U h1
 ·exact hT
def KI {T:aj} (h:xa T):xa (sJ f T):=λp hp=>by
 obtain ⟨q,hq,rfl⟩:=cO.1 hp;rw[aie];exact h q hq
def TG.vH {k:Nat} {T:aj} (h:TG k T):xa T:=λp hp=>by have:=(h.jD p hp).2;omega
def Ok.of_eq {x y:Option J} {P:J->Prop} (h:x=y) (k:Ok y P):Ok x P:=h ▸ k
def bool_and {a b:Bool} (h:(a&&b)=true):a=true/\b=true:=(bF _ _).mp h
def awo (n:Nat) (hn:1700000<n) (fN:n<4294967296) (s:ag) (hs:SG s) (m:aE) (hm:MB m) (h1:1<=m.bh) (h8:m.bh<=8) (h6:m.bh≠6) (j:Nat) (T:aj) (hj:m.aG=(j:Int)) (hT:s.ai[j]? =some T) (b4 b6:ag) (hv:b6.ax=s.ax+1):
  Ok (uj n j (T.ae.length:Int) (decide (T.aw<=m.aN)&&decide (m.aN<(T.ae.length:Int))) s m b4 b6 s.ai) λr=>r.2=true->la s m r.1/\gA r.1=0:=by
 have fS:=(bY.1 hT).1;have hG:=hs.cy T (cT hT);have gV:∀U∈s.ai,xa U:=λU hU=>(hs.cy U hU).vH
 have hc8:=hG.cols;have hk1:=hG.zq;have no:Ok (some (s,false):Option (ag×Bool)) λr=>r.2=true->la s m r.1/\gA r.1=0:=Ok.pure λh=>by cases h
 have done:∀(b4:ag) (vv:ag) (ts:bn),vv.ax=s.ax+1->(∀U∈ts,xa U)->la s m ⟨s.ax+1,ts⟩->Ok (mf n b4 vv ts) λr=>r.2=true->la s m r.1/\gA r.1=0:=λb4 vv ts h2 h3 h4=>
  (awp n (by omega) fN b4 vv ts h3).mono λr ⟨e,hr⟩ h=>⟨by rw[e,h2];exact h4,hr h⟩
 have iR:setAt s.ai j T=some s.ai:=by rw[dx _ fS,jE hT]
 unfold uj;refine Ok.ite (λq=> ?_) λq1=> ?_
 ·have q:m.bh=1:=by simpa using q
  rw[AU,au];refine Ok.ite (λ_=>no) λhr=>Ok.ite (λ_=>no) λhk=> ?_
  have hr:gB m.aD=true:=by simpa using hr
  have hk:m.aD.ay=m.ay:=by simpa using hk
  rw[hT,au,dL _ _ (by simp;omega),au,dx _ fS,au]
  exact done _ _ _ hv (sr gV hG.vH) (.amo j T q hj hT hr hk)
 refine Ok.ite (λq=> ?_) λq2=> ?_
 ·have q:m.bh=2:=by simpa using q
  rw[hT,au];refine Ok.ite (λ_=>by rw[iR,au];exact no) λho=> ?_
  have ho:(decide (T.aw<=m.aN)&&decide (m.aN<(T.ae.length:Int)))=true:=by
   cases hh:(decide (T.aw<=m.aN)&&decide (m.aN<(T.ae.length:Int))) with
   |true=>rfl
   |false=>rw[hh] at ho;cases ho
  let ⟨o1,o2⟩:=bool_and ho;have o1:=qv o1;have o2:=qv o2;obtain ⟨c,hc⟩:∃c:Nat,m.aN=(c:Int):=⟨m.aN.toNat,by omega⟩
  have eI:c<T.ae.length:=by omega
  have hx:T.ae[c]? =some T.ae[c]:=dI eI;rw[AU,au];refine Ok.ite (λ_=>by rw[iR,au];exact no) λhr=> ?_
  have hr:gB m.aD=true:=by simpa using hr
  rw[hc,gC eI,au,cA,hx,au];refine Ok.ite (λ_=>by rw[iR,au];exact no) λhk=> ?_
  have hk:m.aD.ay=T.ae[c].ay:=by simpa using hk
  rw[MC n T (c:Int) (by omega) hG.cp (by omega),au]
  refine Ok.ite (λ_=>by rw[iR,au];exact no) λhu=> ?_
  rw[iR,au,hT,au];have w:bl ((c:Int)+1)=((c+1:Nat):Int):=cf eI (by omega)
  have ct:tE T.ae.length (c:Int)=some c:=by unfold tE;rw[aH ⟨by omega,by omega⟩];rfl
  have cl:BQ T.ae.length ((c+1:Nat):Int)=some (c+1):=by unfold BQ;rw[aH ⟨by omega,by omega⟩];rfl
  have an:G6 T.ae c ((T.ae.drop (0+(c+1))).take (T.ae.length-(c+1)))=some (T.ae.take c++T.ae.drop (c+1)):=by
   unfold G6;rw[cA,kq (l:=T.ae.drop (c+1)) (by simp),aH ⟨by omega,by omega,by simp;omega⟩]
  rw[w,ct,au,cl,au,an,au];have tok:TOK (T.ae.length:Int) ⟨T.av,T.ae.take c++T.ae.drop (c+1),T.aw,T.af,T.ak⟩:=⟨by rw[yc eI];omega,hG.tok.refs,hG.tok.ref,hG.tok.zI,hG.tok.jD⟩
  rw[MA n _ (T.ae.length:Int) (by omega) tok (c:Int) (-1) ⟨by omega,by omega⟩ (by omega),au,dx _ fS,au]
  exact done _ _ _ hv (sr gV (KI (T:=⟨T.av,T.ae.take c++T.ae.drop (c+1),T.aw,T.af,T.ak⟩) hG.vH)) (.XL j c T T.ae[c] q hj hT hc hx (by omega) hr hk hu)
 refine Ok.ite (λq=> ?_) λq3=> ?_
 ·have q:m.bh=3:=by simpa using q
  refine Ok.ite (λ_=>no) λho=> ?_
  have ho:(decide (T.aw<=m.aN)&&decide (m.aN<(T.ae.length:Int)))=true:=by
   cases hh:(decide (T.aw<=m.aN)&&decide (m.aN<(T.ae.length:Int))) with
   |true=>rfl
   |false=>rw[hh] at ho;cases ho
  let ⟨o1,o2⟩:=bool_and ho;have o1:=qv o1;have o2:=qv o2;rw[hT,au];refine Ok.ite (λ_=>no) λhk=>Ok.ite (λ_=>no) λhl=> ?_
  have hk:=F0 hk;have hl:m.eL<(T.ae.length:Int):=by simpa using hl
  obtain ⟨c,hc⟩:∃c:Nat,m.aN=(c:Int):=⟨m.aN.toNat,by omega⟩
  obtain ⟨d,hd⟩:∃d:Nat,m.eL=(d:Int):=⟨m.eL.toNat,by omega⟩
  have eI:c<T.ae.length:=by omega
  have rp:d<T.ae.length:=by omega
  have abQ:rA (T.ae.length:Int) ((cG.mk ByteArray.empty 0):cG)=some (List.replicate T.ae.length (cG.mk ByteArray.empty 0)):=by
   unfold rA;rw[aH ⟨by omega,by omega⟩];rfl
  rw[abQ,au,au];let ⟨y9,e⟩:=Oe (MI (mf n) n) j m c d hc hd T.ae hc8 eI rp s.ai T.ae 0 n (ag.mk b4.ax []) (ag.mk b6.ax s.ai) (List.replicate T.ae.length (cG.mk ByteArray.empty 0)) (aj.mk T.av [] T.aw T.af T.ak) rfl (by omega) (by simp) (λq hq=>by omega) (by omega)
  refine Ok.of_eq e ?_;rw[iR,au];unfold MI;have tok:TOK (T.ae.length:Int) ⟨T.av,uJ T.ae c d,T.aw,T.af,T.ak⟩:=⟨by rw[Lx eI rp];omega,hG.tok.refs,hG.tok.ref,hG.tok.zI,hG.tok.jD⟩
  rw[hT,au,MA n _ (T.ae.length:Int) (by omega) tok m.aN m.eL hm.CU (by omega),au,dx _ fS,au]
  refine done _ _ _ hv (sr gV (KI (T:=⟨T.av,uJ T.ae c d,T.aw,T.af,T.ak⟩) hG.vH)) ?_;have:=la.move (s:=s) (m:=m) j c d T q hj hT hc hd eI rp (by omega) (by omega)
  rw[<-hc,<-hd] at this;exact this
 refine Ok.ite (λq=> ?_) λq4=> ?_
 ·have q:m.bh=4:=by simpa using q
  refine Ok.ite (λ_=>no) λhk=>Ok.ite (λ_=>no) λhl=> ?_
  have hk:=F0 hk;have hl:m.aN<(T.ae.length:Int):=by simpa using hl
  obtain ⟨c,hc⟩:∃c:Nat,m.aN=(c:Int):=⟨m.aN.toNat,by omega⟩
  have eI:c<T.ae.length:=by omega
  have hx:T.ae[c]? =some T.ae[c]:=dI eI;rw[hT,au,hc,gC eI,au,cA,hx,au,dx _ eI,au,dx _ fS,au];exact done _ _ _ hv (sr gV hG.vH) (.aks j c T T.ae[c] q hj hT hc hx)
 refine Ok.ite (λq=> ?_) λq5=> ?_
 ·have q:m.bh=5:=by simpa using q
  rw[hT,au,dx _ fS,au];exact done _ _ _ hv (sr gV hG.vH) (.akp j T q hj hT)
 refine Ok.ite (λq=> ?_) λq7=> ?_
 ·have q:m.bh=7:=by simpa using q
  have hl8:=hs.len;have auE:yL j s.ai 0:=λq U h=>by omega
  have key:=Hd (P:=λr=>r.2=true->la s m r.1/\gA r.1=0) (MG (mf n) n) s m j hj (by omega) s.ai (by omega) (λU hU=>⟨by have:=(hs.cy U hU).refs;omega,λr hr=>by let ⟨_,_,r1,r2⟩:=(hs.cy U hU).ref r hr;exact ⟨by omega,by omega⟩⟩) b6.ax (λ_ h=>by cases h) (λy9 iZ cur g uo=>by
  unfold MG;refine done _ _ _ hv (λU hU=> ?_) ?_
  ·obtain ⟨V,hV,rfl⟩:=cO.1 hU;have hV':V∈s.ai:=by
    rcases eR.1 hV with h|h
    ·exact qG h
    ·exact oE h
   exact gV V hV'
  ·refine .XK j T q hj hT λi U hi hU r hr=> ?_
   have:=uo i U (bY.1 hU).1 hi hU;unfold r7 at this;rw[iJ] at this;have:=this r hr;simpa using this) s.ai 0 n (ag.mk b4.ax []) s.ai s.ai rfl (by omega) rfl (λ_ _=>rfl) auE
  rw[show (pq j (s.ai.take 0)).map (ma (j:Int))= [] by simp[pq]] at key
  exact key
 ·have q:m.bh=8:=by simp at q1 q2 q3 q4 q5 q7;omega
  rw[hT,au];refine Ok.ite (λ_=>by rw[iR,au];exact no) λho=> ?_
  have ho:(decide (T.aw<=m.aN)&&decide (m.aN<(T.ae.length:Int)))=true:=by
   cases hh:(decide (T.aw<=m.aN)&&decide (m.aN<(T.ae.length:Int))) with
   |true=>rfl
   |false=>rw[hh] at ho;cases ho
  let ⟨o1,o2⟩:=bool_and ho;have o1:=qv o1;have o2:=qv o2;obtain ⟨c,hc⟩:∃c:Nat,m.aN=(c:Int):=⟨m.aN.toNat,by omega⟩
  have eI:c<T.ae.length:=by omega
  have hx:T.ae[c]? =some T.ae[c]:=dI eI;rw[hc,gC eI,au,cA,hx,au,ajs n m.bf _ (by omega),au]
  refine Ok.ite (λ_=>by rw[iR,au];exact no) λhp=> ?_
  rw[MC n T (c:Int) (by omega) hG.cp (by omega),au]
  refine Ok.ite (λ_=>by rw[iR,au];exact no) λhu=> ?_
  rw[iR,au];exact done _ _ _ hv gV (.El j c T T.ae[c] q hj hT hc hx (by omega) (by simpa using hp) hu)
def aJj (n:Nat) (hn:1700000<n) (fN:n<4294967296) (s:ag) (hs:SG s) (m:aE) (hm:MB m):Ok (F95 n s m) λr=>r.2=true->pX m=true/\la s m r.1/\gA r.1=0:=by
 have no:Ok (some (s,false):Option (ag×Bool)) λr=>r.2=true->pX m=true/\la s m r.1/\gA r.1=0:=Ok.pure λh=>by cases h
 have hl8:=hs.len;have hv0:=hs.v0;have pO:=hs.v1;unfold F95 QM;refine Ok.bind (aDc n m) λb hb=>Ok.ite (λ_=>no) λmU=> ?_
 have ur:=hb (by simpa using mU)
 have e:=Of (ze n) s.ai (by omega) (λT hT=>(hs.cy T hT).cp) s m s.ai 0 n (ag.mk 0 []) (ag.mk (bl (s.ax+1)) []) rfl (by omega)
 refine Ok.of_eq e ?_;rw[dw (by omega) (by omega)]
 have h18:1<=m.bh/\m.bh<=8:=by
  unfold pX at ur;simp only[bF,jX] at ur;exact ⟨ur.1,ur.2.1⟩
 unfold ze;refine Ok.ite (λq=> ?_) λq6=>Ok.ite (λ_=>no) λt0=>Ok.ite (λ_=>no) λt1=> ?_
 ·have q:m.bh=6:=by simpa using q
  rw[VV n m.ar hm.dfn.len hm.dfn.ref (by omega),au,dL _ _ (by simp;omega),au,dx _ (by simp),au,jE (by simp)]
  have hz:∀T∈s.ai++ [m.ar],xa T:=λT hT=>by
   rcases eR.1 hT with h|h
   ·exact (hs.cy T h).vH
   ·rw[ez.1 h];exact λp hp=>by have:=hm.dfn.jD p hp;omega
  rw[FI n ⟨s.ax+1,s.ai++ [m.ar]⟩ hz (by omega) fN,au]
  exact Ok.pure λh=>⟨ur,.amn q,by simpa using h⟩
 ·have q6:m.bh≠6:=by simpa using q6
  have t0:=F0 t0;have t1:m.aG<(s.ai.length:Int):=by simpa using t1
  obtain ⟨j,hj⟩:∃j:Nat,m.aG=(j:Int):=⟨m.aG.toNat,by omega⟩
  have fS:j<s.ai.length:=by omega
  have hT:s.ai[j]? =some s.ai[j]:=dI fS;rw[hj,gC fS,au,cA,hT,au];have fin:=λb4 b6 hv=>awo n hn fN s hs m hm h18.1 h18.2 q6 j s.ai[j] hj hT b4 b6 hv
  have iR:setAt s.ai j s.ai[j]=some s.ai:=by rw[dx _ fS,jE hT]
  refine Ok.ite (λhk=> ?_) λhk=> ?_
  ·have hk:s.ai[j].aw<=m.aN:=by simpa using hk
   rw[iR,au];have:=fin (ag.mk 0 []) (ag.mk (s.ax+1) s.ai) rfl;rw[rU hk,gR] at this;exact this.mono λr hr h=>⟨ur,hr h⟩
  ·have hk:¬s.ai[j].aw<=m.aN:=by simp at hk;omega
   rw[iR,au];have:=fin (ag.mk 0 []) (ag.mk (s.ax+1) s.ai) rfl;rw[AX hk,gf] at this;exact this.mono λr hr h=>⟨ur,hr h⟩
section
mutual
def PH {N:Int} {f g:Int->Int}:∀{p:ah},pS N p=true->(∀x,0<=x->x<N->oQ x p=true->f x=g x)->l4 f p=l4 g p
 |⟨op,c,l,r,args⟩,hp,h=>by
  simp only[pS,bF] at hp;let ⟨qq,hp2⟩:=hp;have ha:=M1 hp2 λx h0 h1 h2=>h x h0 h1 (by simp[oQ,h2])
  simp only[l4,ha];by_cases h3:op=3
  ·subst h3;simp only[hY,aB,bF] at qq;have ho:∀o:aT,zn N o=true->(∀x,oS x o=true->oQ x ⟨3,c,l,r,args⟩=true)->j2 f o=j2 g o:=λo ho hc=>by
    unfold j2;split
    ·rename_i hk;have jC:o.ay=1:=by simpa using hk
     simp[zn,jC] at ho;rw[h o.cQ ho.1 ho.2 (hc _ (by simp[oS,jC]))]
    ·rfl
   rw[ho l qq.1 λx hx=>by simp[oQ,hx],ho r qq.2 λx hx=>by simp[oQ,hx]]
  ·have cZ:(op==3)=false:=by simpa using h3
   rw[cZ] at qq;simp at qq;rw[vT qq.1,vT qq.1,vT qq.2,vT qq.2]
def M1 {N:Int} {f g:Int->Int}:∀{xs:bO},IS N xs=true->(∀x,0<=x->x<N->pU x xs=true->f x=g x)->iV f xs=iV g xs
 | [],_,_=>by simp[iV]
 |p::xs,hp,h=>by
  simp only[IS,bF] at hp;simp only[iV,PH hp.1 λx h0 h1 h2=>h x h0 h1 (by simp[pU,h2]),M1 hp.2 λx h0 h1 h2=>h x h0 h1 (by simp[pU,h2])]
end
def PG {N:Int} {g:Int->Int} {T:aj} (hr:∀r∈T.af,∀c∈r.ae,f c=g c) (hp:∀p∈T.ak,pS N p=true/\∀x,0<=x->x<N->oQ x p=true->f x=g x):sJ f T=sJ g T:=by
 unfold sJ;have e1:T.af.map (gP f)=T.af.map (gP g):=DV λr h=>by
  unfold gP;rw[DV λc hc=>hr r h c hc]
 have e2:T.ak.map (l4 f)=T.ak.map (l4 g):=DV λp h=>PH (hp p h).1 (hp p h).2
 rw[e1,e2]
def VS (n:Nat) (v:aP) (k:Int):VT n v k=some (gB v&&v.ay==k):=by
 unfold VT aeB;rw[ajo,au];cases gB v<;>simp
def N3 {C:List J} {c:Nat} (h:c<C.length):VB C (c:Int) ((c+1:Nat):Int)=some (C.take c++C.drop (c+1),C.take c++C.drop (c+1)):=by
 unfold VB;rw[aH ⟨by omega,by omega,by omega⟩]
 rfl
section
variable {n:Nat} {s:ag} {m:aE} {j:Nat} {T:aj}
def aDb (hs:SG s) (hj:m.aG=(j:Int)) (hT:s.ai[j]? =some T) (v:Int) (hv:gB m.aD=true) (hk:m.aD.ay=m.ay):adV n (aF.mk (ag.mk v s.ai) m)=some (true,aF.mk (ag.mk v (s.ai.set j ⟨T.av,T.ae++ [⟨m.av,m.ay⟩],T.aw,T.af,T.ak⟩)) m):=by
 have fS:=(bY.1 hT).1;have hG:=hs.cy T (cT hT);have h8:=hG.cols;unfold adV afc;rw[FJ n v s.ai m j hj fS,au];simp only[hT,au,dL T.ae [(⟨m.av,m.ay⟩:cG)] (by simp;omega),VS,hv,hk,hY,gR,dx _ fS]
def aDa (hs : SG s) (hj : m.aG = (j : Int)) (hT : s.ai[j]? = some T) (v : Int) (eT : m.bh = 2) (c : Nat) (x : cG) (hc : m.aN = (c : Int)) (hx : T.ae[c]? = some x) (hk : T.aw <= (c : Int)) (hv : gB m.aD = true) (xj : m.aD.ay = x.ay) (hu : zX (c : Int) T = false) (hn : 100000 < n) :
    adU n (aF.mk (ag.mk v s.ai) m) = some (true, aF.mk (ag.mk v (s.ai.set j (sJ (fw (c : Int) (-1)) ⟨T.av, T.ae.take c ++ T.ae.drop (c + 1), T.aw, T.af, T.ak⟩))) m) := by
  have fS := (bY.1 hT).1
  have eI := (bY.1 hx).1
  have hG := hs.cy T (cT hT)
  have h8 := hG.cols
  have iR : setAt s.ai j T = some s.ai := by rw [dx _ fS, jE hT]
  have Jv := Mz n v s.ai m j T hj hT m.aN
  rw [hc, rU hk, rU (show (c : Int) < (T.ae.length : Int) by omega)] at Jv
  have abW := ajf n v s.ai m j T hj hT (by omega) hG.cp (by omega)
  rw [hc, hu] at abW
  have w : bl ((c : Int) + 1) = ((c + 1 : Nat) : Int) := cf eI (by omega)
  unfold adU afb
  rw [FJ n v s.ai m j hj fS, au]
  simp only [hT, au, iR, hc, Jv, ny, du, aC, aA, gC eI, cA, hx, VS, hv, xj, hY, abW, w]
  rw [show adG n T.ae (c : Int) ((c + 1 : Nat) : Int) = some (T.ae.take c ++ T.ae.drop (c + 1), T.ae.take c ++ T.ae.drop (c + 1)) from N3 eI, au]
  simp only [dx _ fS, au]
  have tok : TOK (T.ae.length : Int) ⟨T.av, T.ae.take c ++ T.ae.drop (c + 1), T.aw, T.af, T.ak⟩ := ⟨by rw [yc eI]; omega, hG.tok.refs, hG.tok.ref, hG.tok.zI, hG.tok.jD⟩
  rw [aje n v _ m j _ hj (pw fS) (.inl eT) (by rw [hc]; exact ⟨by omega, by omega⟩) (T.ae.length : Int) (by omega) tok (by omega), au, vD]
  have sd : qw (c : Int) T.af = false /\ qx (c : Int) T.ak = false := by
    unfold zX at hu; exact Bool.or_eq_false_iff.1 hu
  have at2 : ∀ y : Int, 0 <= y -> y ≠ (c : Int) -> j7 m y = fw (c : Int) (-1) y := λy h0 h1 => by
    unfold j7 fw
    rw [aH eT, hc, aL (show ¬ y < 0 by omega), aL h1, aH (show (-1 : Int) < 0 by omega)]
  have hmt : sJ (j7 m) ⟨T.av, T.ae.take c ++ T.ae.drop (c + 1), T.aw, T.af, T.ak⟩ = sJ (fw (c : Int) (-1)) ⟨T.av, T.ae.take c ++ T.ae.drop (c + 1), T.aw, T.af, T.ak⟩ := by
   refine PG (N := (T.ae.length : Int)) (λr hr y hy => ?_) λp hp => ⟨(hG.jD p hp).1, λy h0 h1 h2 => ?_⟩
   · refine at2 y ((hG.ref r hr).2.1 y hy).1 λe => ?_
     have h3 := sd.1
     unfold qw at h3
     rw [List.any_eq_false] at h3
     exact h3 r hr (by rw [<- e]; exact rU hy)
   · refine at2 y h0 λe => ?_
     have h3 := sd.2
     unfold qx at h3
     rw [List.any_eq_false] at h3
     exact h3 p hp (by rw [<- e]; exact h2)
  rw [hmt]
def aCZ (hs:SG s) (hj:m.aG=(j:Int)) (hT:s.ai[j]? =some T) (v:Int) (eT:m.bh=3) (c d:Nat) (hc:m.aN=(c:Int)) (hd:m.eL=(d:Int)) (h1:c<T.ae.length) (h2:d<T.ae.length) (hk:T.aw<=(c:Int)) (xk:T.aw<=(d:Int)) (hn:100000<n):
  adT n (aF.mk (ag.mk v s.ai) m)=some (true,aF.mk (ag.mk v (s.ai.set j (sJ (fw (c:Int) (d:Int)) ⟨T.av,uJ T.ae c d,T.aw,T.af,T.ak⟩))) m):=by
 have fS:=(bY.1 hT).1;have hG:=hs.cy T (cT hT);have h8:=hG.cols;have hk1:=hG.zq;have Jv:=Mz n v s.ai m j T hj hT m.aN;rw[hc,rU hk,rU (show (c:Int)<(T.ae.length:Int) by omega)] at Jv
 have ayf:=Mz n v s.ai m j T hj hT m.eL;rw[hd,rU xk,rU (show (d:Int)<(T.ae.length:Int) by omega)] at ayf
 have w:bl ((c:Int)+1)=((c+1:Nat):Int):=cf h1 (by omega)
 have rp:=yc h1;have hins:abw (T.ae.take c++T.ae.drop (c+1)) (d:Int) [T.ae[c]]=some (uJ T.ae c d,uJ T.ae c d):=by
  unfold abw;rw[aH ⟨by omega,by omega,by omega,by simp,by omega,by simp⟩]
  unfold uJ;rw[dI h1];rfl
 unfold adT afa;rw[FJ n v s.ai m j hj fS,au];simp only[hc,Jv,au,ny,du,aC,aA,hd,ayf,hT,gC h1,cA,dI h1,w];rw[show adG n T.ae (c:Int) ((c+1:Nat):Int)=some (T.ae.take c++T.ae.drop (c+1),T.ae.take c++T.ae.drop (c+1)) from N3 h1,au];rw[show awi n (T.ae.take c++T.ae.drop (c+1)) (d:Int) [T.ae[c]]=some (uJ T.ae c d,uJ T.ae c d) from hins,au];simp only[dx _ fS,au];have tok:TOK (T.ae.length:Int) ⟨T.av,uJ T.ae c d,T.aw,T.af,T.ak⟩:=⟨by rw[Lx h1 h2];omega,hG.tok.refs,hG.tok.ref,hG.tok.zI,hG.tok.jD⟩
 rw[aje n v _ m j _ hj (pw fS) (.inr eT) (by rw[hc];exact ⟨by omega,by omega⟩) (T.ae.length:Int) (by omega) tok (by omega),au,vD]
 have at3:∀y:Int,0<=y->j7 m y=fw (c:Int) (d:Int) y:=λy h0=>by
  unfold j7 fw;rw[aL (show ¬m.bh=2 by omega),aH eT,hc,hd,aL (show ¬y<0 by omega),aL (show ¬(d:Int)<0 by omega)]
  by_cases e1:y=(c:Int)
  ·rw[aH e1,aH e1]
  ·rw[aL e1,aL e1];by_cases e2:(c:Int)<y/\y<=(d:Int)
   ·rw[aH e2,aH (show (c:Int)<(d:Int)/\(c:Int)<y/\y<=(d:Int) by omega)]
   ·rw[aL e2,aL (show ¬((c:Int)<(d:Int)/\(c:Int)<y/\y<=(d:Int)) by omega)]
    by_cases e3:(d:Int)<=y/\y<(c:Int)
    ·rw[aH e3,aH (show (d:Int)<(c:Int)/\(d:Int)<=y/\y<(c:Int) by omega)]
    ·rw[aL e3,aL (show ¬((d:Int)<(c:Int)/\(d:Int)<=y/\y<(c:Int)) by omega)]
 have hmt:sJ (j7 m) ⟨T.av,uJ T.ae c d,T.aw,T.af,T.ak⟩=sJ (fw (c:Int) (d:Int)) ⟨T.av,uJ T.ae c d,T.aw,T.af,T.ak⟩:=PG (N:=(T.ae.length:Int)) (λr hr y hy=>at3 y ((hG.ref r hr).2.1 y hy).1) λp hp=>⟨(hG.jD p hp).1,λy h0 h1 h2=>at3 y h0⟩
 rw[hmt]
def aCY (hs:SG s) (hj:m.aG=(j:Int)) (hT:s.ai[j]? =some T) (v:Int) (c:Nat) (x:cG) (hc:m.aN=(c:Int)) (hx:T.ae[c]? =some x):
  adS n (aF.mk (ag.mk v s.ai) m)=some (true,aF.mk (ag.mk v (s.ai.set j ⟨T.av,T.ae.set c ⟨m.av,x.ay⟩,T.aw,T.af,T.ak⟩)) m):=by
 have fS:=(bY.1 hT).1;have eI:=(bY.1 hx).1;unfold adS aeZ;rw[FJ n v s.ai m j hj fS,au];have q1:¬((c:Int)<0):=by omega
 have q2:(c:Int)<(T.ae.length:Int):=by omega
 simp only[hT,au,hc,q1,q2,aX,aU,du,aC,aA,gC eI,cA,hx,dx _ eI,dx _ fS]
def aCX (hj:m.aG=(j:Int)) (hT:s.ai[j]? =some T) (v:Int):
  adR n (aF.mk (ag.mk v s.ai) m)=some (true,aF.mk (ag.mk v (s.ai.set j ⟨m.av,T.ae,T.aw,T.af,T.ak⟩)) m):=by
 have fS:=(bY.1 hT).1;unfold adR aeY;rw[FJ n v s.ai m j hj fS,au];simp only[hT,au,dx _ fS]
def aCW (hs:SG s) (hm:MB m) (v:Int) (hn:100000<n):
  adQ n (aF.mk (ag.mk v s.ai) m)=some (true,aF.mk (ag.mk v (s.ai++ [m.ar])) m):=by
 have h8:=hs.len;unfold adQ aeX;rw[asu n m.ar hm.dfn.len hm.dfn.ref hm.dfn.jD (by omega),au]
 simp only[dL s.ai [m.ar] (by simp;omega),au]
 rw[dx _ (by simp),au,jE (by simp)]
end
def WZ (k:Int->Int->aF->bn->Option (Bool×aF)) (i3 t16 t17:Int) (mg:aE) (a:Nat) (ha:mg.aG=(a:Int)) (v:Int) (cur:bn) (j:Nat) (ch:bO) (cs:cN) (rs:cB) (hl:rs.length<=1000) (ho:i3=(a:Int)\/r7 a rs=true):∀(x:cB) (i m:Nat) (tt:bn) (rr:aj),rs.drop i=x->x.length<m->
  Fm k m i3 t16 t17 (rs.length:Int) (i:Int) (aF.mk (ag.mk v tt) mg) cur rr j ch cs rs=((setAt cur j (aj.mk rr.av cs rr.aw rs ch)).bind λz2=>k t16 t17 (aF.mk (ag.mk v z2) mg) z2)
 | [],i,m+1,tt,rr,hd,hm=>by
  have hi:rs.length<=i:=by simpa using hd
  have hq:¬((i:Int)<(rs.length:Int)):=by omega
  simp only[Fm,RN,hq,aX,aC,aA]
 |r::x,i,m+1,tt,rr,hd,hm=>by
  let ⟨g1,g2,g3,hq⟩:=gdr hd
  have ih:=WZ k i3 t16 t17 mg a ha v cur j ch cs rs hl ho x (i+1) m cur (aj.mk rr.av [] rr.aw [] []) g2 (by simp at hm;omega)
  have hs:setAt rs i r=some rs:=by rw[dx _ g3,jE g1]
  simp only[Fm,RN,hq,aU,aB,gC g3,au,cA,g1,ha,hs,cf g3 (by omega)]
  by_cases h:i3=(a:Int)
  ·have h1:(i3 !=(a:Int))=false:=by simpa using h
   simp only[h1,aC,aA];exact ih
  ·have h1:(i3 !=(a:Int))=true:=by simpa using h
   have h2:(r.aG==(a:Int))=false:=by
    rcases ho with ho|ho
    ·exact absurd ho h
    ·unfold r7 at ho;rw[iJ] at ho;have:=ho r (cT g1);simpa using this
   simp only[h1,aB,h2,aC,aA];exact ih
 |_,_,0,_,_,_,hm=>by simp at hm
def WY (k:aF->bn->Option (Bool×aF)) (mg:aE) (a:Nat) (ha:mg.aG=(a:Int)) (v:Int) (ts:bn) (hl:ts.length<=1000) (ht:∀T∈ts,T.af.length<=1000) (uo:yL a ts ts.length):∀(x:bn) (i m:Nat) (tt:bn),ts.drop i=x->x.length+1000<m->
  B5 k m (ts.length:Int) (i:Int) (aF.mk (ag.mk v tt) mg) ts=k (aF.mk (ag.mk v ts) mg) ts
 | [],i,m+1,tt,hd,hm=>by
  have hi:ts.length<=i:=by simpa using hd
  have hq:¬((i:Int)<(ts.length:Int)):=by omega
  simp only[B5,RL,hq,aX,aC,aA]
 |T::x,i,m+1,tt,hd,hm=>by
  let ⟨g1,g2,g3,hq⟩:=gdr hd
  simp at hm;have hT:=ht T (cT g1);have ih:=WY k mg a ha v ts hl ht uo x (i+1) m ts g2 (by omega)
  have inner:=WZ (RM (B5 k m) m) (i:Int) (ts.length:Int) (i:Int) mg a ha v ts i T.ak T.ae T.af hT (by
   by_cases h:i=a
   ·exact .inl (by omega)
   ·exact .inr (uo i T g3 h g1)) T.af 0 m ts (aj.mk T.av [] T.aw [] []) rfl (by omega)
  have hs:setAt ts i T=some ts:=by rw[dx _ g3,jE g1]
  simp only[B5,RL,hq,aU,aB,gC g3,au,cA,g1];refine inner.trans ?_;show (setAt ts i T).bind _=_;rw[hs,au];simp only[RM,cf g3 (by omega:ts.length<4294967296)]
  exact ih
 |_,_,0,_,_,hm=>by simp at hm
def WX (k:Int->Int->aF->bn->Option (Bool×aF)) (t74 t75:Int) (mg:aE) (a:Nat) (ha:mg.aG=(a:Int)) (ha8:a<=1000) (v:Int) (cs:cN) (ch:bO) (cur:bn) (j:Nat) (rs:cB) (hl:rs.length<=1000) (hr:∀r∈rs,l6 r.aG):∀(x:cB) (i m:Nat) (tt:bn) (b8 rr:aj),rs.drop i=x->x.length<m->
  B4 k m t74 t75 (rs.length:Int) (i:Int) (aF.mk (ag.mk v tt) mg) b8 cs ch cur rr j (fk (iP a) rs i)=((setAt cur j (aj.mk rr.av cs rr.aw (rs.map (iP a)) ch)).bind λz2=>k t74 t75 (aF.mk (ag.mk v z2) mg) z2)
 | [],i,m+1,tt,b8,rr,hd,hm=>by
  have hi:rs.length<=i:=by simpa using hd
  have hq:¬((i:Int)<(rs.length:Int)):=by omega
  simp only[B4,Kh,hq,aX,aC,aA,rD _ _ hi]
 |r::x,i,m+1,tt,b8,rr,hd,hm=>by
  let ⟨g1,g2,g3,hq⟩:=gdr hd
  have jB:=hr r (cT g1);have ih:=WX k t74 t75 mg a ha ha8 v cs ch cur j rs hl hr x (i+1) m cur (aj.mk b8.av cs b8.aw (fk (iP a) rs (i+1)) ch) (aj.mk rr.av [] rr.aw [] []) g2 (by simp at hm;omega)
  have hml:i<(fk (iP a) rs i).length:=by rw[kE];exact g3
  have hs:setAt (fk (iP a) rs i) i r=some (fk (iP a) rs i):=by rw[dx _ hml,jE (l3 _ g1)]
  have hs2:(fk (iP a) rs i).set i r=fk (iP a) rs i:=jE (l3 _ g1);have e:=rC (iP a) g1;by_cases h:(a:Int)<r.aG
  ·have hd:iP (a:Int) r=bk.mk r.ae (r.aG-1):=by
    unfold iP fw;rw[aH (by omega),aH h]
   rw[hd] at e;simp only[B4,Kh,hq,aU,aB,gC hml,au,cA,l3 _ g1,ha,h,hs,hs2,dw (x:=r.aG-1) (by have:=jB.1;omega) (by have:=jB.2;omega),dx _ hml,e,cf g3 (by omega)]
   exact ih
  ·have hd:iP (a:Int) r=r:=by
    unfold iP fw;rw[aH (by omega),aL h]
   rw[hd] at e;have e2:fk (iP a) rs i=fk (iP a) rs (i+1):=by rw[<-e,jE (l3 _ g1)]
   simp only[B4,Kh,hq,aU,aB,gC hml,au,cA,l3 _ g1,ha,h,aX,aC,aA,hs,cf g3 (by omega)]
   rw[e2];exact ih
 |_,_,0,_,_,_,_,hm=>by simp at hm
def WW (k:aF->bn->Option (Bool×aF)) (mg:aE) (a:Nat) (ha:mg.aG=(a:Int)) (ha8:a<=1000) (v:Int) (ts:bn) (hl:ts.length<=1000) (ht:∀T∈ts,T.af.length<=1000/\∀r∈T.af,l6 r.aG):∀(x:bn) (i m:Nat) (tt:bn),ts.drop i=x->x.length+1000<m->
  B3 k m (ts.length:Int) (i:Int) (aF.mk (ag.mk v tt) mg) (fk (ma a) ts i)=k (aF.mk (ag.mk v (ts.map (ma a))) mg) (ts.map (ma a))
 | [],i,m+1,tt,hd,hm=>by
  have hi:ts.length<=i:=by simpa using hd
  have hq:¬((i:Int)<(ts.length:Int)):=by omega
  simp only[B3,RJ,hq,aX,aC,aA,rD _ _ hi]
 |T::x,i,m+1,tt,hd,hm=>by
  let ⟨g1,g2,g3,hq⟩:=gdr hd
  simp at hm;have hT:=ht T (cT g1);have ih:=WW k mg a ha ha8 v ts hl ht x (i+1) m (fk (ma a) ts (i+1)) g2 (by omega)
  have hml:i<(fk (ma a) ts i).length:=by rw[kE];exact g3
  have inner:=WX (RK (B3 k m) m) (ts.length:Int) (i:Int) mg a ha ha8 v T.ae T.ak (fk (ma a) ts i) i T.af hT.1 hT.2 T.af 0 m (fk (ma a) ts i) T (aj.mk T.av [] T.aw [] []) rfl (by omega)
  rw[wx] at inner;have e:(fk (ma a) ts i).set i (aj.mk T.av T.ae T.aw (T.af.map (iP a)) T.ak)=fk (ma a) ts (i+1):=rC (ma a) g1;simp only[B3,RJ,hq,aU,aB,gC hml,au,cA,l3 _ g1];refine inner.trans ?_;show (setAt _ i (aj.mk T.av T.ae T.aw (T.af.map (iP a)) T.ak)).bind _=_;rw[dx _ hml,e,au];simp only[RK,cf g3 (by omega:ts.length<4294967296)]
  exact ih
 |_,_,0,_,_,hm=>by simp at hm
def aCV {n:Nat} {s:ag} {m:aE} {j:Nat} (hs:SG s) (hj:m.aG=(j:Int)) (fS:j<s.ai.length) (v:Int) (hr:∀i U,i≠j->s.ai[i]? =some U->∀r∈U.af,r.aG≠(j:Int)) (hn:100000<n):
  adP n (aF.mk (ag.mk v s.ai) m)=some (true,aF.mk (ag.mk v ((s.ai.take j++s.ai.drop (j+1)).map (ma (j:Int)))) m):=by
 have h8:=hs.len;have uo:yL j s.ai s.ai.length:=λq U _ cZ hU=>by
  unfold r7;rw[iJ];intro r jB;have:=hr q U cZ hU r jB;simpa using this
 have rp:=yc fS;unfold adP aeV;have e1:=WY (RI n) m j hj v s.ai (by omega) (λT hT=>by have:=(hs.cy T hT).refs;omega) uo s.ai 0 n s.ai rfl (by omega)
 refine Eq.trans e1 ?_;unfold RI;have w:bl ((j:Int)+1)=((j+1:Nat):Int):=cf fS (by omega)
 simp only[hj,w];rw[show awh n s.ai (j:Int) ((j+1:Nat):Int)=some (s.ai.take j++s.ai.drop (j+1),s.ai.take j++s.ai.drop (j+1)) from N3 fS,au];have xZ:∀T∈s.ai.take j++s.ai.drop (j+1),T∈s.ai:=λT hT=>by
  rcases eR.1 hT with h|h
  ·exact qG h
  ·exact oE h
 have e2:=WW (aeW n) m j hj (by omega) v (s.ai.take j++s.ai.drop (j+1)) (by omega) (λT hT=>⟨by have:=(hs.cy T (xZ T hT)).refs;omega,λr jB=>by let ⟨_,_,r1,r2⟩:=(hs.cy T (xZ T hT)).ref r jB;exact ⟨by omega,by omega⟩⟩) (s.ai.take j++s.ai.drop (j+1)) 0 n (s.ai.take j++s.ai.drop (j+1)) rfl (by omega)
 rw[wx] at e2;exact e2
end
def w01:bl (0+1)=1:=dw (by omega) (by omega)
def w10:bl (1-1)=0:=dw (by omega) (by omega)
def w11:bl (1+1)=2:=dw (by omega) (by omega)
def w20:bl (2-0)=2:=dw (by omega) (by omega)
def w1_0:bl (1-0)=1:=dw (by omega) (by omega)
def ama (x y:J):eW [x,y].length 0=some 0:=rfl
def avN (x y:J):eW [x,y].length 1=some 1:=rfl
def bl10 (x:J):eW [x].length 0=some 0:=rfl
def awb (n:Nat) (hn:10<n) (x:cC):Oh n [x] 0 1=some [x]:=by
 obtain ⟨m,rfl⟩:∃q,n=q+3:=⟨n-3,by omega⟩
 simp only[Oh,Q1,w01,si,FK,show ¬((1:Int)<1) by omega,aX,aC,aA]
def awa (n:Nat) (hn:100<n) (x y:cC) (hx:x.length<=10) (hy:y.length<=10):Oh n [x,y] 0 2=some (if eZ y x<0 then [y,x] else [x,y]):=by
 obtain ⟨m,rfl⟩:∃q,n=q+4:=⟨n-4,by omega⟩
 have tail:∀l:bU,wZ (si (m+3)) (m+3) 0 2 1 l=some l:=λl=>by
  simp only[wZ,w11,si,FK,show ¬((2:Int)<2) by omega,aX,aC,aA]
 have e:Oh (m+4) [x,y] 0 2=E5 (wZ (si (m+3)) (m+3)) (m+3) 0 2 1 1 [x,y]:=by
  simp only[Oh,Q1,w01];show FK (si (m+3)) (m+3) 0 2 1 [x,y]=_;simp only[FK,show ((1:Int)<2) by omega,aU,aB]
 rw[e];show FM (wZ (si (m+3)) (m+3)) (E5 (wZ (si (m+3)) (m+3)) (m+2)) (m+2) 0 2 1 1 [x,y]=_;simp only[FM,show ((0:Int)<1) by omega,aU,aB,avN,w10,ama,au,cA,vB,rT,ady (m+2) y x (by omega) (by omega)]
 by_cases h:eZ y x<0
 ·have s1:setAt [x,y] 1 x=some [x,x]:=rfl;have s2:setAt [x,x] 0 y=some [y,x]:=rfl;simp only[h,aU,aB,s1,au,vB,s2];show FM (wZ (si (m+3)) (m+3)) (E5 (wZ (si (m+3)) (m+3)) (m+1)) (m+1) 0 2 1 0 [y,x]=_;simp only[FM,show ¬((0:Int)<0) by omega,aX,aC,aA]
  exact tail _
 ·simp only[h,aX,aC,aA];exact tail _
def aJx (n:Nat):VQ n (IntKind.wrap .u64 (((1:Nat)):Int))=some 1:=by kernel_rfl
def aJw (n:Nat):VQ n (IntKind.wrap .u64 (((2:Nat)):Int))=some 2:=by kernel_rfl
def yJ (a:Nat):lL a a=some ():=by unfold lL;rw[aH rfl]
def awg (n:Nat) (hn:100<n) (x:cC) (hx:x.length<=10):Oj n [x]=some [x]:=by
 obtain ⟨m,rfl⟩:∃q,n=q+4:=⟨n-4,by omega⟩
 have auR:VO (m+4) [x]=some [x]:=by
  unfold VO Q9;show (app [] [x]).bind _=_;rw[dL _ _ (by simp)];rfl
 have auP:VM (m+4) [x] 0 1 1=some [x]:=by
  show FN (J1 (m+3)) (m+3) 0 1 1 true true [x]=_;simp only[FN,w1_0,show ¬((12:Int)<1) by omega,aX,hZ,aB,awb (m+3) (by omega),au,yJ]
 have auQ:VN (m+4) [x]=some [x]:=by
  unfold VN Q8;show (VQ (m+4) (IntKind.wrap .u64 (((1:Nat)):Int))).bind _=_;rw[aJx,au];show (VM (m+4) [x] 0 1 1).bind _=_;rw[auP,au,yJ];rfl
 unfold Oj Rf;rw[auR,au,auQ,au,yJ,au];show sj (oW (m+4)) (wW (oW (m+4)) (m+3)) (m+3) 1 0 [x] []=_;simp only[sj,show ((0:Int)<1) by omega,aU,aB,bl10,au,cA,vB,hY,dL [] x (by simp;omega),jW,dL [] [x] (by simp),w01]
 show sj (oW (m+4)) (wW (oW (m+4)) (m+2)) (m+2) 1 1 [x] [x]=_;simp only[sj,show ¬((1:Int)<1) by omega,aX,aC,aA,oW]
def adE (n:Nat) (hn:200<n) (x y:cC) (hx:x.length<=10) (hy:y.length<=10) (cZ:eZ x y≠0) (hne2:eZ y x≠0):Oj n [x,y]=some (if eZ y x<0 then [y,x] else [x,y]):=by
 obtain ⟨m,rfl⟩:∃q,n=q+4:=⟨n-4,by omega⟩
 have auR:VO (m+4) [x,y]=some [x,y]:=by
  unfold VO Q9;show (app [] [x,y]).bind _=_;rw[dL _ _ (by simp)];rfl
 have auP:VM (m+4) [x,y] 0 2 2=some (if eZ y x<0 then [y,x] else [x,y]):=by
  show FN (J1 (m+3)) (m+3) 0 2 2 true true [x,y]=_;simp only[FN,w20,show ¬((12:Int)<2) by omega,aX,hZ,aB,awa (m+3) (by omega) x y hx hy,au]
  split<;>rfl
 have auQ:VN (m+4) [x,y]=some (if eZ y x<0 then [y,x] else [x,y]):=by
  unfold VN Q8;show (VQ (m+4) (IntKind.wrap .u64 (((2:Nat)):Int))).bind _=_;rw[aJw,au];show (VM (m+4) [x,y] 0 2 2).bind _=_;rw[auP,au];split<;>rfl
 have fin:∀p q:cC,p.length<=10->q.length<=10->eZ p q≠0->wW (oW (m+4)) (m+4) 2 0 [p,q] []=some [p,q]:=λp q hp hq h=>by
  show sj (oW (m+4)) (wW (oW (m+4)) (m+3)) (m+3) 2 0 [p,q] []=_;simp only[sj,show ((0:Int)<2) by omega,aU,aB,ama,au,cA,vB,hY,dL [] p (by simp;omega),jW,dL [] [p] (by simp),w01]
  show sj (oW (m+4)) (wW (oW (m+4)) (m+2)) (m+2) 2 1 [p,q] [p]=_;have hn:(eZ p q !=0)=true:=by simpa using h
  simp only[sj,show ((1:Int)<2) by omega,aU,aB,avN,au,cA,vB,rT,show ((1:Int)==0)=false from rfl,aC,aA,w10,ama,ady (m+2) p q (by omega) (by omega),hn,dL [] q (by simp;omega),jW,dL [p] [q] (by simp),yB,w11]
  show sj (oW (m+4)) (wW (oW (m+4)) (m+1)) (m+1) 2 2 [p,q] [p,q]=_;simp only[sj,show ¬((2:Int)<2) by omega,aX,aC,aA,oW]
 unfold Oj Rf;rw[auR,au,auQ,au];split
 ·rw[show lL [y,x].length [x,y].length=some () from yJ 2,au];exact fin y x hy hx hne2
 ·rw[show lL [x,y].length [x,y].length=some () from yJ 2,au];exact fin x y hx hy cZ
def KG {a:aP}:Ik a b=true↔a=b:=by
 obtain ⟨k,i,t⟩:=a;obtain ⟨k',i',t'⟩:=b;simp[Ik]
def Nu (a b:aP):eZ [a] [b]=lj a b:=by
 unfold eZ;by_cases h:lj a b=0
 ·rw[aH h,h];rfl
 ·rw[aL h]
def kz (l:gu):Prop:=(∃a,l= [⟨a,a⟩])\/∃a b,Ik a b=false/\l= [⟨a,b⟩,⟨b,a⟩]
def WV (k:aF->bU->bU->Option Bool) (g:aF) (T:aj) (c:Nat) (x:cG) (hx:T.ae[c]? =some x) (l:gu) (hl:l.length<=16) (hp:∀p∈l,gB p.f0=true/\p.f0.ay=x.ay):∀(y:gu) (i m:Nat) (uV uU:bU),l.drop i=y->y.length<m->uV.length+y.length<=100->uU.length+y.length<=100->
  Fl k m g T (c:Int) l (l.length:Int) (i:Int) uV uU=k g (uV++y.map λp=> [p.f0]) (uU++y.map λp=> [p.f1])
 | [],i,m+1,uV,uU,hd,hm,_,_=>by
  have hi:l.length<=i:=by simpa using hd
  have hq:¬((i:Int)<(l.length:Int)):=by omega
  simp[Fl,RH,hq]
 |p::y,i,m+1,uV,uU,hd,hm,h1,h2=>by
  let ⟨g1,g2,g3,hq⟩:=gdr hd
  simp at hm h1 h2;obtain ⟨p1,p2⟩:=hp p (cT g1);have ih:=WV k g T c x hx l hl hp y (i+1) m (uV++ [[p.f0]]) (uU++ [[p.f1]]) g2 (by omega) (by simp;omega) (by simp;omega)
  simp only[Fl,RH,hq,aU,aB,bM,g1,au,hx,VS,p1,p2,hY,ny,du,aC,aA,dL uV [[p.f0]] (by simp;omega),dL uU [[p.f1]] (by simp;omega),cf g3 (by omega),ih]
  simp
 |_,_,0,_,_,_,hm,_,_=>by simp at hm
def Gn {l:gu} (h:uH k l=true):∀p∈l,gB p.f0=true/\p.f0.ay=k:=λp hp=>by
 unfold uH at h;simp only[bF,iJ] at h;have:=h.2.2 p hp;exact ⟨this.1,by simpa using this.2.1⟩
def amI (n:Nat) (hn:10<n) (a:aP):uY (od n) n 1 0 [[a]] [[a]]=some true:=by
 obtain ⟨m,rfl⟩:∃q,n=q+3:=⟨n-3,by omega⟩
 show sm (od (m+3)) (uY (od (m+3)) (m+2)) (m+2) 1 0 [[a]] [[a]]=_;have e:(a.ay==a.ay&&(a.bZ==a.bZ&&(decide (a.bB=a.bB)&&true)))=true:=KG.2 rfl;simp only[sm,show ((0:Int)<1) by omega,aU,aB,bl10,au,cA,vB,show idx [a] 0=some a from rfl,hY,ny,du,aC,aA,w01]
 show sm (od (m+3)) (uY (od (m+3)) (m+1)) (m+1) 1 1 [[a]] [[a]]=_;simp only[sm,show ¬((1:Int)<1) by omega,aX,aC,aA,od]
def QF (n:Nat) (hn:10<n) (a b:aP):uY (od n) n 2 0 [[a],[b]] [[a],[b]]=some true:=by
 obtain ⟨m,rfl⟩:∃q,n=q+3:=⟨n-3,by omega⟩
 have e:∀a:aP,(a.ay==a.ay&&(a.bZ==a.bZ&&(decide (a.bB=a.bB)&&true)))=true:=λa=>KG.2 rfl
 show sm (od (m+3)) (uY (od (m+3)) (m+2)) (m+2) 2 0 [[a],[b]] [[a],[b]]=_;simp only[sm,show ((0:Int)<2) by omega,aU,aB,ama,au,cA,vB,show idx [a] 0=some a from rfl,hY,ny,du,aC,aA,w01]
 show sm (od (m+3)) (uY (od (m+3)) (m+1)) (m+1) 2 1 [[a],[b]] [[a],[b]]=_;simp only[sm,show ((1:Int)<2) by omega,aU,aB,avN,au,cA,vB,rT,show idx [b] 0=some b from rfl,hY,ny,du,aC,aA,w11]
 show sm (od (m+3)) (uY (od (m+3)) m) m 2 2 [[a],[b]] [[a],[b]]=_;simp only[sm,show ¬((2:Int)<2) by omega,aX,aC,aA,od]
def asK (n:Nat) (hn:1000<n) (g:aF) (h:kz g.fm.bf):Kg n g (g.fm.bf.map λp=> [p.f0]) (g.fm.bf.map λp=> [p.f1])=some true:=by
 unfold Kg;rcases h with ⟨a,h⟩|⟨a,b,cZ,h⟩
 ·rw[h];simp only[jc,uE,awg n (by omega) [a] (by simp),au]
  exact amI n (by omega) a
 ·rw[h];have hab:a≠b:=λe=>by rw[KG.2 e] at cZ;cases cZ
  have n1:eZ [a] [b]≠0:=by rw[Nu];exact λe=>hab (D8 e)
  have n2:eZ [b] [a]≠0:=by rw[Nu];exact λe=>hab (D8 e).symm
  simp only[jc,uE,adE n (by omega) [a] [b] (by simp) (by simp) n1 n2,adE n (by omega) [b] [a] (by simp) (by simp) n2 n1,au]
  have hneg:=YW a b;simp only[Nu] at n1 n2 ⊢;by_cases cY:lj b a<0
  ·rw[aH cY,aL (show ¬lj a b<0 by omega)]
   simp only[kr,AE,jg,aC,aA];exact QF n (by omega) b a
  ·rw[aL cY,aH (show lj a b<0 by omega)]
   simp only[kr,AE,jg,aC,aA];exact QF n (by omega) a b
def aCU {n:Nat} {s:ag} {m:aE} {j:Nat} {T:aj} (hs:SG s) (hj:m.aG=(j:Int)) (hT:s.ai[j]? =some T) (v:Int) (c:Nat) (x:cG) (hc:m.aN=(c:Int)) (hx:T.ae[c]? =some x) (hk:T.aw<=(c:Int)) (hp:uH x.ay m.bf=true) (hu:zX (c:Int) T=false) (hM:kz m.bf) (hn:100000<n):
  adO n (aF.mk (ag.mk v s.ai) m)=some true:=by
 have fS:=(bY.1 hT).1;have eI:=(bY.1 hx).1;have hG:=hs.cy T (cT hT);have Jv:=Mz n v s.ai m j T hj hT m.aN;rw[hc,rU hk,rU (show (c:Int)<(T.ae.length:Int) by omega)] at Jv
 have abW:=ajf n v s.ai m j T hj hT (by omega) hG.cp (by omega)
 rw[hc,hu] at abW;have hl:1<=m.bf.length/\m.bf.length<=16:=by
  unfold uH at hp;simp only[bF,jX] at hp;exact ⟨hp.1,hp.2.1⟩
 unfold adO aeU;rw[On n v s.ai m j T hj hT,au];have q1:¬((m.bf.length:Int)<1):=by omega
 have q2:¬((16:Int)<(m.bf.length:Int)):=by omega
 simp only[hc,Jv,au,ny,du,aC,aA,abW,q1,q2,aX];have e:=WV (Kg n) (aF.mk (ag.mk v s.ai) m) T c x hx m.bf hl.2 (Gn hp) m.bf 0 n [] [] rfl (by omega) (by simp;omega) (by simp;omega)
 refine Eq.trans e ?_;simp only[jW];exact asK n (by omega) (aF.mk (ag.mk v s.ai) m) hM
def aJs {n:Nat} {s t:ag} {m:aE} (hs:SG s) (hm:MB m) (hb:pX m=true) (h:la s m t) (hM:m.bh=8->kz m.bf) (hn:100000<n):F42 n s m=some (t,true):=by
 have hv0:=hs.v0;have pO:=hs.v1;have h8:=hs.len;have h41:F41 n s=some s:=asy n s (by omega) (λT hT=>(hs.cy T hT).cp) (by omega)
 have w:bl (s.ax+1)=s.ax+1:=dw (by omega) (by omega)
 have h18:1<=m.bh/\m.bh<=8:=by
  unfold pX at hb;simp only[bF,jX] at hb;exact ⟨hb.1,hb.2.1⟩
 have h97:F97 n=some [148,149,150,151,152,153,154,155]:=rfl;have wop:bl (m.bh-1)=m.bh-1:=dw (by omega) (by omega)
 have front:(m.bh=6\/∃j:Nat,m.aG=(j:Int)/\j<s.ai.length)->F42 n s m=vk n (m.bh-1) s m (ag.mk 0 []) [148,149,150,151,152,153,154,155]:=λht=>by
  unfold F42 anJ;rw[h97,au];have q1:¬(m.bh<1):=by omega
  have q2:(m.bh-1)<(([148,149,150,151,152,153,154,155]:List Nat).length:Int):=by simp;omega
  simp only[q1,aX,aC,aA,wop,q2,aU,du,aJi n m hb,au];rcases ht with h6|⟨j,hj,fS⟩
  ·simp[h6]
  ·by_cases h6:m.bh=6
   ·simp[h6]
   ·have q3:(m.bh !=6)=true:=by simpa using h6
    have q4:¬(m.aG<0):=by omega
    have q5:m.aG<(s.ai.length:Int):=by omega
    simp only[q3,aB,q4,aX,aC,aA,q5,aU,du]
 have b42:∀(o:Nat) (t:ag),m.bh-1=(o:Int)->o<8->True->True:=λ_ _ _ _ _=>trivial
 cases h with
 |amo j T eT hj hT hv hk=>
  have fS:=(bY.1 hT).1;rw[front (.inr ⟨j,hj,fS⟩)];unfold vk;rw[h41,au,eT];show (adV n (aF.mk (ag.mk (bl (s.ax+1)) s.ai) m)).bind _=_;rw[w,aDb hs hj hT (s.ax+1) hv hk];rfl
 |XL j c T x eT hj hT hc hx hk hv xj hu=>
  have fS:=(bY.1 hT).1;rw[front (.inr ⟨j,hj,fS⟩)];unfold vk;rw[h41,au,eT];show (adU n (aF.mk (ag.mk (bl (s.ax+1)) s.ai) m)).bind _=_;rw[w,aDa hs hj hT (s.ax+1) eT c x hc hx hk hv xj hu (by omega)]
  rfl
 |move j c d T eT hj hT hc hd h1 h2 hk xk=>
  have fS:=(bY.1 hT).1;rw[front (.inr ⟨j,hj,fS⟩)];unfold vk;rw[h41,au,eT];show (adT n (aF.mk (ag.mk (bl (s.ax+1)) s.ai) m)).bind _=_;rw[w,aCZ hs hj hT (s.ax+1) eT c d hc hd h1 h2 hk xk (by omega)]
  rfl
 |aks j c T x eT hj hT hc hx=>
  have fS:=(bY.1 hT).1;rw[front (.inr ⟨j,hj,fS⟩)];unfold vk;rw[h41,au,eT];show (adS n (aF.mk (ag.mk (bl (s.ax+1)) s.ai) m)).bind _=_;rw[w,aCY hs hj hT (s.ax+1) c x hc hx];rfl
 |akp j T eT hj hT=>
  have fS:=(bY.1 hT).1;rw[front (.inr ⟨j,hj,fS⟩)];unfold vk;rw[h41,au,eT];show (adR n (aF.mk (ag.mk (bl (s.ax+1)) s.ai) m)).bind _=_;rw[w,aCX hj hT (s.ax+1)];rfl
 |amn eT=>
  rw[front (.inl eT)];unfold vk;rw[h41,au,eT];show (adQ n (aF.mk (ag.mk (bl (s.ax+1)) s.ai) m)).bind _=_;rw[w,aCW hs hm (s.ax+1) (by omega)]
  rfl
 |XK j T eT hj hT hr=>
  have fS:=(bY.1 hT).1;rw[front (.inr ⟨j,hj,fS⟩)];unfold vk;rw[h41,au,eT];show (adP n (aF.mk (ag.mk (bl (s.ax+1)) s.ai) m)).bind _=_;rw[w,aCV hs hj fS (s.ax+1) hr (by omega)]
  rfl
 |El j c T x eT hj hT hc hx hk hp hu=>
  have fS:=(bY.1 hT).1;rw[front (.inr ⟨j,hj,fS⟩)];unfold vk;rw[h41,au,eT];show (adO n (aF.mk (ag.mk (bl (s.ax+1)) s.ai) m)).bind _=_;rw[w,aCU hs hj hT (s.ax+1) c x hc hx hk hp hu (hM eT) (by omega)]
  rfl
def ew:ag->cJ->fL->Prop
 |_,[],[]=>True
 |s,m::ms,t::ts=>pX m=true/\la s m t/\gA t=0/\ew t ms ts
 |_,_,_=>False
def ew.len:∀{s:ag} {ms:cJ} {ts:fL},ew s ms ts->ts.length=ms.length
 |_,[],[],_=>rfl
 |_,_::_,_::_,h=>by simp[ew.len h.2.2.2]
 |_,[],_::_,h=>by cases h
 |_,_::_,[],h=>by cases h
def ew.jD:∀{s:ag} {ms:cJ} {ts:fL},ew s ms ts->∀t∈ts,gA t=0
 |_,[],[],_,t,ht=>by cases ht
 |_,_::_,_::_,h,t,ht=>by
  rcases cH.1 ht with rfl|ht
  ·exact h.2.2.1
  ·exact ew.jD h.2.2.2 t ht
 |_,[],_::_,h,_,_=>by cases h
 |_,_::_,[],h,_,_=>by cases h
def la.ver {s t:ag} {m:aE} (h:la s m t):t.ax=s.ax+1:=by cases h<;>rfl
def DD {l:List J} {x:J} (h:l.getLast? =some x):l≠ []/\l[l.length-1]? =some x:=by
 cases l with
 |nil=>cases h
 |cons a l=>exact ⟨by simp,by rw[<-agv];exact h⟩
def adp (n0:Nat) (ms:cJ) (hl:ms.length<=8) (hm:∀m∈ms,MB m):∀(x:cJ) (i k:Nat) (b:fL) (cur:ag),ms.drop i=x->x.length+1700000<k->k<4294967296->b.length<=100+i->i<=8->b.getLast? =some cur->gA cur=0->
  Ok (Aw (MM n0) k (ms.length:Int) (i:Int) ms b) λr=>r.2=0->∃ts,r.1=b++ts/\ew cur x ts
 | [],i,k+1,b,cur,hd,hk,jC,hb,hi8,hc,hs=>by
  have hi:ms.length<=i:=by simpa using hd
  have hq:¬((i:Int)<(ms.length:Int)):=by omega
  simp only[Aw,MN,hq,aX,aC,aA,MM];exact Ok.pure λ_=>⟨[],by simp,trivial⟩
 |mg::x,i,k+1,b,cur,hd,hk,jC,hb,hi8,hc,hs=>by
  let ⟨g1,g2,g3,hq⟩:=gdr hd
  simp at hk;obtain ⟨cZ,CI⟩:=DD hc;have ur:0<b.length:=SQ.2 cZ;have w:bl ((b.length:Int)-1)=((b.length-1:Nat):Int):=by rw[dw (by omega) (by omega)];omega
  simp only[Aw,MN,hq,aU,aB,gC g3,au,cA,g1,w,gC (show b.length-1<b.length by omega),CI]
  refine Ok.bind (aJj k (by omega) (by omega) cur (.of hs) mg (hm mg (cT g1))) λr hr=> ?_
  refine Ok.ite (λ_=>Ok.pure λh=>by cases h) λh2=> ?_
  have h2:r.2=true:=by simpa using h2
  obtain ⟨q1,q2,q3⟩:=hr h2;rw[dL b [r.1] (by simp;omega),au,cf g3 (by omega)]
  refine (adp n0 ms hl hm x (i+1) k (b++ [r.1]) r.1 g2 (by omega) (by omega) (by simp;omega) (by omega) (by simp) q3).mono λr' jB h=> ?_
  obtain ⟨ts,e1,e2⟩:=jB h;exact ⟨r.1::ts,by rw[e1];simp,q1,q2,q3,e2⟩
 |_,_,0,_,_,_,hk,_,_,_,_,_=>by simp at hk
def asz (n:Nat) (hn:1800000<n) (fN:n<4294967296) (s:ag) (hs:gA s=0) (ms:cJ) (hm:∀m∈ms,MB m) (hl:ms.length<=100000):Ok (F40 n s ms) λr=>r.2=0->ms.length<=8/\s.ax+(ms.length:Int)<=1000/\∃ts,r.1=s::ts/\ew s ms ts:=by
 have hG:=SG.of hs;have hv0:=hG.v0;have pO:=hG.v1;unfold F40 Yx;rw[FI n s (λT hT=>(hG.cy T hT).vH) (by omega) fN,au,hs]
 refine Ok.ite (λh=>by cases h) λ_=>Ok.ite (λ_=>Ok.pure λh=>by cases h) λh8=>Ok.ite (λ_=>Ok.pure λh=>by cases h) λhv=> ?_
 have h8:=F0 h8;have hv:=F0 hv;rw[dw (by omega) (by omega)] at hv
 have h:=adp n ms (by omega) hm ms 0 n [s] s rfl (by omega) fN (by simp) (by omega) rfl hs
 exact Ok.mono h λr hr h0=>⟨by omega,by omega,hr h0⟩
def adv (n0:Nat) (ms:cJ) (hl:ms.length<=8) (hm:∀m∈ms,MB m/\(m.bh=8->kz m.bf)):∀(x:cJ) (i k:Nat) (b ts:fL) (cur:ag),ms.drop i=x->x.length+1700000<k->k<4294967296->b.length<=100+i->i<=8->b.getLast? =some cur->gA cur=0->ew cur x ts->
  My (YN n0) k ms (ms.length:Int) (i:Int) b=some (b++ts,0)
 | [],i,k+1,b,[],cur,hd,hk,jC,hb,hi8,hc,hs,sf=>by
  have hi:ms.length<=i:=by simpa using hd
  have hq:¬((i:Int)<(ms.length:Int)):=by omega
  simp only[My,YO,hq,aX,aC,aA,YN,tN]
 |mg::x,i,k+1,b,t::ts,cur,hd,hk,jC,hb,hi8,hc,hs,sf=>by
  let ⟨g1,g2,g3,hq⟩:=gdr hd
  simp at hk;obtain ⟨cZ,CI⟩:=DD hc;have ur:0<b.length:=SQ.2 cZ;have w:bl ((b.length:Int)-1)=((b.length-1:Nat):Int):=by rw[dw (by omega) (by omega)];omega
  obtain ⟨c1,c2,c3,c4⟩:=sf;obtain ⟨m1,m2⟩:=hm mg (cT g1);have h42:=aJs (n:=k) (SG.of hs) m1 c1 c2 m2 (by omega)
  have Jw:=QI k t (λT hT=>((SG.of c3).cy T hT).vH) (by omega) (by omega)
  rw[c3] at Jw;simp only[My,YO,hq,aU,aB,bM,gC (show b.length-1<b.length by omega),au,cA,g1,w,CI,h42,du,aC,aA,Jw,jg,dL b [t] (by simp;omega),cf g3 (by omega)]
  rw[adv n0 ms hl hm x (i+1) k (b++ [t]) ts t g2 (by omega) (by omega) (by simp;omega) (by omega) (by simp) c3 c4]
  simp
 |_,_,0,_,_,_,_,hk,_,_,_,_,_,_=>by simp at hk
 | [],_,_+1,_,_::_,_,_,_,_,_,_,_,_,h=>by cases h
 |_::_,_,_+1,_,[],_,_,_,_,_,_,_,_,h=>by cases h
def aJz (n:Nat) (hn:1800000<n) (fN:n<4294967296) (s:ag) (hs:gA s=0) (ms:cJ) (hm:∀m∈ms,MB m/\(m.bh=8->kz m.bf)) (hl:ms.length<=8) (hv:s.ax+(ms.length:Int)<=1000) (ts:fL) (hc:ew s ms ts):F14 n s ms=some (s::ts,0):=by
 have hG:=SG.of hs;have hv0:=hG.v0;have h8:=hG.len;have Jw:=QI n s (λT hT=>(hG.cy T hT).vH) (by omega) (by omega)
 rw[hs] at Jw;unfold F14 anU;have q1:¬((8:Int)<(ms.length:Int)):=by omega
 have w:bl (s.ax+(ms.length:Int))=s.ax+(ms.length:Int):=dw (by omega) (by omega)
 have q2:¬((1000:Int)<s.ax+(ms.length:Int)):=by omega
 simp only[Jw,au,jg,aC,aA,q1,aX,w,q2,asy n s (by omega) (λT hT=>(hG.cy T hT).cp) (by omega)]
 exact adv n ms hl hm ms 0 n [s] ts s rfl (by omega) fN (by simp) (by omega) rfl hs hc
def awl (n:Nat) (m:aE) (h:pX m=true):VW n m=some true:=by
 have key:∀q:aE,BT q=true->qa n q=some true:=λq hq=>by
  unfold BT at hq;simp only[bF,qI,jX] at hq;obtain ⟨a1,a2,a3,a4,a5,a6,a7,a8,a9,a10,a11,a12⟩:=hq;have a1':((q.aD.ay==0)&&((q.aD.bZ==0)&&((decide (q.aD.bB=ByteArray.empty))&&true)))=true:=a1;unfold qa;simp only[a1',a2,a3,a4,a5,a6,a7,a8,a9,a10,a11,a12];rfl
 unfold pX at h;simp only[bF,jX] at h;obtain ⟨h1,h8,hb⟩:=h;have hb:=key _ hb;unfold VW Sb;unfold OG at hb;rcases (by omega:m.bh=1\/m.bh=2\/m.bh=3\/m.bh=4\/m.bh=5\/m.bh=6\/m.bh=7\/m.bh=8) with e|e|e|e|e|e|e|e<;>(simp[e,zv,zT] at hb;simp[e,hb])
def aJk (n:Nat) (hn:1700000<n) (fN:n<4294967296) (s:ag) (hs:SG s) (m:aE) (hm:MB m) {t:ag} (hb:pX m=true) (h:la s m t) (ht:gA t=0):F95 n s m=some (t,true):=by
 have hl8:=hs.len;have hv0:=hs.v0;have pO:=hs.v1;unfold F95 QM;rw[awl n m hb,au,du,aL OF];refine (Of (ze n) s.ai (by omega) (λT hT=>(hs.cy T hT).cp) s m s.ai 0 n (ag.mk 0 []) (ag.mk (bl (s.ax+1)) []) rfl (by omega)).trans ?_
 rw[dw (by omega) (by omega)]
 have gV:∀U∈s.ai,xa U:=λU hU=>(hs.cy U hU).vH
 have done:∀(b4:ag) (vv:ag) (ts:bn),vv.ax=s.ax+1->(∀U∈ts,xa U)->t=⟨s.ax+1,ts⟩->mf n b4 vv ts=some (t,true):=λb4 vv ts h2 h3 h4=>by
  unfold mf;rw[FI n ⟨vv.ax,ts⟩ h3 (by omega) fN,au,h2,<-h4,ht]
  rfl
 have mid:m.bh≠6->∀(j:Nat) (T:aj),m.aG=(j:Int)->s.ai[j]? =some T->(∀b4,uj n j (T.ae.length:Int) (decide (T.aw<=m.aN)&&decide (m.aN<(T.ae.length:Int))) s m b4 ⟨s.ax+1,s.ai⟩ s.ai=some (t,true))->ze n s m (ag.mk 0 []) (ag.mk (s.ax+1) s.ai) s.ai=some (t,true):=λh6 j T hj hT hk=>by
  have fS:=(bY.1 hT).1;have iR:setAt s.ai j T=some s.ai:=by rw[dx _ fS,jE hT]
  have q6:(m.bh==6)=false:=SR h6;have q1:¬((j:Int)<0):=by omega
  have q2:(j:Int)<(s.ai.length:Int):=by omega
  unfold ze;simp only[q6,aC,aA,hj,q1,aX,q2,aU,du,gC fS,au,cA,hT];by_cases hc:T.aw<=m.aN
  ·have sZ:¬m.aN<T.aw:=by omega
   simp only[sZ,aX,hZ,aB,iR,au];have:=hk (ag.mk 0 []);rwa[rU hc,gR] at this
  ·have sZ:m.aN<T.aw:=by omega
   simp only[sZ,aU,du,aC,aA,iR,au];have:=hk (ag.mk 0 []);rwa[AX hc,gf] at this
 cases h with
 |amo j T q hj hT hv hk=>
  refine mid (by omega) j T hj hT λb4=> ?_
  have fS:=(bY.1 hT).1;have hG:=hs.cy T (cT hT);have hc8:=hG.cols;simp only[uj,q,Int.reduceBEq,aB,AU,au,hv,du,aC,aA,hk,jg,hT,dL _ _ (show T.ae.length+ [(cG.mk m.av m.ay)].length<=1000000 by simp;omega),dx _ fS]
  show mf _ _ _ _=_;exact done _ _ _ rfl (sr gV hG.vH) rfl
 |XL j c T x q hj hT hc hx hk hv xj hu=>
  refine mid (by omega) j T hj hT λb4=> ?_
  have fS:=(bY.1 hT).1;have hG:=hs.cy T (cT hT);have hc8:=hG.cols;have iR:setAt s.ai j T=some s.ai:=by rw[dx _ fS,jE hT]
  have eI:=(bY.1 hx).1;have w:bl ((c:Int)+1)=((c+1:Nat):Int):=cf eI (by omega)
  have ct:tE T.ae.length (c:Int)=some c:=by unfold tE;rw[aH ⟨by omega,by omega⟩];rfl
  have cl:BQ T.ae.length ((c+1:Nat):Int)=some (c+1):=by unfold BQ;rw[aH ⟨by omega,by omega⟩];rfl
  have an:G6 T.ae c ((T.ae.drop (c+1)).take (T.ae.length-(c+1)))=some (T.ae.take c++T.ae.drop (c+1)):=by
   unfold G6;rw[kq (l:=T.ae.drop (c+1)) (by simp),aH ⟨by omega,by omega,by simp;omega⟩]
  have tok:TOK (T.ae.length:Int) ⟨T.av,T.ae.take c++T.ae.drop (c+1),T.aw,T.af,T.ak⟩:=⟨by rw[yc eI];omega,hG.tok.refs,hG.tok.ref,hG.tok.zI,hG.tok.jD⟩
  have q1:T.aw<=(c:Int):=hk;have q2:(c:Int)<(T.ae.length:Int):=by omega
  simp only[uj,q,Int.reduceBEq,aC,aA,aB,hT,au,hc,q1,q2,aU,ny,du,AU,hv,gC eI,cA,hx,xj,jg,MC n T (c:Int) (by omega) hG.cp (by omega),hu,jE hT,w,ct,cl,an,MA n _ (T.ae.length:Int) (by omega) tok (c:Int) (-1) ⟨by omega,by omega⟩ (by omega),dx _ fS]
  show mf _ _ _ _=_;exact done _ _ _ rfl (sr gV (KI (T:=⟨T.av,T.ae.take c++T.ae.drop (c+1),T.aw,T.af,T.ak⟩) hG.vH)) rfl
 |move j c d T q hj hT hc hd h1 h2 hk xk=>
  refine mid (by omega) j T hj hT λb4=> ?_
  have fS:=(bY.1 hT).1;have hG:=hs.cy T (cT hT);have hc8:=hG.cols;have iR:setAt s.ai j T=some s.ai:=by rw[dx _ fS,jE hT]
  have q1:T.aw<=(c:Int):=hk;have q2:(c:Int)<(T.ae.length:Int):=by omega
  have q3:¬(d:Int)<T.aw:=by omega
  have q4:(d:Int)<(T.ae.length:Int):=by omega
  have abQ:rA (T.ae.length:Int) ((cG.mk ByteArray.empty 0):cG)=some (List.replicate T.ae.length (cG.mk ByteArray.empty 0)):=by
   unfold rA;rw[aH ⟨by omega,by omega⟩];rfl
  simp only[uj,q,Int.reduceBEq,aC,aA,aB,hT,au,hc,hd,q1,q2,q3,q4,aU,aX,ny,du,abQ];obtain ⟨y9,e⟩:=Oe (MI (mf n) n) j m c d hc hd T.ae hc8 h1 h2 s.ai T.ae 0 n (ag.mk b4.ax []) (ag.mk (s.ax+1) s.ai) (List.replicate T.ae.length (cG.mk ByteArray.empty 0)) (aj.mk T.av [] T.aw T.af T.ak) rfl (by omega) (by simp) (λq hq=>by omega) (by omega)
  refine e.trans ?_;rw[iR,au];unfold MI;have tok:TOK (T.ae.length:Int) ⟨T.av,uJ T.ae c d,T.aw,T.af,T.ak⟩:=⟨by rw[Lx h1 h2];omega,hG.tok.refs,hG.tok.ref,hG.tok.zI,hG.tok.jD⟩
  rw[hT,au,MA n _ (T.ae.length:Int) (by omega) tok m.aN m.eL hm.CU (by omega),au,dx _ fS,au,hc,hd]
  show mf _ _ _ _=_;exact done _ _ _ rfl (sr gV (KI (T:=⟨T.av,uJ T.ae c d,T.aw,T.af,T.ak⟩) hG.vH)) rfl
 |aks j c T x q hj hT hc hx=>
  refine mid (by omega) j T hj hT λb4=> ?_
  have fS:=(bY.1 hT).1;have hG:=hs.cy T (cT hT);have eI:=(bY.1 hx).1;have q1:¬(c:Int)<0:=by omega
  have q2:(c:Int)<(T.ae.length:Int):=by omega
  simp only[uj,q,Int.reduceBEq,aC,aA,aB,hT,au,hc,q1,q2,aU,aX,du,gC eI,cA,hx,dx _ eI,dx _ fS];show mf _ _ _ _=_;exact done _ _ _ rfl (sr gV hG.vH) rfl
 |akp j T q hj hT=>
  refine mid (by omega) j T hj hT λb4=> ?_
  have fS:=(bY.1 hT).1;have hG:=hs.cy T (cT hT);simp only[uj,q,Int.reduceBEq,aC,aA,aB,hT,au,dx _ fS];show mf _ _ _ _=_;exact done _ _ _ rfl (sr gV hG.vH) rfl
 |amn q=>
  have hz:∀T∈s.ai++ [m.ar],xa T:=λT hT=>by
   rcases eR.1 hT with h|h
   ·exact (hs.cy T h).vH
   ·rw[ez.1 h];exact λp hp=>by have:=hm.dfn.jD p hp;omega
  unfold ze;rw[aH (by rw[q];rfl),VV n m.ar hm.dfn.len hm.dfn.ref (by omega),au,dL _ _ (by simp;omega),au,dx _ (by simp),au,jE (by simp)]
  rw[FI n ⟨s.ax+1,s.ai++ [m.ar]⟩ hz (by omega) fN,au,ht]
  rfl
 |XK j T q hj hT hr=>
  refine mid (by omega) j T hj hT λb4=> ?_
  have fS:=(bY.1 hT).1;have auE:yL j s.ai 0:=λq U h=>by omega
  have uo:yL j s.ai s.ai.length:=λi U _ hi hU=>by
   unfold r7;rw[iJ];exact λr h=>by simpa using hr i U hi hU r h
  obtain ⟨r,e,hP⟩:=Hd (P:=λr=>r=(_,true)) (MG (mf n) n) s m j hj (by omega) s.ai (by omega) (λU hU=>⟨by have:=(hs.cy U hU).refs;omega,λr hr=>by obtain ⟨_,_,r1,r2⟩:=(hs.cy U hU).ref r hr;exact ⟨by omega,by omega⟩⟩) (s.ax+1) (λh=>absurd uo h) (λy9 iZ cur g _=>by
   unfold MG;exact ⟨_,done _ _ _ rfl (λU hU=>by
    obtain ⟨V,hV,rfl⟩:=cO.1 hU;have hV':V∈s.ai:=by
     rcases eR.1 hV with h|h
     ·exact qG h
     ·exact oE h
    exact gV V hV') rfl,rfl⟩) s.ai 0 n (ag.mk b4.ax []) s.ai s.ai rfl (by omega) rfl (λ_ _=>rfl) auE
  rw[show (pq j (s.ai.take 0)).map (ma (j:Int))= [] by simp[pq]] at e
  rw[hP] at e;simp only[uj,q,Int.reduceBEq,aC,aA,aB];exact e
 |El j c T x q hj hT hc hx hk hp hu=>
  refine mid (by omega) j T hj hT λb4=> ?_
  have fS:=(bY.1 hT).1;have hG:=hs.cy T (cT hT);have hc8:=hG.cols;have iR:setAt s.ai j T=some s.ai:=by rw[dx _ fS,jE hT]
  have eI:=(bY.1 hx).1;have q1:T.aw<=(c:Int):=hk;have q2:(c:Int)<(T.ae.length:Int):=by omega
  simp only[uj,q,Int.reduceBEq,aC,aA,aB,hT,au,hc,q1,q2,aU,ny,du,gC eI,cA,hx,ajs n m.bf _ (by omega),hp,MC n T (c:Int) (by omega) hG.cp (by omega),hu,iR]
  show mf _ _ _ _=_;exact done _ _ _ rfl gV rfl
def adq (n0:Nat) (ms:cJ) (hl:ms.length<=8) (hm:∀m∈ms,MB m):∀(x:cJ) (i k:Nat) (b ts:fL) (cur:ag),ms.drop i=x->x.length+1700000<k->k<4294967296->b.length<=100+i->i<=8->b.getLast? =some cur->gA cur=0->ew cur x ts->
  Aw (MM n0) k (ms.length:Int) (i:Int) ms b=some (b++ts,0)
 | [],i,k+1,b,[],cur,hd,hk,jC,hb,hi8,hc,hs,sf=>by
  have hi:ms.length<=i:=by simpa using hd
  have hq:¬((i:Int)<(ms.length:Int)):=by omega
  simp only[Aw,MN,hq,aX,aC,aA,MM,tN]
 |mg::x,i,k+1,b,t::ts,cur,hd,hk,jC,hb,hi8,hc,hs,sf=>by
  let ⟨g1,g2,g3,hq⟩:=gdr hd
  simp at hk;obtain ⟨cZ,CI⟩:=DD hc;have ur:0<b.length:=SQ.2 cZ;have w:bl ((b.length:Int)-1)=((b.length-1:Nat):Int):=by rw[dw (by omega) (by omega)];omega
  obtain ⟨c1,c2,c3,c4⟩:=sf;have e95:=aJk k (by omega) (by omega) cur (.of hs) mg (hm mg (cT g1)) c1 c2 c3
  simp only[Aw,MN,hq,aU,aB,gC g3,au,cA,g1,w,gC (show b.length-1<b.length by omega),CI,e95,du,aC,aA,dL b [t] (by simp;omega),cf g3 (by omega)]
  rw[adq n0 ms hl hm x (i+1) k (b++ [t]) ts t g2 (by omega) (by omega) (by simp;omega) (by omega) (by simp) c3 c4]
  simp
 |_,_,0,_,_,_,_,hk,_,_,_,_,_,_=>by simp at hk
 | [],_,_+1,_,_::_,_,_,_,_,_,_,_,_,h=>by cases h
 |_::_,_,_+1,_,[],_,_,_,_,_,_,_,_,h=>by cases h
def aJt (n:Nat) (hn:1800000<n) (fN:n<4294967296) (s:ag) (hs:gA s=0) (ms:cJ) (hm:∀m∈ms,MB m) (hl:ms.length<=8) (hv:s.ax+(ms.length:Int)<=1000) (ts:fL) (hc:ew s ms ts):F40 n s ms=some (s::ts,0):=by
 have hG:=SG.of hs;have hv0:=hG.v0;unfold F40 Yx;have q1:¬((8:Int)<(ms.length:Int)):=by omega
 have w:bl (s.ax+(ms.length:Int))=s.ax+(ms.length:Int):=dw (by omega) (by omega)
 have q2:¬((1000:Int)<s.ax+(ms.length:Int)):=by omega
 rw[FI n s (λT hT=>(hG.cy T hT).vH) (by omega) fN,au,hs]
 simp only[jg,aC,aA,q1,aX,w,q2];exact adq n ms hl hm ms 0 n [s] ts s rfl (by omega) fN (by simp) (by omega) rfl hs hc
end Go.Proofs.YtbnkhmoelnfjoaaGreat
end
