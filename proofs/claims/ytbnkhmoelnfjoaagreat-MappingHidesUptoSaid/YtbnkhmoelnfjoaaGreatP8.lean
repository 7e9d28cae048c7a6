/- Part. -/
import Derived.Test.YtbnkhmoelnfjoaaGreatP7
import Derived.Laws.RangeString
import Derived.Laws.RangeAny
import Derived.Test.YtbnkhmoelnfjoaaGreatP4
set_option linter.all false
set_option maxRecDepth 100000
noncomputable section
namespace Go.Proofs.YtbnkhmoelnfjoaaGreat
open Go.bZ
variable {i d p a:Nat} {k x c:Int} {l o:aT} {cols params ks:aK} {J:Type} {b:aR} {seen:List ByteArray} {f:Int->Int} {q:Int->Bool} {ts:br}
def zL (k:Int):Bool:=k==3||k==4||k==5
def mJ (l:aK):Bool:=l.all zL
def bY {L:Nat} (h:i<L) (hl:L<4294967296):bl ((i:Int)+1)=((i+1:Nat):Int):=by rw[dv (by omega) (by omega)];rfl
def aiO (n:Nat) (k:Int):adp n k=some (zL k):=by
 unfold adp aen zL;by_cases h3:k=3
 ·simp[h3]
 ·by_cases h4:k=4
  ·simp[h4]
  ·simp[h3,h4]
def aiz (xs:aK) (hl:xs.length<4294967296):∀(l:aK) (i n:Nat),xs.drop i=l->l.length<n->Fb (some true) n xs (xs.length:Int) (i:Int)=some (mJ l)
 | [],i,n+1,hd,hn=>by
  have:xs.length<=i:=by simpa using hd
  have h:¬((i:Int)<(xs.length:Int)):=by omega
  simp[Fb,Rg,h,mJ]
 |x::l,i,n+1,hd,hn=>by
  obtain ⟨h1,h2,h3⟩:=bC hd;have h:((i:Int)<(xs.length:Int)):=by omega
  have ih:=aiz xs hl l (i+1) n h2 (by simp at hn;omega)
  simp only[Fb,Rg,h,aU,aB,bO,h1,au,aiO,bY h3 hl,ih];simp only[mJ,tN];cases zL x<;>simp
 |_,_,0,_,hn=>by simp at hn
def aiT (n:Nat) (xs:aK) (hl:xs.length<4294967296) (hn:xs.length<n):adr n xs=some (mJ xs):=by
 have:=aiz xs hl xs 0 n rfl hn;simpa[adr,aet,aeu] using this
def aiF (xs:aK) (hl:xs.length<4294967296):∀(l:aK) (i n:Nat),xs.drop i=l->l.length<n->FB (some true) n xs (xs.length:Int) (i:Int)=some (mJ l)
 | [],i,n+1,hd,hn=>by
  have:xs.length<=i:=by simpa using hd
  have h:¬((i:Int)<(xs.length:Int)):=by omega
  simp[FB,Sm,h,mJ]
 |x::l,i,n+1,hd,hn=>by
  obtain ⟨h1,h2,h3⟩:=bC hd;have h:((i:Int)<(xs.length:Int)):=by omega
  have ih:=aiF xs hl l (i+1) n h2 (by simp at hn;omega)
  simp only[FB,Sm,h,aU,aB,bO,h1,au,bY h3 hl,ih];simp only[mJ,tN,zL];by_cases q3:x=3
  ·simp[q3]
  ·by_cases q4:x=4
   ·simp[q4]
   ·by_cases q5:x=5<;>simp[q3,q4,q5]
 |_,_,0,_,hn=>by simp at hn
def aje (n:Nat) (xs:aK) (hl:xs.length<4294967296) (hn:xs.length<n):adL n xs=some (mJ xs):=by
 have:=aiF xs hl xs 0 n rfl hn;simpa[adL,afg,afh] using this
mutual
def qS:ah->Nat
 |⟨_,_,_,_,args⟩=>1+pN args
def pN:bN->Nat
 | []=>0
 |x::xs=>qS x+pN xs
end
mutual
def uw:ah->Nat
 |⟨_,_,_,_,args⟩=>1+tC args
def tC:bN->Nat
 | []=>0
 |x::xs=>max (uw x) (tC xs)
end
def ahG (p:ah):1<=qS p:=by obtain ⟨_,_,_,_,_⟩:=p;simp[qS]
def aiS:∀(n:Nat) (p:ah) (m:Int),fC p<=n->fC p<4294967296->0<=m->m<=24->Ok (VB n p m) λr=>r<=25/\(m+qS p<=24->r=m+qS p)/\(24<m+qS p->24<r)
 |0,⟨_,_,_,_,_⟩,_,h,_,_,_=>by simp[fC] at h
 |n+1,⟨op,c,l,r,args⟩,m,h,hb,h0,h1=>by
  simp only[fC] at h hb;have hlen:=pw args;have loop:∀(xs:bN) (i k:Nat) (m:Int),args.drop i=xs->xs.length<k->0<=m->m<=25->
    Ok (Fa (VB n) (λr=>some r) k m (i:Int) ⟨op,c,l,r,args⟩) λr=>r<=25/\(m+pN xs<=24->r=m+pN xs)/\(24<m+pN xs->24<r):=by
   intro xs;induction xs with
   |nil=>
    intro i k m hd hk m0 m1;have:args.length<=i:=by simpa using hd
    have hq:¬((i:Int)<(args.length:Int)):=by omega
    cases k with
    |zero=>simp at hk
    |succ k=>
     simp only[Fa,Rf,hq,aX,aC,aA];exact Ok.pure ⟨m1,λ_=>by simp[pN],λh=>by simp[pN] at h;exact h⟩
   |cons x xs ih=>
    intro i k m hd hk m0 m1;obtain ⟨g1,g2,g3⟩:=bC hd;have hq:((i:Int)<(args.length:Int)):=by omega
    cases k with
    |zero=>simp at hk
    |succ k=>
     simp only[Fa,Rf,hq,aU,aB];have hx:x∈args:=cN g1;have hs:=sx hx;have xe:=ahG x;refine Ok.ite (λhm=> ?_) λhm=> ?_
     ·simp at hm;rw[bO,g1,au];refine Ok.bind (aiS n x m (by omega) (by omega) m0 hm) λr ⟨r1,r2,r3⟩=> ?_
      rw[bY g3 (by omega)]
      have hr0:0<=r:=by
       by_cases hz:m+qS x<=24
       ·have:=r2 hz;omega
       ·have:=r3 (by omega);omega
      refine (ih (i+1) k r g2 (by simp at hk;omega) hr0 r1).mono λr' ⟨q1,q2,q3⟩=>⟨q1,λhle=> ?_,λcV=> ?_⟩
      ·simp only[pN] at hle ⊢;have e:=r2 (by omega)
       have:=q2 (by omega)
       omega
      ·simp only[pN] at cV;by_cases hz:m+qS x<=24
       ·have e:=r2 hz;exact q3 (by omega)
       ·have e:=r3 (by omega)
        exact q3 (by omega)
     ·simp at hm;exact Ok.pure ⟨m1,λhle=>by simp only[pN] at hle;omega,λ_=>hm⟩
  unfold VB aes;rw[dv (by omega) (by omega)]
  refine (loop args 0 n (m+1) rfl (by omega) (by omega) (by omega)).mono λr' ⟨q1,q2,q3⟩=>⟨q1,λhle=> ?_,λcV=> ?_⟩
  ·simp only[qS] at hle ⊢;have:=q2 (by omega)
   omega
  ·simp only[qS] at cV;exact q3 (by omega)
def aiR:∀(n:Nat) (p:ah) (m:Nat),fC p<=n->fC p<4294967296->m<=1000->JU n p (m:Int)=some (decide (m<uw p))
 |0,⟨_,_,_,_,_⟩,_,h,_,_=>by simp[fC] at h
 |n+1,⟨op,c,l,r,args⟩,0,h,hb,hm=>by
  have:0<uw ⟨op,c,l,r,args⟩:=by simp only[uw];omega
  simp[JU,Rb,this]
 |n+1,⟨op,c,l,r,args⟩,m+1,h,hb,hm=>by
  simp only[fC] at h hb;have hlen:=pw args;have loop:∀(xs:bN) (i k:Nat),args.drop i=xs->xs.length<k->
    E9 (JU n) (some false) k ((m+1:Nat):Int) (args.length:Int) (i:Int) ⟨op,c,l,r,args⟩=some (decide (m<tC xs)):=by
   intro xs;induction xs with
   |nil=>
    intro i k hd hk;have:args.length<=i:=by simpa using hd
    have hq:¬((i:Int)<(args.length:Int)):=by omega
    cases k with
    |zero=>simp at hk
    |succ k=>simp[E9,Re,hq,tC]
   |cons x xs ih=>
    intro i k hd hk;obtain ⟨g1,g2,g3⟩:=bC hd;have hq:((i:Int)<(args.length:Int)):=by omega
    cases k with
    |zero=>simp at hk
    |succ k=>
     have hx:x∈args:=cN g1;have hs:=sx hx;have hw:bl (((m+1:Nat):Int)-1)=(m:Int):=by rw[dv (by omega) (by omega)];omega
     simp only[E9,Re,hq,aU,aB,bO,g1,au,hw,aiR n x m (by omega) (by omega) (by omega),bY g3 (by omega:args.length<4294967296),
      ih (i+1) k g2 (by simp at hk;omega)]
     by_cases xh:m<uw x
     ·have:m<tC (x::xs):=by simp only[tC];omega
      simp[xh,this]
     ·have:(m<tC (x::xs))↔m<tC xs:=by simp only[tC];omega
      simp[xh,this]
  have cY:¬(((m+1:Nat):Int)=0):=by omega
  have hl:=loop args 0 n rfl (by omega)
  have e:(m+1<uw ⟨op,c,l,r,args⟩)↔m<tC args:=by simp only[uw];omega
  simp only[JU,Rb,tP,cY,aA,aer];rw[show ((0:Int))=((0:Nat):Int) from rfl,hl];simp[e]
def ajd:∀(n:Nat) (p:ah) (v b:Int),fC p<=n->fC p<4294967296->1<=v->v<=9->0<=b->b<=24->
  Ok (VJ n p v b) λr=>(r.1=true↔((qS p:Int)<=b/\v+uw p<=9))/\(r.1=true->r.2=b-qS p)
 |0,⟨_,_,_,_,_⟩,_,_,h,_,_,_,_,_=>by simp[fC] at h
 |n+1,⟨op,c,l,r,args⟩,v,b,h,hb,v1,v2,b1,b2=>by
  simp only[fC] at h hb;have hlen:=pw args;have loop:∀(xs:bN) (i k:Nat) (b:Int),args.drop i=xs->xs.length<k->v<=8->0<=b->b<=24->
    Ok (FA (VJ n) (λb=>some (true,b)) k v args (args.length:Int) (i:Int) b) λr=>(r.1=true↔((pN xs:Int)<=b/\v+tC xs<=8))/\(r.1=true->r.2=b-pN xs):=by
   intro xs;induction xs with
   |nil=>
    intro i k b hd hk hv b1 b2;have:args.length<=i:=by simpa using hd
    have hq:¬((i:Int)<(args.length:Int)):=by omega
    cases k with
    |zero=>simp at hk
    |succ k=>
     simp only[FA,Sl,hq,aX,aC,aA];exact Ok.pure ⟨by simp[pN,tC];omega,by simp[pN]⟩
   |cons x xs ih=>
    intro i k b hd hk hv b1 b2;obtain ⟨g1,g2,g3⟩:=bC hd;have hq:((i:Int)<(args.length:Int)):=by omega
    cases k with
    |zero=>simp at hk
    |succ k=>
     have hx:x∈args:=cN g1;have hs:=sx hx;simp only[FA,Sl,hq,aU,aB,bO,g1,au];rw[dv (x:=v+1) (by omega) (by omega)]
     refine Ok.bind (ajd n x (v+1) b (by omega) (by omega) (by omega) (by omega) b1 b2) λr ⟨r1,r2⟩=> ?_
     refine Ok.ite (λhr=> ?_) λhr=> ?_
     ·simp at hr;refine Ok.pure ⟨⟨λh=>by simp at h,λ⟨h1,h2⟩=> ?_⟩,λh=>by simp at h⟩
      simp only[pN,tC] at h1 h2;have:=r1.2 ⟨by omega,by omega⟩
      rw[hr] at this;exact absurd this (by simp)
     ·simp at hr;have e:=r2 hr;have q:=r1.1 hr;rw[bY g3 (by omega)]
      have xe:=ahG x;refine (ih (i+1) k r.2 g2 (by simp at hk;omega) hv (by omega) (by omega)).mono λr' ⟨q1,q2⟩=>⟨⟨λh=> ?_,λ⟨h1,h2⟩=> ?_⟩,λh=> ?_⟩
      ·have:=q1.1 h;simp only[pN,tC];omega
      ·simp only[pN,tC] at h1 h2;exact q1.2 ⟨by omega,by omega⟩
      ·have:=q2 h;simp only[pN];omega
  unfold VJ aff;rw[dv (by omega) (by omega)]
  simp only[qS,uw];refine Ok.ite (λo6=> ?_) λo6=> ?_
  ·simp at o6;refine Ok.pure ⟨⟨λh=>by simp at h,λh=> ?_⟩,λh=>by simp at h⟩
   omega
  ·simp at o6;refine Ok.ite (λhv=> ?_) λhv=> ?_
   ·simp at hv;refine Ok.pure ⟨⟨λh=>by simp at h,λh=> ?_⟩,λh=>by simp at h⟩
    omega
   ·simp at hv;refine (loop args 0 n (b-1) rfl (by omega) hv (by omega) (by omega)).mono λr' ⟨q1,q2⟩=>⟨⟨λh=> ?_,λ⟨h1,h2⟩=> ?_⟩,λh=> ?_⟩
    ·have:=q1.1 h;omega
    ·exact q1.2 ⟨by omega,by omega⟩
    ·have:=q2 h;omega
def yl (v:aR):Bool:=v.ax==0&&(v.bX==0&&(decide (v.bB=ByteArray.empty)&&true))
def Ab (o:aT):Bool:=o.ax==0&&(o.cQ==0&&(yl o.aD&&true))
def kAt (l:aK) (o:aT):Int:=if 0<=o.cQ/\o.cQ<l.length/\yl o.aD=true then (l[o.cQ.toNat]?).getD 0 else 0
def kX (cols params:aK) (o:aT):Int:=
 if o.ax==3 then (if o.cQ==0&&jw o.aD then o.aD.ax else 0) else if o.ax==2 then kAt params o else if o.ax==1 then kAt cols o else 0
def J0 (n:Nat) (l:aK) (o:aT):J1 n l o=some (kAt l o):=by
 unfold J1 kAt;by_cases h1:o.cQ<0
 ·have:¬0<=o.cQ:=by omega
  simp[h1,this]
 ·by_cases h2:(l.length:Int)<=o.cQ
  ·have:¬o.cQ<l.length:=by omega
   simp[h1,h2,this]
  ·have e1:0<=o.cQ:=by omega
   have e2:o.cQ<l.length:=by omega
   have e3:o.cQ.toNat<l.length:=by omega
   have iI:idx l o.cQ=some (l[o.cQ.toNat]):=by simp[idx,e1,e3]
   cases h3:yl o.aD with
   |false=>
    simp only[yl] at h3;simp only[h1,h2,aX,aC,aA,ge_iff_le,h3,gM,aB,and_false,e2,aU,dw]
   |true=>
    simp only[yl] at h3;simp only[h1,h2,aX,aC,aA,ge_iff_le,h3,dw,iI,au,e1,e2,and_self,aB,aU,dw];simp[e3]
def aCs (n:Nat) (cols params:aK) (o:aT):adk n cols params o=some (kX cols params o):=by
 unfold adk aeb kX;rw[J0,J0,AO];simp only[au];by_cases h3:o.ax=3
 ·by_cases hi:o.cQ=0<;>cases jw o.aD<;>simp[h3,hi]
 ·by_cases h2:o.ax=2
  ·simp[h2]
  ·by_cases h1:o.ax=1<;>simp[h1,h2,h3]
def aCx (n:Nat) (k:iL) (o:aT):adv n k o=some (kX k.lp k.mN o):=by
 have h0:∀l,Ro n l o=some (kAt l o):=λl=>by rw[<-J0 n l o];rfl
 unfold adv aeB kX;rw[h0,h0,aiV];simp only[au];by_cases h3:o.ax=3
 ·by_cases hi:o.cQ=0<;>cases jw o.aD<;>simp[h3,hi]
 ·by_cases h2:o.ax=2
  ·simp[h2]
  ·by_cases h1:o.ax=1<;>simp[h1,h2,h3]
def kO (c:Int) (l r:aT):Bool:=c==0&&Ab l&&Ab r
mutual
def pV (cols params:aK):ah->Bool
 |⟨op,c,l,r,args⟩=>
  if op==1||op==2 then kO c l r&&args.length==0
  else if op==3 then args.length==0&&decide (1<=c)&&decide (c<=6)&&kX cols params l !=0&&kX cols params l==kX cols params r
  else if op==4||op==5 then kO c l r&&pM cols params args
  else if op==6 then args.length==1&&(kO c l r&&pM cols params args)
  else false
def pM (cols params:aK):bN->Bool
 | []=>true
 |x::xs=>pV cols params x&&pM cols params xs
end
def aiK (n:Nat) (p:ah):Vw n p=some (kO p.eM p.cm p.bL):=by
 unfold Vw aec kO Ab yl;by_cases h:p.eM=0
 ·simp only[h,im,aB,hZ];split
  ·rename_i h1;simp only[h1,hZ]
  ·rename_i h1;rw[Bool.not_eq_true] at h1;simp only[h1,gd]
 ·simp[h]
def aiQ (cols params:aK):∀(n:Nat) (p:ah),fC p<=n->fC p<4294967296->JT n cols params p=some (pV cols params p)
 |0,⟨_,_,_,_,_⟩,h,_=>by simp[fC] at h
 |n+1,⟨op,c,l,r,args⟩,h,hb=>by
  simp only[fC] at h hb;have hlen:=pw args;have loop:∀(xs:bN) (i k:Nat),args.drop i=xs->xs.length<k->
    BT (JT n) (some true) k cols params (args.length:Int) (i:Int) ⟨op,c,l,r,args⟩=some (pM cols params xs):=by
   intro xs;induction xs with
   |nil=>
    intro i k hd hk;have:args.length<=i:=by simpa using hd
    have hq:¬((i:Int)<(args.length:Int)):=by omega
    cases k with
    |zero=>simp at hk
    |succ k=>simp[BT,Ra,hq,pM]
   |cons x xs ih=>
    intro i k hd hk;obtain ⟨g1,g2,g3⟩:=bC hd;have hq:((i:Int)<(args.length:Int)):=by omega
    cases k with
    |zero=>simp at hk
    |succ k=>
     have hx:x∈args:=cN g1;have hs:=sx hx;simp only[BT,Ra,hq,aU,aB,bO,g1,au,aiQ cols params n x (by omega) (by omega),bY g3 (by omega:args.length<4294967296),
      ih (i+1) k g2 (by simp at hk;omega),pM]
     cases pV cols params x<;>simp
  have hl:=loop args 0 n rfl (by omega)
  have hl:BT (JT n) (some true) n cols params (args.length:Int) 0 ⟨op,c,l,r,args⟩=some (pM cols params args):=hl;have hB:FN (JT n) n cols params ⟨op,c,l,r,args⟩=some (kO c l r&&pM cols params args):=by
   unfold FN aeq;rw[aiK,au,hl];cases kO c l r<;>simp
  unfold JT aep;simp only[aiK,aCs,au,hB];unfold pV;have hz:((args.length:Int)==0)=(args.length==0):=by
   rw[ly];simp
  have ho:((args.length:Int) !=1)= !(args.length==1):=by
   rw[ly];simp;omega
  simp only[hz,ho];by_cases h1:op=1
  ·cases hp:kO c l r<;>simp[h1]
  ·by_cases h2:op=2
   ·cases hp:kO c l r<;>simp[h2]
   ·by_cases h3:op=3
    ·cases ha:(args.length==0) with
     |false=>simp[h3]
     |true=>
      by_cases c1:1<=c
      ·by_cases c2:c<=6
       ·by_cases c3:kX cols params l=0<;>simp[h3,c1,c2,c3]
       ·simp[h3,c1,c2]
      ·simp[h3,c1]
    ·by_cases h4:op=4
     ·simp[h4]
     ·by_cases h5:op=5
      ·simp[h5]
      ·by_cases h6:op=6
       ·cases ha:(args.length==1)<;>simp[h6]
       ·simp[h1,h2,h3,h4,h5,h6]
def VI (k:iL):∀(n:Nat) (p:ah),fC p<=n->fC p<4294967296->vw n k p=some (pV k.lp k.mN p)
 |0,⟨_,_,_,_,_⟩,h,_=>by simp[fC] at h
 |n+1,⟨op,c,l,r,args⟩,h,hb=>by
  simp only[fC] at h hb;have hlen:=pw args;have aJw:∀(xs:bN) (i m:Nat),args.drop i=xs->xs.length<m->
    zb (vw n) (some true) m args (args.length:Int) (i:Int) k=some (pM k.lp k.mN xs):=by
   intro xs;induction xs with
   |nil=>
    intro i m hd hk;have:args.length<=i:=by simpa using hd
    have hq:¬((i:Int)<(args.length:Int)):=by omega
    cases m with
    |zero=>simp at hk
    |succ m=>simp[zb,Sk,hq,pM]
   |cons x xs ih=>
    intro i m hd hk;obtain ⟨g1,g2,g3⟩:=bC hd;have hq:((i:Int)<(args.length:Int)):=by omega
    cases m with
    |zero=>simp at hk
    |succ m=>
     have hx:x∈args:=cN g1;have hs:=sx hx;simp only[zb,Sk,hq,aU,aB,bO,g1,au,VI k n x (by omega) (by omega),bY g3 (by omega:args.length<4294967296),
      ih (i+1) m g2 (by simp at hk;omega),pM]
     cases pV k.lp k.mN x<;>simp
  have aJv:∀(xs:bN) (i m:Nat),args.drop i=xs->xs.length<m->
    za (vw n) (some true) m args (args.length:Int) (i:Int) k=some (pM k.lp k.mN xs):=by
   intro xs;induction xs with
   |nil=>
    intro i m hd hk;have:args.length<=i:=by simpa using hd
    have hq:¬((i:Int)<(args.length:Int)):=by omega
    cases m with
    |zero=>simp at hk
    |succ m=>simp[za,Si,hq,pM]
   |cons x xs ih=>
    intro i m hd hk;obtain ⟨g1,g2,g3⟩:=bC hd;have hq:((i:Int)<(args.length:Int)):=by omega
    cases m with
    |zero=>simp at hk
    |succ m=>
     have hx:x∈args:=cN g1;have hs:=sx hx;simp only[za,Si,hq,aU,aB,bO,g1,au,VI k n x (by omega) (by omega),bY g3 (by omega:args.length<4294967296),
      ih (i+1) m g2 (by simp at hk;omega),pM]
     cases pV k.lp k.mN x<;>simp
  have ur:zb (vw n) (some true) n args (args.length:Int) 0 k=some (pM k.lp k.mN args):=aJw args 0 n rfl (by omega)
  have hl3:za (vw n) (some true) n args (args.length:Int) 0 k=some (pM k.lp k.mN args):=aJv args 0 n rfl (by omega)
  have aqS:∀X:Option Bool,(if c !=0 then some false else if !(Ab l) then some false else if !(Ab r) then some false else X)=if kO c l r then X else some false:=by
   intro X;unfold kO;by_cases hc:c=0
   ·cases Ab l<;>cases Ab r<;>simp[hc]
   ·simp[hc]
  have hB5:FU (vw n) n k ⟨op,c,l,r,args⟩=some (kO c l r&&pM k.lp k.mN args):=by
   have:=aqS (za (vw n) (Sg (vw n) n) n args (args.length:Int) 0 k);unfold FU;refine Eq.trans this ?_;unfold Sg;rw[hl3];cases kO c l r<;>simp
  have hB2:∀b,Kh (vw n) n b k ⟨op,c,l,r,args⟩=some (!b&&(kO c l r&&pM k.lp k.mN args)):=by
   intro b;have:=aqS (zb (vw n) (Sj (vw n) n) n args (args.length:Int) 0 k);unfold Kh;cases b with
   |true=>simp
   |false=>
    simp only[aC,aA,gM,hZ];refine Eq.trans this ?_;unfold Sj;rw[ur];cases kO c l r<;>simp
  unfold vw afe;simp only[aCx,au,hB5,hB2];unfold pV;have hz:((args.length:Int)==0)=(args.length==0):=by
   rw[ly];simp
  have hz':((args.length:Int) !=0)= !(args.length==0):=by
   rw[ly];simp
  have ho:((args.length:Int) !=1)= !(args.length==1):=by
   rw[ly];simp;omega
  simp only[hz,hz',ho];have he:(args.length==0)=true->pM k.lp k.mN args=true:=by
   intro h;have:args= []:=by simpa using h
   simp[this,pM]
  by_cases h3:op=3
  ·cases ha:(args.length==0) with
   |false=>simp[h3]
   |true=>
    by_cases c1:1<=c
    ·by_cases c2:c<=6
     ·by_cases c3:kX k.lp k.mN l=0<;>simp[h3,c1,c2,c3]
     ·simp[h3,c1,c2]
    ·simp[h3,c1]
  ·by_cases h1:op=1
   ·cases ha:(args.length==0) with
    |false=>simp[h1]
    |true=>simp[h1,he ha]
   ·by_cases h2:op=2
    ·cases ha:(args.length==0) with
     |false=>simp[h2]
     |true=>simp[h2,he ha]
    ·by_cases h6:op=6
     ·cases ha:(args.length==1)<;>simp[h6]
     ·by_cases h4:op=4
      ·simp[h4]
      ·by_cases h5:op=5
       ·simp[h5]
       ·simp[h1,h2,h3,h4,h5,h6]
def sK (cols params:aK) (p:ah):Int:=
 if !mJ cols then 1 else if !mJ params then 1 else if decide (24<qS p)||decide (8<uw p) then 2 else if !pV cols params p then 50 else 0
def aja (n:Nat) (cols params:aK) (p:ah) (h1:cols.length<n) (h2:params.length<n) (h3:fC p<=n) (h4:n<4294967296):adI n cols params p=some (sK cols params p):=by
 obtain ⟨r,e,r1,r2,r3⟩:=aiS n p 0 h3 (by omega) (by omega) (by omega)
 have hd:=aiR n p 8 h3 (by omega) (by omega)
 have hd:JU n p 8=some (decide (8<uw p)):=hd;unfold adI aeW sK;simp only[aiT n cols (by omega) h1,aiT n params (by omega) h2,e,hd,aiQ cols params n p h3 (by omega),au]
 cases mJ cols<;>cases mJ params<;>simp
 by_cases hn:24<qS p
 ·have:=r3 (by omega)
  simp[hn,this]
 ·have:=r2 (by omega)
  have h24:¬24<r:=by omega
  by_cases h8:8<uw p<;>cases pV cols params p<;>simp[hn,h24,h8]
def aIU (n:Nat) (cols params:aK) (p:ah) (h1:cols.length<n) (h2:params.length<n) (h3:fC p<=n) (h4:n<4294967296):F46 n cols params p=some (sK cols params p):=by
 obtain ⟨r,e,r1,r2⟩:=ajd n p 1 24 h3 (by omega) (by omega) (by omega) (by omega) (by omega)
 unfold F46 ans sK;simp only[aje n cols (by omega) h1,aje n params (by omega) h2,e,VI ⟨cols,params⟩ n p h3 (by omega),au]
 cases mJ cols<;>cases mJ params<;>simp
 cases hr:r.1 with
 |true=>
  have:=r1.1 hr;have e1:¬24<qS p:=by omega
  have e2:¬8<uw p:=by omega
  cases pV cols params p<;>simp[e1,e2]
 |false=>
  have:¬((qS p:Int)<=24/\(1:Int)+uw p<=9):=λh=>by rw[r1.2 h] at hr;simp at hr
  have e1:24<qS p\/8<uw p:=by omega
  rcases e1 with h|h<;>simp[h]
def Cw (h:zL k=true):3<=k/\k<=5:=by simp[zL] at h;omega
def aaV {l:aK} (h:mJ l=true) (hx:l[i]? =some x):zL x=true:=by
 simp only[mJ,iT] at h;exact h x (cN hx)
def atk (cols params:aK) (k:Int) (l:te):Prop:=∀o∈l,kX cols params o=k
def apw (h:cols[i]? =some k):kX cols params ⟨1,(i:Int),⟨0,0,ByteArray.empty⟩⟩=k:=by
 have hi:i<cols.length:=(cf.1 h).1;have:(i:Int)<(cols.length:Int):=by omega
 simp[kX,kAt,yl,this,h]
def apv (h:params[i]? =some k):kX cols params ⟨2,(i:Int),⟨0,0,ByteArray.empty⟩⟩=k:=by
 have hi:i<params.length:=(cf.1 h).1;have:(i:Int)<(params.length:Int):=by omega
 simp[kX,kAt,yl,this,h]
def asm (n:Nat) (hn:300<=n) (cols params:aK) (k:Int) (hk:zL k=true) (l:te) (c:aL) (hc:dk c) (hl:l.length<=300) (ho:atk cols params k l) (z:aT):
  Ok (J3 n k c z l) λr=>dk r.2/\kX cols params r.1=k:=by
 have hkr:=Cw hk;unfold J3;rw[dv (by omega) (by omega)]
 refine Ok.bind (j7 n c ((l.length:Int)+1) hc) λr ⟨hr,r0,r1,_⟩=> ?_
 have r1:=r1 (by omega)
 refine Ok.ite (λh=> ?_) λh=> ?_
 ·simp at h;have cV:r.1.toNat<l.length:=by omega
  have:eZ l.length r.1=some r.1.toNat:=by simp[eZ,r0,cV]
  rw[this,au,cC,dJ cV,au];exact Ok.pure ⟨hr,ho _ (rT _)⟩
 ·refine Ok.bind (B5 n (by omega) r.2 k hr hkr.1 hkr.2) λx ⟨hx,kx,rx⟩=>Ok.pure ⟨hx,?_⟩
  simp[kX,rx,kx]
def JQ (n:Nat) (hn:300<=n) (cols params:aK) (k:Int) (hk:zL k=true) (hp:params.length<=100) (z:aT):∀(xs:aK) (i m:Nat) (l:te) (c:aL),params.drop i=xs->xs.length<m->dk c->l.length+xs.length<=300->atk cols params k l->
  Ok (Fc (J3 n) m k params (params.length:Int) (i:Int) c z l) λr=>dk r.2/\kX cols params r.1=k
 | [],i,m+1,l,c,hd,hm,hc,hl,ho=>by
  have:params.length<=i:=by simpa using hd
  have hq:¬((i:Int)<(params.length:Int)):=by omega
  simp only[Fc,Ri,hq,aX,aC,aA];exact asm n hn cols params k hk l c hc (by simp at hl;omega) ho z
 |x::xs,i,m+1,l,c,hd,hm,hc,hl,ho=>by
  obtain ⟨g1,g2,g3⟩:=bC hd;have hq:((i:Int)<(params.length:Int)):=by omega
  simp only[Fc,Ri,hq,aU,aB,bO,g1,au];simp at hm hl;refine Ok.ite (λh=> ?_) λh=> ?_
  ·simp at h;subst h;rw[dI _ _ (by simp;omega),au,bY g3 (by omega)]
   refine JQ n hn cols params x hk hp z xs (i+1) m _ c g2 (by omega) hc (by simp;omega) λo hx=> ?_
   rcases eO.1 hx with hx|hx
   ·exact ho o hx
   ·simp at hx;subst hx;exact apv g1
  ·rw[bY g3 (by omega)]
   exact JQ n hn cols params k hk hp z xs (i+1) m l c g2 (by omega) hc (by omega) ho
 |_,_,0,_,_,_,hm,_,_,_=>by simp at hm
def JR (n:Nat) (hn:300<=n) (cols params:aK) (k:Int) (hk:zL k=true) (hp:params.length<=100) (eA:cols.length<=100) (z:aT):∀(xs:aK) (i m:Nat) (l:te) (c:aL),cols.drop i=xs->xs.length<m->dk c->l.length+xs.length<=100->atk cols params k l->
  Ok (Fe (Rh n) m params k cols (cols.length:Int) (i:Int) c z l) λr=>dk r.2/\kX cols params r.1=k
 | [],i,m+1,l,c,hd,hm,hc,hl,ho=>by
  have:cols.length<=i:=by simpa using hd
  have hq:¬((i:Int)<(cols.length:Int)):=by omega
  simp only[Fe,Rj,hq,aX,aC,aA,Rh];exact JQ n hn cols params k hk hp z params 0 n l c rfl (by omega) hc (by simp at hl;omega) ho
 |x::xs,i,m+1,l,c,hd,hm,hc,hl,ho=>by
  obtain ⟨g1,g2,g3⟩:=bC hd;have hq:((i:Int)<(cols.length:Int)):=by omega
  simp only[Fe,Rj,hq,aU,aB,bO,g1,au];simp at hm hl;refine Ok.ite (λh=> ?_) λh=> ?_
  ·simp at h;subst h;rw[dI _ _ (by simp;omega),au,bY g3 (by omega)]
   refine JR n hn cols params x hk hp eA z xs (i+1) m _ c g2 (by omega) hc (by simp;omega) λo hx=> ?_
   rcases eO.1 hx with hx|hx
   ·exact ho o hx
   ·simp at hx;subst hx;exact apw g1
  ·rw[bY g3 (by omega)]
   exact JR n hn cols params k hk hp eA z xs (i+1) m l c g2 (by omega) hc (by omega) ho
 |_,_,0,_,_,_,hm,_,_,_=>by simp at hm
def aiU (n:Nat) (hn:300<=n) (c:aL) (cols params:aK) (k:Int) (hk:zL k=true) (hc:dk c) (eA:cols.length<=100) (hp:params.length<=100):Ok (amB n c cols params k) λr=>dk r.2/\kX cols params r.1=k:=
 JR n hn cols params k hk hp eA _ cols 0 n [] c rfl (by omega) hc (by simp;omega) (λo h=>by simp at h)
def nB:Nat->Nat
 |0=>1
 |d+1=>1+3*nB d
def sB:Nat->Nat
 |0=>2
 |d+1=>2+3*(1+sB d)
def aEJ (d:Nat):1<=nB d:=by cases d<;>simp[nB]
def aEt (d:Nat):2<=sB d:=by cases d<;>simp[sB]
structure tI (cols params:aK) (d:Nat) (r:ah×aL):Prop where
 case:dk r.2
 val:pV cols params r.1=true
 dp:uw r.1<=d+1
 nd:qS r.1<=nB d
 sz:fC r.1<=sB d
def aaU {op:Int} {r:aT} {x:aL} (hx:dk x) (hv:pV cols params ⟨op,c,l,r,[]⟩=true):tI cols params d (⟨op,c,l,r,[]⟩,x):=
 ⟨hx,hv,by simp[uw,tC],by simp[qS,pN];exact aEJ d,by simp[fC,kM];exact aEt d⟩
def zo:aT:=⟨0,0,⟨0,0,ByteArray.empty⟩⟩
def Nj:kO 0 zo zo=true:=by decide
def W0 (s:aL->aK->aK->Int->Option (ah×aL)) (n:Nat) (cols params:aK) (d:Nat) (x:aL) (hx:dk x) (c:Int) (l r:aT) (h1:1<=c) (h2:c<=6) (h3:kX cols params l≠0) (h4:kX cols params l=kX cols params r) (z:ah):
  Ok (Kc s n x z ⟨3,c,l,r,[]⟩) (tI cols params d):=by
 unfold Kc;refine Ok.bind (tK n x 6 hx) λb hb=> ?_
 refine Ok.ite (λ_=>Ok.pure (aaU hb ?_)) λ_=>Ok.pure (aaU hb ?_)
 ·simp[pV,h1,h2,<-h4,h3]
 ·simp[pV,h1,h2,<-h4,h3]
def WZ (s:aL->aK->aK->Int->Option (ah×aL)) (n:Nat) (hn:300<=n) (cols params:aK) (eA:cols.length<=100) (hp:params.length<=100) (d:Nat) (k:Int) (hk:zL k=true) (x:aL) (hx:dk x) (z:ah):
  Ok (Kb s n cols params k x z) (tI cols params d):=by
 have hkr:=Cw hk;unfold Kb;refine Ok.bind (j7 n x 6 hx) λr ⟨hr,r0,r1,_⟩=> ?_
 have r1:=r1 (by omega)
 rw[dv (by omega) (by omega)]
 refine Ok.bind (aiU n hn r.2 cols params k hk hr eA hp) λl ⟨hl,kl⟩=> ?_
 refine Ok.bind (B5 n (by omega) l.2 k hl hkr.1 hkr.2) λv ⟨hv,kv,rv⟩=> ?_
 refine Ok.bind (tK n v.2 3 hv) λb hb=> ?_
 refine Ok.ite (λ_=> ?_) λ_=> ?_
 ·refine Ok.bind (aiU n hn b.2 cols params k hk hb eA hp) λo ⟨ho,ko⟩=> ?_
  exact W0 s n cols params d o.2 ho _ _ _ (by omega) (by omega) (by omega) (by omega) _
 ·refine W0 s n cols params d b.2 hb _ _ _ (by omega) (by omega) (by omega) ?_ _
  simp[kX,rv,kv] at kl ⊢;exact kl
def WY (s:aL->aK->aK->Int->Option (ah×aL)) (cols params:aK) (d:Nat) (hd:d<=1000)
  (hs:∀c,dk c->Ok (s c cols params (d:Int)) (tI cols params d)) (n0:Nat):∀(j n:Nat) (op:Int) (args:bN) (c:aL) (z:ah) (a0:bN),dk c->j<n->args.length+j<=3->pM cols params args=true->tC args<=d+1->pN args<=args.length*nB d->kM args<=args.length*(1+sB d)->(op=4\/op=5)->
  Ok (Fw s (R6 s n0) n cols params ((d+1:Nat):Int) ((j:Int)-1) c z ⟨op,0,zo,zo,a0⟩ args) (tI cols params (d+1))
 |0,n+1,op,args,c,z,a0,hc,_,hj,h1,h2,h3,h4,eP=>by
  have:((0:Nat):Int)-1<0:=by omega
  simp only[Fw,R7,R6,this,aU,dw,aC,aA];have e3:args.length*nB d<=3*nB d:=kJ _ (by omega)
  have e4:args.length*(1+sB d)<=3*(1+sB d):=kJ _ (by omega)
  refine Ok.pure ⟨hc,?_,by simp only[uw];omega,by simp only[qS,nB];omega,by simp only[fC,sB];omega⟩
  rcases eP with rfl|rfl<;>simp[pV,Nj,h1]
 |j+1,n+1,op,args,c,z,a0,hc,hn,hj,h1,h2,h3,h4,eP=>by
  have:¬(((j+1:Nat):Int)-1<0):=by omega
  simp only[Fw,R7,this,aX,gM,aB];have hw:bl (((d+1:Nat):Int)-1)=(d:Int):=by rw[dv (by omega) (by omega)];omega
  have hw2:bl (((j+1:Nat):Int)-1-1)=(j:Int)-1:=by rw[dv (by omega) (by omega)];omega
  rw[hw,hw2];refine Ok.bind (hs c hc) λx hx=> ?_
  rw[dI _ _ (by simp;omega),au]
  have key:∀(l:bN) (y:ah),pM cols params (l++ [y])=(pM cols params l&&pV cols params y)/\tC (l++ [y])=max (tC l) (uw y)/\pN (l++ [y])=pN l+qS y/\kM (l++ [y])=kM l+(1+fC y):=by
   intro l y;induction l with
   |nil=>simp[pM,tC,pN,kM]
   |cons a l ih=>
    obtain ⟨i1,i2,i3,i4⟩:=ih;simp only[yy,pM,tC,pN,kM,i1,i2,i3,i4];refine ⟨by rw[Bool.and_assoc],by omega,by omega,by omega⟩
  obtain ⟨k1,k2,k3,k4⟩:=key args x.1;refine WY s cols params d hd hs n0 j n op _ x.2 _ _ hx.case (by omega) (by simp;omega) (by rw[k1,h1,hx.val];rfl) (by rw[k2];have:=hx.dp;omega) ?_ ?_ eP
  ·rw[k3,gD];have:=hx.nd;simp only[kq,Ay,gA];omega
  ·rw[k4,gD];have:=hx.sz;simp only[kq,Ay,gA];omega
 |_,0,_,_,_,_,_,_,hn,_,_,_,_,_,_=>by simp at hn
def tI.up {r:ah×aL} {e:Nat} (h:tI cols params d r) (hd:d<=e):tI cols params e r:=by
 have hn:∀k,nB d<=nB (d+k):=by
  intro k;induction k with
  |zero=>simp
  |succ k ih=>rw[<-fU];simp only[nB];omega
 have hs:∀k,sB d<=sB (d+k):=by
  intro k;induction k with
  |zero=>simp
  |succ k ih=>rw[<-fU];simp only[sB];omega
 have e1:d+(e-d)=e:=by omega
 have a:=hn (e-d);have b:=hs (e-d);rw[e1] at a b;exact ⟨h.case,h.val,by have:=h.dp;omega,by have:=h.nd;omega,by have:=h.sz;omega⟩
def VE (cols params:aK) (hk:mJ cols=true) (eA:cols.length<=100) (hp:params.length<=100):∀(d n:Nat) (c:aL),dk c->300+d<n->d<=100->Ok (B8 n c cols params (d:Int)) (tI cols params d)
 |d,0,c,hc,hn,_=>by omega
 |d,n+1,c,hc,hn,hd=>by
  have leaf:∀(op:Int) (x:aL) (z:ah),dk x->Ok (w4 (B8 n) n cols params (d:Int) op true x z) (tI cols params d):=by
   intro op x z hx;unfold w4;simp only[aB];refine Ok.ite (λh=> ?_) λh=> ?_
   ·simp at h;refine Ok.bind (j7 n x (cols.length:Int) hx) λr ⟨hr,r0,r1,_⟩=> ?_
    have r1:=r1 (by omega)
    have cV:r.1.toNat<cols.length:=by omega
    have iI:idx cols r.1=some (cols[r.1.toNat]):=by simp[idx,r0,cV]
    rw[iI,au];exact WZ (B8 n) n (by omega) cols params eA hp d _ (aaV hk (i:=r.1.toNat) (by simp[cV])) r.2 hr _
   ·exact WZ (B8 n) n (by omega) cols params eA hp d 4 rfl x hx _
  have inner:∀(op:Int) (x:aL) (z:ah),6<=op->op<=8->dk x->Ok (w4 (B8 n) n cols params (d:Int) op (decide ((d:Int)<1)) x z) (tI cols params d):=by
   intro op x z o1 o2 hx;cases d with
   |zero=>simpa using leaf op x z hx
   |succ d=>
    have xe:¬(((d+1:Nat):Int)<1):=by omega
    have hw:bl (((d+1:Nat):Int)-1)=(d:Int):=by rw[dv (by omega) (by omega)];omega
    have ih:=λc hc=>VE cols params hk eA hp d n c hc (by omega) (by omega)
    unfold w4;simp only[xe,aX,aC,aA];refine Ok.ite (λh6=> ?_) λh6=> ?_
    ·rw[hw];refine Ok.bind (ih x hx) λr hr=>Ok.pure ⟨hr.case,?_,?_,?_,?_⟩
     ·have:kO 0 ⟨0,0,⟨0,0,ByteArray.empty⟩⟩ ⟨0,0,⟨0,0,ByteArray.empty⟩⟩=true:=Nj;simp[pV,this,pM,hr.val]
     ·simp only[uw,tC];have:=hr.dp;omega
     ·simp only[qS,pN,nB];have:=hr.nd;omega
     ·simp only[fC,kM,sB];have:=hr.sz;omega
    ·simp at h6;refine Ok.bind (j7 n x 3 hx) λr ⟨hr,r0,r1,_⟩=> ?_
     have r1:=r1 (by omega)
     rw[dv (x:=4+op) (by omega) (by omega),dv (by omega) (by omega)]
     have e:r.1=((r.1.toNat+1:Nat):Int)-1:=by omega
     rw[e];exact WY (B8 n) cols params d (by omega) ih n (r.1.toNat+1) n (4+op-7) [] r.2 _ _ hr (by omega) (by simp;omega) rfl (by simp[tC]) (by simp[pN]) (by simp[kM]) (by omega)
  unfold B8 aeX;refine Ok.bind (j7 n c 9 hc) λr ⟨hr,r0,r1,_⟩=> ?_
  have r1:=r1 (by omega)
  refine Ok.ite (λh0=> ?_) λh0=> ?_
  ·simp at h0;refine Ok.bind (tK n r.2 2 hr) λb hb=> ?_
   refine Ok.ite (λ_=> ?_) λ_=> ?_
   ·refine Ok.bind (j7 n b.2 2 hb) λq ⟨hq,q0,q1,_⟩=> ?_
    have q1:=q1 (by omega)
    rw[dv (by omega) (by omega)]
    refine Ok.pure (aaU hq ?_);have hz:kO 0 ⟨0,0,⟨0,0,ByteArray.empty⟩⟩ ⟨0,0,⟨0,0,ByteArray.empty⟩⟩=true:=Nj;have:q.1=0\/q.1=1:=by omega
    rcases this with e|e<;>simp[pV,e,hz]
   ·refine Ok.ite (λ_=>leaf _ _ _ hb) λh6=> ?_
    simp at h6;omega
  ·refine Ok.ite (λ_=>leaf _ _ _ hr) λh6=> ?_
   simp at h6;exact inner r.1 r.2 _ h6 (by omega) hr
def aIQ (cols params:aK) (hk:mJ cols=true) (jP:mJ params=true) (eA:cols.length<=100) (hp:params.length<=100) (d n:Nat) (c:aL) (hc:dk c) (hn:1000<=n) (fN:n<4294967296) (xh:1<=d) (hd:d<=3):
  Ok (F92 n c cols params (d:Int)) λr=>dk r.2/\sK cols params r.1=0/\fC r.1<=119:=by
 unfold F92 amW;refine Ok.bind (VE cols params hk eA hp d n c hc (by omega) (by omega)) λr hr=> ?_
 have hs:fC r.1<=119:=(hr.up hd).sz;rw[aja n cols params r.1 (by omega) (by omega) (by omega) fN,au]
 refine Ok.ite (λh2=> ?_) λh2=> ?_
 ·refine Ok.bind (VE cols params hk eA hp 1 n r.2 hr.case (by omega) (by omega)) λq hq=>Ok.pure ⟨hq.case,?_,(hq.up (by omega:1<=3)).sz⟩
  have h1:=hq.nd;have h2:=hq.dp;have e1:¬24<qS q.1:=by simp[nB] at h1;omega
  have e2:¬8<uw q.1:=by omega
  simp[sK,hk,jP,e1,e2,hq.val]
 ·refine Ok.pure ⟨hr.case,?_,hs⟩;have:sK cols params r.1=2\/sK cols params r.1=0:=by
   unfold sK;cases decide (24<qS r.1)||decide (8<uw r.1)<;>simp[hk,jP,hr.val]
  simp at h2;exact this.resolve_left h2
section
def Vk (x y:UInt8) (a b:List UInt8):Op.bytesLess (x::a) (y::b)=(decide (x<y)||(x==y&&Op.bytesLess a b)):=by simp[Op.bytesLess]
def CS:∀{a b:List UInt8},Op.bytesLess a b=true->Op.bytesLess b a=false
 | [],[],h=>by simp[Op.bytesLess] at h
 | [],_::_,_=>by simp[Op.bytesLess]
 |_::_,[],h=>by simp[Op.bytesLess] at h
 |x::a,y::b,h=>by
  rw[Vk] at h ⊢;by_cases h1:x<y
  ·have h2:¬y<x:=λh2=>xr x (UInt8.lt_trans h1 h2)
   have h3:¬y=x:=λe=>by subst e;exact xr _ h1
   simp[h2,h3]
  ·by_cases h3:x=y
   ·subst h3;simp[xr] at h ⊢;exact CS h
   ·simp[h1,h3] at h
def CQ:∀{a b:List UInt8},Op.bytesLess a b=false->a≠b->Op.bytesLess b a=true
 | [],[],_,h=>absurd rfl h
 | [],_::_,h,_=>by simp[Op.bytesLess] at h
 |_::_,[],_,_=>by simp[Op.bytesLess]
 |x::a,y::b,h,cY=>by
  rw[Vk] at h ⊢;by_cases h1:x<y
  ·simp[h1] at h
  ·by_cases h2:y<x
   ·simp[h2]
   ·have:x=y:=UInt8.le_antisymm (Ko.1 h2) (Ko.1 h1);subst this;simp[xr] at h ⊢;exact CQ h (λe=>cY (by rw[e]))
def YF (a b:aR):ll b a= - ll a b:=by
 unfold ll;by_cases h1:a.ax<b.ax
 ·have:¬b.ax<a.ax:=by omega
  simp[h1,this]
 ·by_cases h2:b.ax<a.ax
  ·simp[h1,h2]
  ·by_cases h3:a.bX<b.bX
   ·have:¬b.bX<a.bX:=by omega
    simp[h1,h2,h3,this]
   ·by_cases h4:b.bX<a.bX
    ·simp[h1,h2,h3,h4]
    ·cases h5:Op.bytesLess a.bB.toList b.bB.toList with
     |true=>
      have h6:=CS h5;have h7:¬b.bB=a.bB:=λe=>by rw[e,oS] at h5;cases h5
      simp[h1,h2,h3,h4,h6,h7]
     |false=>
      by_cases h6:a.bB=b.bB
      ·simp[h1,h2,h3,h4,h6,oS]
      ·have h7:Op.bytesLess b.bB.toList a.bB.toList=true:=CQ h5 (λe=>h6 (zx (by rw[vU,vU] at e;exact e)))
       simp[h1,h2,h3,h4,h6,h7]
def ajo (a b:aR):ll a b= -1\/ll a b=0\/ll a b=1:=by
 unfold ll;repeat' split
 all_goals simp
def eT:cE->cE->Int
 | [],[]=>0
 | [],_::_=> -1
 |_::_,[]=>1
 |a::x,b::y=>if ll a b=0 then eT x y else ll a b
def Ng:∀(x y:cE),eT y x= - eT x y
 | [],[]=>rfl
 | [],_::_=>rfl
 |_::_,[]=>rfl
 |a::x,b::y=>by
  have h:=YF a b;simp only[eT];rw[Ng x y,h];by_cases h1:ll a b=0
  ·simp[h1]
  ·have:¬ -ll a b=0:=by omega
   simp[h1,this]
def Ga:∀(x y:cE),eT x y= -1\/eT x y=0\/eT x y=1
 | [],[]=>by simp[eT]
 | [],_::_=>by simp[eT]
 |_::_,[]=>by simp[eT]
 |a::x,b::y=>by
  simp only[eT];split
  ·exact Ga x y
  ·exact ajo a b
def V8 (x:cE):eT x x=0:=by have:=Ng x x;omega
def aiB (n0:Nat) (a b:cE) (ha:a.length<4294967296):∀(x:cE) (i m:Nat),a.drop i=x->i<=a.length->i<=b.length->x.length<m->B3 (Ke n0) m a b a (a.length:Int) (i:Int)=some (eT (a.drop i) (b.drop i))
 | [],i,m+1,hd,h1,h2,hm=>by
  have hl:a.length<=i:=by simpa using hd
  have hq:¬((i:Int)<(a.length:Int)):=by omega
  simp only[B3,R8,Ke,hq,aX,aC,aA];rw[hd];cases hb:b.drop i with
  |nil=>
   have:b.length<=i:=by simpa using hb
   have e1:¬(a.length:Int)<b.length:=by omega
   simp[e1,eT]
  |cons y l=>
   obtain ⟨_,_,g3⟩:=bC hb;have e1:(a.length:Int)<b.length:=by omega
   simp[e1,eT]
 |x::xs,i,m+1,hd,h1,h2,hm=>by
  obtain ⟨g1,g2,g3⟩:=bC hd;have hq:(i:Int)<(a.length:Int):=by omega
  simp only[B3,R8,hq,aU,aB,bO,g1,au];cases hb:b.drop i with
  |nil=>
   have hl:b.length<=i:=by simpa using hb
   have e0:¬(i:Int)<b.length:=by omega
   simp[e0,hd,eT]
  |cons y l=>
   obtain ⟨k1,k2,k3⟩:=bC hb;have e0:(i:Int)<b.length:=by omega
   simp only[e0,aU,dw,aC,aA,k1,au,aCL];rw[hd,bY g3 ha];simp only[eT];by_cases h:ll x y=0
   ·simp only[h,jN,aC,aA,aB];rw[aiB n0 a b ha xs (i+1) m g2 (by omega) (by omega) (by simp at hm;omega),g2,k2]
   ·have:(ll x y !=0)=true:=by simpa using h
    simp only[this,h,aB,aA]
 |_,_,0,_,_,_,hm=>by simp at hm
def ade (n:Nat) (a b:cE) (ha:a.length<4294967296) (hn:a.length<n):F67 n a b=some (eT a b):=by
 have:=aiB n a b ha a 0 n rfl (by omega) (by omega) hn
 simp only[rS] at this;show (B3 (Ke n) n a b a (a.length:Int) 0).bind (λx=>some x)=_
 rw[show (0:Int)=((0:Nat):Int) from rfl,this];rfl
def fL (T:aj):aK:=T.ae.map (·.ax)
def yN {xs:List J} {i:Int} {x:J} (h:idx xs i=some x):0<=i/\i.toNat<xs.length/\xs[i.toNat]? =some x:=by
 unfold idx at h;split at h
 ·exact ⟨by assumption,(cf.1 h).1,h⟩
 ·cases h
def arS (n0:Nat) (cs:cO) (hl:cs.length<=1000):∀(x:cO) (i m:Nat) (out:aK),cs.drop i=x->x.length<m->out=(cs.take i).map (·.ax)->L8 (X0 n0) m cs (cs.length:Int) (i:Int) out=some (cs.map (·.ax))
 | [],i,m+1,out,hd,hm,ho=>by
  have hl:cs.length<=i:=by simpa using hd
  have hq:¬((i:Int)<(cs.length:Int)):=by omega
  simp only[L8,X1,X0,hq,aX,aC,aA];rw[ho,kn hl]
 |x::xs,i,m+1,out,hd,hm,ho=>by
  obtain ⟨g1,g2,g3⟩:=bC hd;have hq:(i:Int)<(cs.length:Int):=by omega
  simp only[L8,X1,hq,aU,aB,bO,g1,au];rw[dI _ _ (by rw[ho];simp;omega),au,bY g3 (by omega)]
  refine arS n0 cs hl xs (i+1) m _ g2 (by simp at hm;omega) ?_
  rw[ho,DO,g1];simp
 |_,_,0,_,_,hm,_=>by simp at hm
def arT (n0:Nat) (cs:cO) (hl:cs.length<=1000):∀(x:cO) (i m:Nat) (out:aK),cs.drop i=x->x.length<m->out=(cs.take i).map (·.ax)->L9 (X3 n0) m cs (cs.length:Int) (i:Int) out=some (cs.map (·.ax))
 | [],i,m+1,out,hd,hm,ho=>by
  have hl:cs.length<=i:=by simpa using hd
  have hq:¬((i:Int)<(cs.length:Int)):=by omega
  simp only[L9,X4,X3,hq,aX,aC,aA];rw[ho,kn hl]
 |x::xs,i,m+1,out,hd,hm,ho=>by
  obtain ⟨g1,g2,g3⟩:=bC hd;have hq:(i:Int)<(cs.length:Int):=by omega
  simp only[L9,X4,hq,aU,aB,bO,g1,au];rw[dI _ _ (by rw[ho];simp;omega),au,bY g3 (by omega)]
  refine arT n0 cs hl xs (i+1) m _ g2 (by simp at hm;omega) ?_
  rw[ho,DO,g1];simp
 |_,_,0,_,_,hm,_=>by simp at hm
section
variable {s:ag} {t:Int} {T:aj} {n:Nat}
def aBQ {xs:List J} {i:Int} (h0:0<=i) (h:¬i<(xs.length:Int)):idx xs i=none:=by
 unfold idx;rw[aH h0,xt (by omega)]
def ajf (hT:idx s.ai t=some T):N9 n s t=some true:=by
 obtain ⟨h0,h1,_⟩:=yN hT;have e1:¬t<0:=by omega
 have e2:t<(s.ai.length:Int):=by omega
 simp[N9,afi,e1,e2]
def adh (hT:idx s.ai t=some T) (hl:T.ae.length<=1000) (hn:1000<n):F50 n s t=some (fL T):=by
 obtain ⟨h0,h1,_⟩:=yN hT;have e1:¬t<0:=by omega
 have e2:t<(s.ai.length:Int):=by omega
 simp only[F50,anr,e1,e2,aX,aU,dw,aC,aA,hT,au];exact arS n T.ae hl T.ae 0 n [] rfl (by omega) rfl
def aIV (hT:idx s.ai t=some T) (hl:T.ae.length<=1000) (hn:1000<n):F45 n s t=some (fL T):=by
 simp only[F45,ant,ajf hT,au,dw,aC,aA,hT];have:rz (T.ae.length:Int) (0:Int)=some (List.replicate T.ae.length 0):=by simp[rz];omega
 rw[this,au];exact arT n T.ae hl T.ae 0 n [] rfl (by omega) rfl
structure np (T:aj):Prop where
 Dn:1<=T.ay
 jL:T.ay<=(T.ae.length:Int)
 cols:T.ae.length<=8
 ks:mJ (fL T)=true
def rG (T:aj):(fL T).length=T.ae.length:=by simp[fL]
def arn {xs:List J} (h0:0<=k) (h:k.toNat<=xs.length):cut xs none (some k)=some (xs.take k.toNat):=by
 obtain ⟨m,rfl⟩:∃m:Nat,k=m:=⟨k.toNat,by omega⟩
 simp at h;simp[cut,h]
end
end
def zK (b:UInt8):Bool:=decide (97<=b.toNat)&&decide (b.toNat<=122)
def Cq (b:UInt8):Bool:=zK b||((decide (48<=b.toNat)&&decide (b.toNat<=57))||decide (b.toNat=95))
def Pp:List UInt8->Bool
 | []=>false
 |b::l=>zK b&&l.all Cq
def ym (s:ByteArray):Bool:=decide (s.size<=32)&&Pp s.data.toList
def uP (s:ByteArray):s.data.toList.length=s.size:=by simp
def aFe {s:ByteArray} {b:UInt8} (h:s.data.toList[p]? =some b):∃hp:p<s.size,s[p]'hp=b:=by
 have h1:=(cf.1 h);obtain ⟨q1,q2⟩:=h1;have hp:p<s.size:=by simpa using q1
 have q3:s.data[p]=b:=by simpa using q2
 exact ⟨hp,q3⟩
def adO (k:ByteArray->Nat->Option Bool) (m:Nat) (s:ByteArray) (p:Nat) (q:Nat) (c:Int) (l:Bool):Qt k m (p:Int) c l s q=if l=true then k s q else if p=0 then some false else if c=95\/(48<=c/\c<=57) then k s q else some false:=by
 unfold Qt;cases l with
 |true=>simp
 |false=>
  by_cases hp:p=0
  ·simp[hp]
  ·have yS:¬(p:Int)=0:=by omega
   by_cases h1:c=95
   ·simp[hp,h1]
   ·by_cases h2:c<48
    ·have:¬48<=c:=by omega
     simp[hp,h1,h2,this]
    ·by_cases h3:57<c
     ·have:¬c<=57:=by omega
      simp[hp,h1,h2,h3,this]
     ·have EK:48<=c:=by omega
      have Ji:c<=57:=by omega
      simp[hp,h1,h2,h3,EK,Ji]
def acB (n0:Nat) (m:Nat) (s:ByteArray) (p:Nat) (b:UInt8) (hb:s.data.toList[p]? =some b):Aq (Hn n0) (m+1) s p=if zK b=true then Aq (Hn n0) m s (p+1) else if p=0 then some false else if Cq b=true then Aq (Hn n0) m s (p+1) else some false:=by
 obtain ⟨hp,he⟩:=aFe hb;simp only[Aq,XE,hp,aU,aB];rw[adO,adO];by_cases ha:b.toNat<128
 ·have hd:=decode_ascii s p hp (by rw[he];exact ha)
  rw[he] at hd;rw[hd];simp only[zK,Cq];by_cases h1:97<=b.toNat
  ·have td:¬((b.toNat:Int)<97):=by omega
   by_cases h2:b.toNat<=122
   ·have EK:¬(122<(b.toNat:Int)):=by omega
    simp[h1,td,h2,EK]
   ·have EK:(122<(b.toNat:Int)):=by omega
    have e1:¬(b.toNat:Int)=95:=by omega
    have e2:¬(b.toNat:Int)<=57:=by omega
    have e3:¬b.toNat<=57:=by omega
    have e4:¬b.toNat=95:=by omega
    simp[h1,td,h2,EK,e1,e2,e3,e4]
  ·have td:((b.toNat:Int)<97):=by omega
   by_cases e1:b.toNat=95
   ·simp[h1,td,e1]
   ·have e1':¬(b.toNat:Int)=95:=by omega
    by_cases e2:48<=b.toNat
    ·have Ju:48<=(b.toNat:Int):=by omega
     by_cases e3:b.toNat<=57
     ·have e3':(b.toNat:Int)<=57:=by omega
      simp[h1,td,e1,e1',e2,Ju,e3,e3']
     ·have e3':¬(b.toNat:Int)<=57:=by omega
      simp[h1,td,e1,e1',e2,Ju,e3,e3']
    ·have Ju:¬48<=(b.toNat:Int):=by omega
     simp[h1,td,e1,e1',e2,Ju]
 ·have hd:=(decode_high s p hp (by rw[he];omega)).1
  generalize (Utf8.decode s p)=d at hd;obtain ⟨c,q⟩:=d;simp only at hd;have a1:¬((c:Int)<97):=by omega
  have a2:122<(c:Int):=by omega
  have a3:¬((c:Int)=95\/(48<=(c:Int)/\(c:Int)<=57)):=by omega
  have b1:zK b=false:=by simp[zK];omega
  have b2:Cq b=false:=by simp[Cq,b1];omega
  simp[a1,a2,a3,b1,b2]
def arQ (n0:Nat) (s:ByteArray):∀(x:List UInt8) (p m:Nat),s.data.toList.drop p=x->0<p->x.length<m->Aq (Hn n0) m s p=some (x.all Cq)
 | [],p,m+1,hd,hp,hm=>by
  have:s.data.toList.length<=p:=by simpa using hd
  have hq:¬p<s.size:=by rw[uP] at this;omega
  simp only[Aq,XE,Hn,hq,aX,aC,aA];rfl
 |b::x,p,m+1,hd,hp,hm=>by
  obtain ⟨g1,g2,g3⟩:=bC hd;have ih:=arQ n0 s x (p+1) m g2 (by omega) (by simp at hm;omega)
  rw[acB n0 m s p b g1,aM (by omega:¬p=0),ih]
  simp only[tN];have:zK b=true->Cq b=true:=λh=>by simp[Cq,h]
  cases hl:zK b with
  |true=>simp[this hl]
  |false=>cases hc:Cq b<;>simp
 |_,_,0,_,_,hm=>by simp at hm
def arY (n:Nat) (s:ByteArray) (hn:100<n):F99 n s=some (ym s):=by
 unfold F99 amR ym;by_cases h0:s.size=0
 ·have:s.data.toList= []:=by
   have:=uP s;exact sq (by omega)
  simp[h0,this,Pp]
 ·have e1:¬(s.size:Int)<1:=by omega
  by_cases h1:s.size<=32
  ·have e2:¬32<(s.size:Int):=by omega
   simp only[e1,e2,aX,aC,aA,h1,aU,hZ];obtain ⟨m,rfl⟩:∃m,n=m+1:=⟨n-1,by omega⟩
   cases hx:s.data.toList with
   |nil=>have:=uP s;rw[hx] at this;simp at this;omega
   |cons b l=>
    have hl:l.length<32:=by have:=uP s;rw[hx] at this;simp at this;omega
    rw[acB (m+1) m s 0 b (by rw[hx];rfl)]
    simp only[aB,Pp];cases hb:zK b with
    |false=>simp
    |true=>
     simp only[aB,hZ];exact arQ (m+1) s l 1 m (by rw[hx];rfl) (by omega) (by omega)
  ·have e2:32<(s.size:Int):=by omega
   simp only[e1,e2,aX,aU,aC,aA,aB,h1,gd]
def arX (n0:Nat) (m:Nat) (s:ByteArray) (p:Nat) (hs:s.size<4294967296) (b:UInt8) (hb:s.data.toList[p]? =some b):y9 (FM n0) (m+1) s (p:Int)=if Cq b=true then y9 (FM n0) m s ((p+1:Nat):Int) else some false:=by
 have hp:p<s.size:=by have:=(cf.1 hb).1;rwa[uP] at this
 have hq:(p:Int)<(s.size:Int):=by omega
 have hi:Dq s (p:Int)=some b:=by simp[Dq];simpa using hb
 simp only[y9,Q9,wZ,hq,aU,aB,hi,au,bY hp hs];simp only[Cq,zK];by_cases h1:97<=b.toNat
 ·have td:¬((b.toNat:Int)<97):=by omega
  by_cases h2:b.toNat<=122
  ·have EK:¬(122<(b.toNat:Int)):=by omega
   simp[h1,td,h2,EK]
  ·have EK:(122<(b.toNat:Int)):=by omega
   have e1:¬(b.toNat:Int)=95:=by omega
   have e2:¬(b.toNat:Int)<48:=by omega
   have e5:57<(b.toNat:Int):=by omega
   have e3:¬b.toNat<=57:=by omega
   have e4:¬b.toNat=95:=by omega
   simp[h1,td,h2,EK,e1,e2,e3,e4,e5]
 ·have td:((b.toNat:Int)<97):=by omega
  by_cases e2:48<=b.toNat
  ·have Ju:¬(b.toNat:Int)<48:=by omega
   by_cases e3:b.toNat<=57
   ·have e3':¬57<(b.toNat:Int):=by omega
    simp[h1,td,e2,Ju,e3,e3']
   ·have e3':57<(b.toNat:Int):=by omega
    by_cases e1:b.toNat=95
    ·simp[e1]
    ·have e1':¬(b.toNat:Int)=95:=by omega
     simp[h1,td,e2,Ju,e3,e3',e1,e1']
  ·have Ju:(b.toNat:Int)<48:=by omega
   have e1:¬b.toNat=95:=by omega
   have e1':¬(b.toNat:Int)=95:=by omega
   simp[h1,td,e2,Ju,e1,e1']
def aiy (n0:Nat) (s:ByteArray) (hs:s.size<4294967296):∀(x:List UInt8) (p m:Nat),s.data.toList.drop p=x->x.length<m->y9 (FM n0) m s (p:Int)=some (x.all Cq)
 | [],p,m+1,hd,hm=>by
  have:s.data.toList.length<=p:=by simpa using hd
  have hq:¬(p:Int)<(s.size:Int):=by rw[uP] at this;omega
  simp only[y9,Q9,FM,hq,aX,aC,aA];rfl
 |b::x,p,m+1,hd,hm=>by
  obtain ⟨g1,g2,g3⟩:=bC hd;have ih:=aiy n0 s hs x (p+1) m g2 (by simp at hm;omega)
  rw[arX n0 m s p hs b g1,ih];simp only[tN];cases hc:Cq b<;>simp
 |_,_,0,_,hm=>by simp at hm
def aiP (n:Nat) (s:ByteArray) (hn:100<n):adq n s=some (ym s):=by
 unfold adq aeo ym;by_cases h0:s.size=0
 ·have:s.data.toList= []:=by
   have:=uP s;exact sq (by omega)
  simp[h0,this,Pp]
 ·have e1:((s.size:Int)==0)=false:=by rw[beq_eq_false_iff_ne];omega
  by_cases h1:s.size<=32
  ·have e2:¬32<(s.size:Int):=by omega
   simp only[e1,e2,aX,aC,aA,h1,aU,hZ];cases hx:s.data.toList with
   |nil=>have:=uP s;rw[hx] at this;simp at this;omega
   |cons b l=>
    have hi:Dq s 0=some b:=by simp only[Dq,hx];rfl
    have hl:l.length<32:=by have:=uP s;rw[hx] at this;simp at this;omega
    simp only[hi,au,Pp];have:=aiy n s (by omega) s.data.toList 0 n rfl (by rw[uP];omega)
    rw[show ((0:Nat):Int)=0 from rfl,hx,tN] at this;rw[this];by_cases h3:97<=b.toNat
    ·have Ji:¬((b.toNat:Int)<97):=by omega
     by_cases h4:b.toNat<=122
     ·have h4':¬(122<(b.toNat:Int)):=by omega
      have hb:zK b=true:=by simp[zK,h3,h4]
      simp[Ji,h4',hb,Cq]
     ·have h4':(122<(b.toNat:Int)):=by omega
      have hb:zK b=false:=by simp[zK];omega
      simp[Ji,h4',hb]
    ·have Ji:((b.toNat:Int)<97):=by omega
     have hb:zK b=false:=by simp[zK];omega
     simp[Ji,hb]
  ·have e2:32<(s.size:Int):=by omega
   simp only[e1,e2,aX,aU,aC,aA,aB,h1,gd]
def Pu {O:Type} (d:O) (k:ByteArray) (v:O) (x:ByteArray):∀m:List (ByteArray×O),mC (nh m k v) x d=if x=k then v else mC m x d
 | []=>by simp[nh,mC]
 |p::m=>by
  simp only[nh];by_cases h:k=p.1
  ·simp only[h,aB,mC];by_cases h2:x=p.1
   ·simp[h2]
   ·simp[h2]
  ·simp only[h,aA,mC];by_cases h2:x=p.1
   ·have:¬x=k:=λe=>h (e.symm.trans h2)
    simp[h2];intro e;exact absurd e.symm h
   ·simp only[h2,aA];exact Pu d k v x m
def oG (x:ByteArray):List ByteArray->Bool
 | []=>false
 |y::l=>decide (x=y)||oG x l
def aaM (x:ByteArray):∀(a b:List ByteArray),oG x (a++b)=(oG x a||oG x b)
 | [],b=>by simp[oG]
 |y::a,b=>by simp[oG,aaM x a b,Bool.or_assoc]
def wH:List ByteArray->cO->Bool
 |_,[]=>true
 |seen,c::cs=>ym c.av&&(!oG c.av seen&&(zL c.ax&&wH (seen++ [c.av]) cs))
def M9 (seen:List ByteArray) (T:aj):Bool:=ym T.av&&(!oG T.av seen&&(decide (1<=T.ay)&&(decide (T.ay<=(T.ae.length:Int))&&wH [] T.ae)))
def qu:List ByteArray->br->Bool
 |_,[]=>true
 |seen,T::Ts=>M9 seen T&&qu (seen++ [T.av]) Ts
def OV (m:List (ByteArray×Bool)) (seen:List ByteArray):Prop:=∀x,mC m x false=oG x seen
def OV.put {m:List (ByteArray×Bool)} (h:OV m seen) (k:ByteArray):OV (nh m k true) (seen++ [k]):=λx=>by
 rw[Pu,h x,aaM];by_cases hx:x=k
 ·simp[hx,oG]
 ·simp[hx,oG]
def acP (k:br->Int->Int->ByteArray->Int->Int->cO->Int->List (ByteArray×Bool)->aj->Option Bool) (cs:cO) (hl:cs.length<=8) (a1:br) (a2 a3:Int) (a4:ByteArray) (a5 a6:Int) (a7:cO) (a8:Int) (a9:List (ByteArray×Bool)) (T:aj):∀(x:cO) (i m:Nat) (mp:List (ByteArray×Bool)) (seen:List ByteArray),cs.drop i=x->x.length+200<m->OV mp seen->
  Mb k m a1 a2 a3 a4 a5 a6 a7 a8 cs (cs.length:Int) (i:Int) a9 mp T=if wH seen x=true then k a1 a2 a3 a4 a5 a6 a7 a8 a9 T else some false
 | [],i,m+1,mp,seen,hd,hm,hs=>by
  have:cs.length<=i:=by simpa using hd
  have hq:¬((i:Int)<(cs.length:Int)):=by omega
  simp only[Mb,Yc,hq,aX,aC,aA,wH,aB]
 |c::x,i,m+1,mp,seen,hd,hm,hs=>by
  obtain ⟨g1,g2,g3⟩:=bC hd;have hq:(i:Int)<(cs.length:Int):=by omega
  simp at hm;have ih:=acP k cs hl a1 a2 a3 a4 a5 a6 a7 a8 a9 T x (i+1) m _ _ g2 (by omega) (hs.put c.av)
  simp only[Mb,Yc,hq,aU,aB,bO,g1,au,arY m c.av (by omega),hs c.av,bY g3 (by omega),ih,wH]
  rcases ke (ym c.av) with hv|hv<;>rcases ke (oG c.av seen) with h2|h2<;>by_cases h3:c.ax=3<;>by_cases h4:c.ax=4<;>by_cases h5:c.ax=5<;>simp[hv,h2,h3,h4,h5,zL]
 |_,_,0,_,_,_,hm,_=>by simp at hm
def acO (n0:Nat) (ts:br) (hl:ts.length<=8) (hc:∀T∈ts,T.ae.length<=8):∀(x:br) (i m:Nat) (mp:List (ByteArray×Bool)) (seen:List ByteArray),ts.drop i=x->x.length+1000<m->OV mp seen->
  He (QE n0) m ts (ts.length:Int) (i:Int) mp=some (qu seen x)
 | [],i,m+1,mp,seen,hd,hm,hs=>by
  have:ts.length<=i:=by simpa using hd
  have hq:¬((i:Int)<(ts.length:Int)):=by omega
  simp only[He,Ya,QE,hq,aX,aC,aA,qu]
 |T::x,i,m+1,mp,seen,hd,hm,hs=>by
  obtain ⟨g1,g2,g3⟩:=bC hd;have hq:(i:Int)<(ts.length:Int):=by omega
  simp at hm;have hT:=hc T (cN g1);have ih:=acO n0 ts hl hc x (i+1) m _ _ g2 (by omega) (hs.put T.av)
  have Je:=acP (Yb (He (QE n0) m) m) T.ae hT ts (ts.length:Int) (i:Int) T.av T.ay T.ay T.ae (T.ae.length:Int) (nh mp T.av true) T T.ae 0 m [] [] rfl (by omega) (λx=>by simp[mC,oG])
  rw[show ((0:Nat):Int)=0 from rfl] at Je;simp only[He,Ya,hq,aU,aB,bO,g1,au,arY m T.av (by omega),hs T.av,Je,Yb,bY g3 (by omega),ih,qu,M9]
  have q1:decide (T.ay<1)= !decide (1<=T.ay):=by rw[<-decide_not];exact Km.2 (by omega)
  have q2:decide ((T.ae.length:Int)<T.ay)= !decide (T.ay<=(T.ae.length:Int)):=by rw[<-decide_not];exact Km.2 (by omega)
  rw[q1,q2];rcases ke (ym T.av) with hv|hv<;>rcases ke (oG T.av seen) with h2|h2<;>rcases ke (decide (1<=T.ay)) with h3|h3<;>rcases ke (decide (T.ay<=(T.ae.length:Int))) with h4|h4<;>rcases ke (wH [] T.ae) with h5|h5<;>simp only[hv,h2,h3,h4,h5,dw,gM,aC,aA,aB,hZ,gd]
 |_,_,0,_,_,_,hm,_=>by simp at hm
def aIX (n:Nat) (s:ag) (hl:s.ai.length<=8) (hc:∀T∈s.ai,T.ae.length<=8) (hn:2000<n):F43 n s=some (qu [] s.ai):=
 acO n s.ai hl hc s.ai 0 n [] [] rfl (by omega) (λx=>by simp[mC,oG])
def WV (k:aj->Option Bool) (s:ag) (hl:s.ai.length<=8) (i:Nat) (hi:i<=s.ai.length) (T:aj):∀(x:br) (j m:Nat),(s.ai.take i).drop j=x->x.length<m->j<=i->Ft k m (i:Int) (j:Int) s T=if oG T.av (x.map (·.av))=true then some false else k T
 | [],j,m+1,hd,hm,hj=>by
  have:(s.ai.take i).length<=j:=by simpa using hd
  rw[dZ] at this;have hq:¬((j:Int)<(i:Int)):=by omega
  simp only[Ft,R1,hq,aX,aC,aA,uD,oG]
 |G::x,j,m+1,hd,hm,hj=>by
  obtain ⟨g1,g2,g3⟩:=bC hd;rw[dZ] at g3;have hq:(j:Int)<(i:Int):=by omega
  have hg:s.ai[j]? =some G:=by rw[fa,aH (by omega)] at g1;exact g1
  have ih:=WV k s hl i hi T x (j+1) m g2 (by simp at hm;omega) (by omega)
  have hw:bl ((j:Int)+1)=((j+1:Nat):Int):=by rw[dv (by omega) (by omega)];rfl
  simp only[Ft,R1,hq,aU,aB,bO,hg,au,hw,ih,iZ,oG];by_cases h:G.av=T.av
  ·simp[h]
  ·have h':¬T.av=G.av:=λe=>h e.symm
   simp[h,h']
 |_,_,0,_,hm,_=>by simp at hm
def WU (k:Int->Int->cO->Int->cJ->cJ->Int->Bool->aj->Option Bool) (T:aj) (hl:T.ae.length<=8) (i:Nat) (c:cJ) (hc:T.ae[i]? =some c) (a1 a2:Int) (a3:cO) (a4:Int) (a5 a6:cJ) (a7:Int) (a8:Bool):∀(x:cO) (j m:Nat),(T.ae.take i).drop j=x->x.length<m->j<=i->
  Fs k m (i:Int) (j:Int) a1 a2 a3 a4 a5 a6 a7 a8 T=if oG c.av (x.map (·.av))=true then some false else k a1 a2 a3 a4 a5 a6 a7 a8 T
 | [],j,m+1,hd,hm,hj=>by
  have:(T.ae.take i).length<=j:=by simpa using hd
  have hi:=(cf.1 hc).1;rw[dZ] at this;have hq:¬((j:Int)<(i:Int)):=by omega
  simp only[Fs,R0,hq,aX,aC,aA,uD,oG]
 |G::x,j,m+1,hd,hm,hj=>by
  obtain ⟨g1,g2,g3⟩:=bC hd;have hi:=(cf.1 hc).1;rw[dZ] at g3;have hq:(j:Int)<(i:Int):=by omega
  have hg:T.ae[j]? =some G:=by rw[fa,aH (by omega)] at g1;exact g1
  have ih:=WU k T hl i c hc a1 a2 a3 a4 a5 a6 a7 a8 x (j+1) m g2 (by simp at hm;omega) (by omega)
  have hw:bl ((j:Int)+1)=((j+1:Nat):Int):=by rw[dv (by omega) (by omega)];rfl
  simp only[Fs,R0,hq,aU,aB,bO,hg,hc,au,hw,ih,iZ,oG];by_cases h:G.av=c.av
  ·simp[h]
  ·have h':¬c.av=G.av:=λe=>h e.symm
   simp[h,h']
 |_,_,0,_,hm,_=>by simp at hm
def WT (n0:Nat) (T:aj) (hl:T.ae.length<=8):∀(x:cO) (i m:Nat),T.ae.drop i=x->x.length+200<m->B2 (Ka n0) m (T.ae.length:Int) (i:Int) T=some (wH ((T.ae.take i).map (·.av)) x)
 | [],i,m+1,hd,hm=>by
  have:T.ae.length<=i:=by simpa using hd
  have hq:¬((i:Int)<(T.ae.length:Int)):=by omega
  simp only[B2,RY,Ka,hq,aX,aC,aA,wH]
 |c::x,i,m+1,hd,hm=>by
  obtain ⟨g1,g2,g3⟩:=bC hd;have hq:(i:Int)<(T.ae.length:Int):=by omega
  simp at hm;have ih:=WT n0 T hl x (i+1) m g2 (by omega)
  have il:=λb=>WU (RZ (B2 (Ka n0) m) m) T hl i c g1 (T.ae.length:Int) (i:Int) T.ae (i:Int) c c c.ax b (T.ae.take i) 0 m rfl (by simp;omega) (by omega)
  rw[show ((0:Nat):Int)=0 from rfl] at il;rw[DO,g1] at ih;simp only[Kn,mw,iZ,uD] at ih;simp only[B2,RY,hq,aU,aB,bO,g1,au,aiP m c.av (by omega),aiO,il,RZ,bY g3 (by omega),ih,wH]
  rcases ke (ym c.av) with hv|hv<;>rcases ke (zL c.ax) with h3|h3<;>rcases ke (oG c.av ((T.ae.take i).map (·.av))) with h2|h2<;>simp only[hv,h2,h3,dw,gM,aC,aA,aB,hZ,gd]
 |_,_,0,_,hm=>by simp at hm
def aCI (n:Nat) (s:ag) (hl:s.ai.length<=8) (i:Nat) (T:aj) (hT:s.ai[i]? =some T) (hc:T.ae.length<=8) (hn:1000<n):amI n s (i:Int)=some (M9 ((s.ai.take i).map (·.av)) T):=by
 have hi:=(cf.1 hT).1;unfold amI aeT M9;simp only[bO,hT,au,aiP n T.av (by omega)]
 rcases ke (ym T.av) with akM|akM
 rotate_left
 ·simp[akM]
 ·simp only[akM,dw,aC,aA,hZ];have h0:=WV (RX n) s hl i (by omega) T (s.ai.take i) 0 n rfl (by simp;omega) (by omega)
  rw[show ((0:Nat):Int)=0 from rfl] at h0;have h1:=WT n T hc T.ae 0 n rfl (by omega)
  rw[show ((0:Nat):Int)=0 from rfl,DR,uD] at h1;simp only[h0,RX,h1];by_cases e0:T.ae.length=0
  ·have e1:((T.ae.length:Int)==0)=true:=by simp[e0]
   by_cases h3:1<=T.ay
   ·have:¬T.ay<=(T.ae.length:Int):=by omega
    simp only[e1,aB,this,aX,gd,xq]
   ·simp only[e1,aB,h3,aX,gd,xq]
  ·have e1:((T.ae.length:Int)==0)=false:=by rw[beq_eq_false_iff_ne];omega
   simp only[e1,aC,aA];by_cases h3:T.ay<1
   ·have:¬1<=T.ay:=by omega
    simp[h3,this]
   ·have Ji:1<=T.ay:=by omega
    by_cases h4:(T.ae.length:Int)<T.ay
    ·have:¬T.ay<=(T.ae.length:Int):=by omega
     simp[h3,Ji,h4,this]
    ·have h4':T.ay<=(T.ae.length:Int):=by omega
     rcases ke (oG T.av ((s.ai.take i).map (·.av))) with h2|h2<;>simp only[h2,h3,Ji,h4,h4',aU,aX,dw,gM,aC,aA,aB,hZ,gd]
def acd:∀{cs:cO} {seen:List ByteArray},wH seen cs=true->mJ (cs.map (·.ax))=true
 | [],_,_=>rfl
 |c::cs,seen,h=>by
  simp only[wH,bF] at h;simp only[iZ,mJ,tN,bF];exact ⟨h.2.2.1,acd h.2.2.2⟩
def ayZ {T:aj} (hc:T.ae.length<=8) (h:M9 seen T=true):np T:=by
 simp only[M9,bF,jW] at h;exact ⟨h.2.2.1,h.2.2.2.1,hc,acd h.2.2.2.2⟩
def M8:∀{ts:br} {seen:List ByteArray},(∀T∈ts,T.ae.length<=8)->qu seen ts=true->∀T∈ts,np T
 | [],_,_,_,T,hT=>by simp at hT
 |G::ts,seen,hc,h,T,hT=>by
  simp only[qu,bF] at h;rcases cH.1 hT with rfl|hT
  ·exact ayZ (hc _ (by simp)) h.1
  ·exact M8 (λT hT=>hc T (by simp[hT])) h.2 T hT
def px (tc:cO):cO->aK->Bool
 |_,[]=>true
 | [],_::_=>false
 |g::gs,c::cs=>match idx tc c with|none=>false|some x=>x.ax==g.ax&&px tc gs cs
def aan (s:ag) (T:aj) (r:bk):Bool:=match idx s.ai r.aG with|none=>false|some G=>((r.ae.length:Int)==G.ay)&&px T.ae G.ae r.ae
def sS (s:ag) (T:aj):cA->Bool
 | []=>true
 |r::rs=>aan s T r&&sS s T rs
def allRefs (s:ag):br->Bool
 | []=>true
 |T::ts=>sS s T T.af&&allRefs s ts
def Cy (xs:List J) (i:Int):(i<0/\idx xs i=none)\/(¬i<0/\¬i<(xs.length:Int)/\idx xs i=none)\/(¬i<0/\i<(xs.length:Int)/\∃x,idx xs i=some x):=by
 by_cases h:i<0
 ·exact .inl ⟨h,by unfold idx;rw[aM (by omega)]⟩
 ·by_cases h2:i<(xs.length:Int)
  ·refine .inr (.inr ⟨h,h2,xs[i.toNat]'(by omega),?_⟩)
   unfold idx;rw[aH (by omega),dJ (by omega)]
  ·exact .inr (.inl ⟨h,h2,aBQ (by omega) h2⟩)
def acN (k:br->Int->Int->cA->Int->Int->Int->br->Int->ag->aj->bk->Option Bool) (T G:aj) (cs:aK) (hc:cs.length<=G.ae.length) (hg:G.ae.length<=8) (a1:br) (a2 a3:Int) (a4:cA) (a5 a6 a7:Int) (a8:br) (a9:Int) (s:ag) (r:bk):∀(x:aK) (i m:Nat),cs.drop i=x->x.length<m->
  Ma k m a1 a2 a3 a4 a5 a6 a7 a8 a9 cs (cs.length:Int) (i:Int) s T G r=if px T.ae (G.ae.drop i) x=true then k a1 a2 a3 a4 a5 a6 a7 a8 a9 s T r else some false
 | [],i,m+1,hd,hm=>by
  have:cs.length<=i:=by simpa using hd
  have hq:¬((i:Int)<(cs.length:Int)):=by omega
  simp only[Ma,X9,hq,aX,aC,aA,px,aB]
 |c::x,i,m+1,hd,hm=>by
  obtain ⟨g1,g2,g3⟩:=bC hd;have hq:(i:Int)<(cs.length:Int):=by omega
  have cV:i<G.ae.length:=by omega
  have hgi:G.ae[i]? =some G.ae[i]:=dJ cV;have hdr:G.ae.drop i=G.ae[i]::G.ae.drop (i+1):=qE cV;generalize G.ae[i]=g at hgi hdr;have ih:=acN k T G cs hc hg a1 a2 a3 a4 a5 a6 a7 a8 a9 s r x (i+1) m g2 (by simp at hm;omega)
  simp only[Ma,X9,hq,aU,aB,bO,g1,hgi,au,bY g3 (by omega),ih]
  rw[hdr];simp only[px];rcases Cy T.ae c with ⟨h1,h2⟩|⟨h1,h3,h2⟩|⟨h1,h3,y,h2⟩
  ·simp only[h1,h2,aU,aB,aC,aA]
  ·simp only[h1,h2,h3,aX,gM,aB,aC,aA]
  ·simp only[h1,h2,h3,aX,aU,dw,aC,aA,au];by_cases h4:y.ax=g.ax
   ·simp[h4]
   ·simp[h4]
 |_,_,0,_,hm=>by simp at hm
def acM (k:br->Int->Int->ag->Option Bool) (s:ag) (hs:∀t G,idx s.ai t=some G->np G) (T:aj) (rs:cA) (hl:rs.length<=8) (a1:br) (a2 a3:Int):∀(x:cA) (i m:Nat),rs.drop i=x->x.length+100<m->
  Hd k m a1 a2 a3 rs (rs.length:Int) (i:Int) s T=if sS s T x=true then k a1 a2 a3 s else some false
 | [],i,m+1,hd,hm=>by
  have:rs.length<=i:=by simpa using hd
  have hq:¬((i:Int)<(rs.length:Int)):=by omega
  simp only[Hd,X7,hq,aX,aC,aA,sS,aB]
 |r::x,i,m+1,hd,hm=>by
  obtain ⟨g1,g2,g3⟩:=bC hd;have hq:(i:Int)<(rs.length:Int):=by omega
  simp at hm;have ih:=acM k s hs T rs hl a1 a2 a3 x (i+1) m g2 (by omega)
  simp only[Hd,X7,hq,aU,aB,bO,g1,au,sS,aan];rcases Cy s.ai r.aG with ⟨h1,h2⟩|⟨h1,h3,h2⟩|⟨h1,h3,G,h2⟩
  ·simp only[h1,h2,aU,aB,gd,aC,aA]
  ·simp only[h1,h2,h3,aX,gM,aB,gd,aC,aA]
  ·have hG:=hs _ _ h2;have k2:=hG.jL;have k3:=hG.cols;simp only[h1,h2,h3,aX,aU,dw,aC,aA,au];by_cases h4:(r.ae.length:Int)=G.ay
   ·have e:((r.ae.length:Int) !=G.ay)=false:=by simp[h4]
    have e':((r.ae.length:Int)==G.ay)=true:=by simp[h4]
    have il:=acN (X8 (Hd k m) m) T G r.ae (by omega) k3 a1 a2 a3 rs (rs.length:Int) (i:Int) r.aG s.ai (s.ai.length:Int) s r r.ae 0 m rfl (by omega)
    rw[show ((0:Nat):Int)=0 from rfl,rS] at il;simp only[e,e',aC,aA,il,X8,bY g3 (by omega),ih,hZ]
    rcases ke (px T.ae G.ae r.ae) with hv|hv<;>simp only[hv,aB,hZ,gd,aC,aA]
   ·have e:((r.ae.length:Int) !=G.ay)=true:=by simpa using h4
    have e':((r.ae.length:Int)==G.ay)=false:=by simpa using h4
    simp only[e,e',aB,gd,aC,aA]
 |_,_,0,_,hm=>by simp at hm
def acL (n0:Nat) (s:ag) (hs:∀t G,idx s.ai t=some G->np G) (ts:br) (hl:ts.length<=8) (hr:∀T∈ts,T.af.length<=4):∀(x:br) (i m:Nat),ts.drop i=x->x.length+200<m->
  Hc (QD n0) m ts (ts.length:Int) (i:Int) s=some (allRefs s x)
 | [],i,m+1,hd,hm=>by
  have:ts.length<=i:=by simpa using hd
  have hq:¬((i:Int)<(ts.length:Int)):=by omega
  simp only[Hc,X5,QD,hq,aX,aC,aA,allRefs]
 |T::x,i,m+1,hd,hm=>by
  obtain ⟨g1,g2,g3⟩:=bC hd;have hq:(i:Int)<(ts.length:Int):=by omega
  simp at hm;have hT:=hr T (cN g1);have ih:=acL n0 s hs ts hl hr x (i+1) m g2 (by omega)
  have il:=acM (X6 (Hc (QD n0) m) m) s hs T T.af (by omega) ts (ts.length:Int) (i:Int) T.af 0 m rfl (by omega)
  rw[show ((0:Nat):Int)=0 from rfl] at il;simp only[Hc,X5,hq,aU,aB,bO,g1,au,il,X6,bY g3 (by omega),ih,allRefs]
  rcases ke (sS s T T.af) with hv|hv<;>simp only[hv,aB,hZ,gd,aC,aA]
 |_,_,0,_,hm=>by simp at hm
def aIW (n:Nat) (s:ag) (hs:∀t G,idx s.ai t=some G->np G) (hl:s.ai.length<=8) (hr:∀T∈s.ai,T.af.length<=4) (hn:1000<n):F44 n s=some (allRefs s s.ai):=
 acL n s hs s.ai hl hr s.ai 0 n rfl (by omega)
def WR (k:cA->Int->Int->Int->br->Int->aK->Int->br->Int->aj->aj->Int->ag->aj->bk->Option Bool) (s:ag) (T G:aj) (r:bk) (hG:idx s.ai r.aG=some G) (cs:aK) (hc:cs.length<=G.ae.length) (hg:G.ae.length<=8) (a1:cA) (a2 a3 a4:Int) (a5:br) (a6:Int) (a7:aK) (a8:Int) (a9:br) (a10:Int) (a11 a12:aj) (a13:Int):∀(x:aK) (i m:Nat),cs.drop i=x->x.length<m->
  Fq k m a1 a2 a3 a4 a5 a6 a7 a8 a9 a10 a11 a12 a13 cs (cs.length:Int) (i:Int) s T r=if px T.ae (G.ae.drop i) x=true then k a1 a2 a3 a4 a5 a6 a7 a8 a9 a10 a11 a12 a13 s T r else some false
 | [],i,m+1,hd,hm=>by
  have:cs.length<=i:=by simpa using hd
  have hq:¬((i:Int)<(cs.length:Int)):=by omega
  simp only[Fq,RW,hq,aX,aC,aA,px,aB]
 |c::x,i,m+1,hd,hm=>by
  obtain ⟨g1,g2,g3⟩:=bC hd;have hq:(i:Int)<(cs.length:Int):=by omega
  have cV:i<G.ae.length:=by omega
  have hgi:G.ae[i]? =some G.ae[i]:=dJ cV;have hdr:G.ae.drop i=G.ae[i]::G.ae.drop (i+1):=qE cV;generalize G.ae[i]=g at hgi hdr;have ih:=WR k s T G r hG cs hc hg a1 a2 a3 a4 a5 a6 a7 a8 a9 a10 a11 a12 a13 x (i+1) m g2 (by simp at hm;omega)
  simp only[Fq,RW,hq,aU,aB,bO,g1,hG,hgi,au,bY g3 (by omega),ih]
  rw[hdr];simp only[px];rcases Cy T.ae c with ⟨h1,h2⟩|⟨h1,h3,h2⟩|⟨h1,h3,y,h2⟩
  ·simp only[h1,h2,aU,aB,aC,aA]
  ·simp only[h1,h2,h3,aX,gM,aB,aC,aA]
  ·simp only[h1,h2,h3,aX,aU,dw,aC,aA,au];by_cases h4:y.ax=g.ax
   ·simp[h4]
   ·simp[h4]
 |_,_,0,_,hm=>by simp at hm
def WQ (n0:Nat) (s:ag) (hs:∀t G,idx s.ai t=some G->np G) (T:aj) (rs:cA) (hl:rs.length<=8):∀(x:cA) (i m:Nat),rs.drop i=x->x.length+100<m->
  B1 (J9 n0) m rs (rs.length:Int) (i:Int) s T=some (sS s T x)
 | [],i,m+1,hd,hm=>by
  have:rs.length<=i:=by simpa using hd
  have hq:¬((i:Int)<(rs.length:Int)):=by omega
  simp only[B1,RU,J9,hq,aX,aC,aA,sS]
 |r::x,i,m+1,hd,hm=>by
  obtain ⟨g1,g2,g3⟩:=bC hd;have hq:(i:Int)<(rs.length:Int):=by omega
  simp at hm;have ih:=WQ n0 s hs T rs hl x (i+1) m g2 (by omega)
  simp only[B1,RU,hq,aU,aB,bO,g1,au,sS,aan];rcases Cy s.ai r.aG with ⟨h1,h2⟩|⟨h1,h3,h2⟩|⟨h1,h3,G,h2⟩
  ·simp only[h1,h2,aU,aB,gd]
  ·simp only[h1,h2,h3,aX,gM,aB,gd,aC,aA]
  ·have hG:=hs _ _ h2;have k2:=hG.jL;have k3:=hG.cols;simp only[h1,h2,h3,aX,aU,dw,aC,aA,au];by_cases h4:(r.ae.length:Int)=G.ay
   ·have e:((r.ae.length:Int) !=G.ay)=false:=by simp[h4]
    have e':((r.ae.length:Int)==G.ay)=true:=by simp[h4]
    have il:=WR (RV (B1 (J9 n0) m) m) s T G r h2 r.ae (by omega) k3 rs (rs.length:Int) (i:Int) r.aG s.ai (s.ai.length:Int) r.ae (r.ae.length:Int) s.ai r.aG G G G.ay r.ae 0 m rfl (by omega)
    rw[show ((0:Nat):Int)=0 from rfl,rS] at il;simp only[e,e',aC,aA,il,RV,bY g3 (by omega),ih,hZ]
    rcases ke (px T.ae G.ae r.ae) with hv|hv<;>simp only[hv,aB,hZ,gd,aC,aA]
   ·have e:((r.ae.length:Int) !=G.ay)=true:=by simpa using h4
    have e':((r.ae.length:Int)==G.ay)=false:=by simpa using h4
    simp only[e,e',aB,gd]
 |_,_,0,_,hm=>by simp at hm
def aCH (n:Nat) (s:ag) (hs:∀t G,idx s.ai t=some G->np G) (i:Nat) (T:aj) (hT:s.ai[i]? =some T) (hr:T.af.length<=4) (hn:1000<n):amH n s (i:Int)=some (sS s T T.af):=by
 unfold amH aeS;simp only[bO,hT,au];exact WQ n s hs T T.af (by omega) T.af 0 n rfl (by omega)
def rN (ks:aK):bN->Int
 | []=>0
 |p::ps=>if sK ks [] p=0 then rN ks ps else sK ks [] p
def zw:br->Int
 | []=>0
 |T::ts=>if rN (fL T) T.ak=0 then zw ts else rN (fL T) T.ak
def acX (k:br->Int->Int->ag->Option Int) (ks:aK) (hk:ks.length<=8) (s:ag) (ps:bN) (hl:ps.length<=4) (hp:∀p∈ps,fC p<=1500000) (a1:br) (a2 a3:Int):∀(x:bN) (i m:Nat),ps.drop i=x->x.length+1500000<m->m<4294967296->
  Mi k m ks a1 a2 a3 ps (ps.length:Int) (i:Int) s=if rN ks x=0 then k a1 a2 a3 s else some (rN ks x)
 | [],i,m+1,hd,hm,sV=>by
  have:ps.length<=i:=by simpa using hd
  have hq:¬((i:Int)<(ps.length:Int)):=by omega
  simp only[Mi,Ys,hq,aX,aC,aA,rN,aB]
 |p::x,i,m+1,hd,hm,sV=>by
  obtain ⟨g1,g2,g3⟩:=bC hd;have hq:(i:Int)<(ps.length:Int):=by omega
  simp at hm;have ih:=acX k ks hk s ps hl hp a1 a2 a3 x (i+1) m g2 (by omega) (by omega)
  have hpp:=hp p (cN g1);simp only[Mi,Ys,hq,aU,aB,bO,g1,au,aIU m ks [] p (by omega) (by simp;omega) (by omega) (by omega),bY g3 (by omega),ih,rN]
  by_cases h:sK ks [] p=0
  ·simp only[h,jN,aC,aA,aB]
  ·have:(sK ks [] p !=0)=true:=by simpa using h
   simp only[h,this,aB,aA]
 |_,_,0,_,hm,_=>by simp at hm
def acG (k:Int->Int->ag->Option Int) (T:aj) (s:ag) (t:Int) (hT:idx s.ai t=some T) (hk:T.ae.length<=8) (ps:bN) (hl:ps.length<=4) (hp:∀p∈ps,fC p<=1500000) (a1 a2:Int):∀(x:bN) (i m:Nat),ps.drop i=x->x.length+1500000<m->m<4294967296->
  L3 k m t a1 a2 ps (ps.length:Int) (i:Int) s=if rN (fL T) x=0 then k a1 a2 s else some (rN (fL T) x)
 | [],i,m+1,hd,hm,sV=>by
  have:ps.length<=i:=by simpa using hd
  have hq:¬((i:Int)<(ps.length:Int)):=by omega
  simp only[L3,XQ,hq,aX,aC,aA,rN,aB]
 |p::x,i,m+1,hd,hm,sV=>by
  obtain ⟨g1,g2,g3⟩:=bC hd;have hq:(i:Int)<(ps.length:Int):=by omega
  simp at hm;have ih:=acG k T s t hT hk ps hl hp a1 a2 x (i+1) m g2 (by omega) (by omega)
  have hpp:=hp p (cN g1);have EF:=rG T;simp only[L3,XQ,hq,aU,aB,bO,g1,au,adh hT (by omega) (by omega:1000<m),aja m (fL T) [] p (by omega) (by simp;omega) (by omega) (by omega),bY g3 (by omega),ih,rN]
  by_cases h:sK (fL T) [] p=0
  ·simp only[h,jN,aC,aA,aB]
  ·have:(sK (fL T) [] p !=0)=true:=by simpa using h
   simp only[h,this,aB,aA]
 |_,_,0,_,hm,_=>by simp at hm
def uA (T:aj):Bool:=decide (T.ae.length<=8)&&(decide (T.af.length<=4)&&decide (T.ak.length<=4))
def qe {T:aj} (h:uA T=true):T.ae.length<=8/\T.af.length<=4/\T.ak.length<=4:=by simpa[uA] using h
def w6 (T:aj):Prop:=∀p∈T.ak,fC p<=1500000
def acW (n0:Nat) (s:ag) (hl:s.ai.length<=8) (hb:∀T∈s.ai,uA T=true) (hz:∀T∈s.ai,w6 T):∀(x:br) (i m:Nat),s.ai.drop i=x->x.length+1500010<m->m<4294967296->
  Hi (Rk n0) m s.ai (s.ai.length:Int) (i:Int) s=some (zw x)
 | [],i,m+1,hd,hm,sV=>by
  have:s.ai.length<=i:=by simpa using hd
  have hq:¬((i:Int)<(s.ai.length:Int)):=by omega
  simp only[Hi,Yq,Rk,hq,aX,aC,aA,zw]
 |T::x,i,m+1,hd,hm,sV=>by
  obtain ⟨g1,g2,g3⟩:=bC hd;have hq:(i:Int)<(s.ai.length:Int):=by omega
  simp at hm;have xX:=cN g1;obtain ⟨b1,b2,b3⟩:=qe (hb T xX);have hT:idx s.ai (i:Int)=some T:=by rw[bO];exact g1
  have EF:=rG T;have ih:=acW n0 s hl hb hz x (i+1) m g2 (by omega) (by omega)
  have il:=acX (Yr (Hi (Rk n0) m) m) (fL T) (by omega) s T.ak b3 (hz T xX) s.ai (s.ai.length:Int) (i:Int) T.ak 0 m rfl (by omega) (by omega)
  rw[show ((0:Nat):Int)=0 from rfl] at il;simp only[Hi,Yq,hq,aU,aB,hT,au,aIV hT (by omega) (by omega:1000<m),il,Yr,bY g3 (by omega),ih,zw]
  by_cases h:rN (fL T) T.ak=0
  ·simp only[h,aB]
  ·simp only[h,aA]
 |_,_,0,_,hm,_=>by simp at hm
def acF (n0:Nat) (s:ag) (hl:s.ai.length<=8) (hb:∀T∈s.ai,uA T=true) (hz:∀T∈s.ai,w6 T):∀(x:br) (i m:Nat),s.ai.drop i=x->x.length+1500010<m->m<4294967296->
  G8 (Qx n0) m (s.ai.length:Int) (i:Int) s=some (zw x)
 | [],i,m+1,hd,hm,sV=>by
  have:s.ai.length<=i:=by simpa using hd
  have hq:¬((i:Int)<(s.ai.length:Int)):=by omega
  simp only[G8,XO,Qx,hq,aX,aC,aA,zw]
 |T::x,i,m+1,hd,hm,sV=>by
  obtain ⟨g1,g2,g3⟩:=bC hd;have hq:(i:Int)<(s.ai.length:Int):=by omega
  simp at hm;have xX:=cN g1;obtain ⟨b1,b2,b3⟩:=qe (hb T xX);have hT:idx s.ai (i:Int)=some T:=by rw[bO];exact g1
  have ih:=acF n0 s hl hb hz x (i+1) m g2 (by omega) (by omega)
  have il:=acG (XP (G8 (Qx n0) m) m) T s (i:Int) hT b1 T.ak b3 (hz T xX) (s.ai.length:Int) (i:Int) T.ak 0 m rfl (by omega) (by omega)
  rw[show ((0:Nat):Int)=0 from rfl] at il;simp only[G8,XO,hq,aU,aB,hT,au,il,XP,bY g3 (by omega),ih,zw]
  by_cases h:rN (fL T) T.ak=0
  ·simp only[h,aB]
  ·simp only[h,aA]
 |_,_,0,_,hm,_=>by simp at hm
def acY (k:ag->Option Int) (s:ag) (ts:br) (hl:ts.length<=8):∀(x:br) (i m:Nat),ts.drop i=x->x.length<m->Mj k m ts (ts.length:Int) (i:Int) s=if x.all uA=true then k s else some 2
 | [],i,m+1,hd,hm=>by
  have:ts.length<=i:=by simpa using hd
  have hq:¬((i:Int)<(ts.length:Int)):=by omega
  simp only[Mj,Yt,hq,aX,aC,aA,List.all_nil,aB]
 |T::x,i,m+1,hd,hm=>by
  obtain ⟨g1,g2,g3⟩:=bC hd;have hq:(i:Int)<(ts.length:Int):=by omega
  have ih:=acY k s ts hl x (i+1) m g2 (by simp at hm;omega)
  simp only[Mj,Yt,hq,aU,aB,bO,g1,au,bY g3 (by omega),ih,tN,uA]
  by_cases h1:T.ae.length<=8
  ·have e1:¬(8:Int)<(T.ae.length:Int):=by omega
   by_cases h2:T.af.length<=4
   ·have e2:¬(4:Int)<(T.af.length:Int):=by omega
    by_cases h3:T.ak.length<=4
    ·have e3:¬(4:Int)<(T.ak.length:Int):=by omega
     simp only[h1,h2,h3,e1,e2,e3,aU,aX,aC,aA,ow,hZ]
    ·have e3:(4:Int)<(T.ak.length:Int):=by omega
     simp only[h1,h2,h3,e1,e2,e3,aU,aX,aC,aA,aB,xq,gd]
   ·have e2:(4:Int)<(T.af.length:Int):=by omega
    simp only[h1,h2,e1,e2,aU,aX,aC,aA,aB,xq,gd]
  ·have e1:(8:Int)<(T.ae.length:Int):=by omega
   simp only[h1,e1,aU,aX,aC,aA,aB,gd]
 |_,_,0,_,hm=>by simp at hm
def acJ (k:ag->Option Int) (s:ag) (ts:br) (hl:ts.length<=8):∀(x:br) (i m:Nat),ts.drop i=x->x.length<m->L6 k m ts (ts.length:Int) (i:Int) s=if x.all uA=true then k s else some 2
 | [],i,m+1,hd,hm=>by
  have:ts.length<=i:=by simpa using hd
  have hq:¬((i:Int)<(ts.length:Int)):=by omega
  simp only[L6,XT,hq,aX,aC,aA,List.all_nil,aB]
 |T::x,i,m+1,hd,hm=>by
  obtain ⟨g1,g2,g3⟩:=bC hd;have hq:(i:Int)<(ts.length:Int):=by omega
  have ih:=acJ k s ts hl x (i+1) m g2 (by simp at hm;omega)
  simp only[L6,XT,hq,aU,aB,bO,g1,au,bY g3 (by omega),ih,tN,uA]
  by_cases h1:T.ae.length<=8
  ·have e1:¬(8:Int)<(T.ae.length:Int):=by omega
   by_cases h2:T.af.length<=4
   ·have e2:¬(4:Int)<(T.af.length:Int):=by omega
    by_cases h3:T.ak.length<=4
    ·have e3:¬(4:Int)<(T.ak.length:Int):=by omega
     simp only[h1,h2,h3,e1,e2,e3,aU,aX,aC,aA,ow,hZ]
    ·have e3:(4:Int)<(T.ak.length:Int):=by omega
     simp only[h1,h2,h3,e1,e2,e3,aU,aX,aC,aA,aB,xq,gd]
   ·have e2:(4:Int)<(T.af.length:Int):=by omega
    simp only[h1,h2,e1,e2,aU,aX,aC,aA,aB,xq,gd]
  ·have e1:(8:Int)<(T.ae.length:Int):=by omega
   simp only[h1,e1,aU,aX,aC,aA,aB,gd]
 |_,_,0,_,hm=>by simp at hm
def acI (k:ag->Option Int) (s:ag) (hl:s.ai.length<=8) (hc:∀T∈s.ai,uA T=true):∀(x:br) (i m:Nat),s.ai.drop i=x->x.length+2000<m->L5 k m (s.ai.length:Int) (i:Int) s=if qu ((s.ai.take i).map (·.av)) x=true then k s else some 70
 | [],i,m+1,hd,hm=>by
  have:s.ai.length<=i:=by simpa using hd
  have hq:¬((i:Int)<(s.ai.length:Int)):=by omega
  simp only[L5,XS,hq,aX,aC,aA,qu,aB]
 |T::x,i,m+1,hd,hm=>by
  obtain ⟨g1,g2,g3⟩:=bC hd;have hq:(i:Int)<(s.ai.length:Int):=by omega
  simp at hm;have ih:=acI k s hl hc x (i+1) m g2 (by omega)
  rw[DO,g1] at ih;simp only[Kn,mw,iZ,uD] at ih;simp only[L5,XS,hq,aU,aB,aCI m s hl i T g1 (qe (hc T (cN g1))).1 (by omega),au,bY g3 (by omega),ih,qu]
  rcases ke (M9 ((s.ai.take i).map (·.av)) T) with hv|hv<;>simp only[hv,dw,gM,aC,aB,aA,hZ,gd]
 |_,_,0,_,hm=>by simp at hm
def acH (k:ag->Option Int) (s:ag) (hs:∀t G,idx s.ai t=some G->np G) (hl:s.ai.length<=8) (hc:∀T∈s.ai,uA T=true):∀(x:br) (i m:Nat),s.ai.drop i=x->x.length+2000<m->L4 k m (s.ai.length:Int) (i:Int) s=if allRefs s x=true then k s else some 70
 | [],i,m+1,hd,hm=>by
  have:s.ai.length<=i:=by simpa using hd
  have hq:¬((i:Int)<(s.ai.length:Int)):=by omega
  simp only[L4,XR,hq,aX,aC,aA,allRefs,aB]
 |T::x,i,m+1,hd,hm=>by
  obtain ⟨g1,g2,g3⟩:=bC hd;have hq:(i:Int)<(s.ai.length:Int):=by omega
  simp at hm;have ih:=acH k s hs hl hc x (i+1) m g2 (by omega)
  simp only[L4,XR,hq,aU,aB,aCH m s hs i T g1 (qe (hc T (cN g1))).2.1 (by omega),au,bY g3 (by omega),ih,allRefs]
  rcases ke (sS s T T.af) with hv|hv<;>simp only[hv,dw,gM,aC,aB,aA,hZ,gd]
 |_,_,0,_,hm=>by simp at hm
def gy (s:ag):Int:=
 if 8<s.ai.length then 2
 else if s.ai.all uA=true then
  (if s.aw<0 then 70 else if 1000<s.aw then 70
   else if qu [] s.ai=true then (if allRefs s s.ai=true then zw s.ai else 70) else 70)
 else 2
def SM {s:ag} (hb:∀T∈s.ai,uA T=true) (h:qu [] s.ai=true):∀t G,idx s.ai t=some G->np G:=λt G hG=>
 M8 (λT hT=>(qe (hb T hT)).1) h G (cN (yN hG).2.2)
structure SOK (s:ag):Prop where
 len:s.ai.length<=8
 cy:∀t T,idx s.ai t=some T->np T
def A5 {s:ag} (h:gy s=0):SOK s:=by
 unfold gy at h;split at h
 ·cases h
 ·rename_i h8;split at h
  ·rename_i hb;rw[iT] at hb;split at h
   ·cases h
   ·split at h
    ·cases h
    ·split at h
     ·rename_i ht;exact ⟨by omega,SM hb ht⟩
     ·cases h
  ·cases h
def adu (n:Nat) (s:ag) (hz:∀T∈s.ai,w6 T) (hn:1600000<n) (fN:n<4294967296):F15 n s=some (gy s):=by
 unfold F15 anF gy;by_cases h8:8<s.ai.length
 ·have:(8:Int)<(s.ai.length:Int):=by omega
  simp only[h8,this,aU,aB]
 ·have h8':¬(8:Int)<(s.ai.length:Int):=by omega
  have h0:=acY (Yp n) s s.ai (by omega) s.ai 0 n rfl (by omega)
  rw[show ((0:Nat):Int)=0 from rfl] at h0;simp only[h8,h8',aX,aC,aA,h0];by_cases hb:s.ai.all uA=true
  ·simp only[hb,aB,Yp];have mQ:=iT.1 hb;by_cases v1:s.aw<0
   ·simp only[v1,aU,aB]
   ·by_cases v2:1000<s.aw
    ·simp only[v1,v2,aU,aX,aC,aA,aB]
    ·simp only[v1,v2,aX,aC,aA,aIX n s (by omega) (λT hT=>(qe (mQ T hT)).1) (by omega),au]
     by_cases ht:qu [] s.ai=true
     ·simp only[ht,dw,aC,aA,aB,aIW n s (SM mQ ht) (by omega) (λT hT=>(qe (mQ T hT)).2.1) (by omega),au]
      by_cases hr:allRefs s s.ai=true
      ·have h3:=acW n s (by omega) mQ hz s.ai 0 n rfl (by omega) fN
       rw[show ((0:Nat):Int)=0 from rfl] at h3;simp only[hr,dw,aC,aA,aB,h3]
      ·simp only[hr,Bool.not_eq_true] at hr ⊢;simp[hr]
     ·have ht':qu [] s.ai=false:=by simpa using ht
      simp[ht']
  ·simp only[hb,aA,aC]
def FD (n:Nat) (s:ag) (hz:∀T∈s.ai,w6 T) (hn:1600000<n) (fN:n<4294967296):F94 n s=some (gy s):=by
 unfold F94 adP gy;by_cases h8:8<s.ai.length
 ·have:(8:Int)<(s.ai.length:Int):=by omega
  simp only[h8,this,aU,aB]
 ·have h8':¬(8:Int)<(s.ai.length:Int):=by omega
  have h0:=acJ (XL n) s s.ai (by omega) s.ai 0 n rfl (by omega)
  rw[show ((0:Nat):Int)=0 from rfl] at h0;simp only[h8,h8',aX,aC,aA,h0];by_cases hb:s.ai.all uA=true
  ·simp only[hb,aB,XL];have mQ:=iT.1 hb;by_cases v1:s.aw<0
   ·simp only[v1,aU,aB]
   ·by_cases v2:1000<s.aw
    ·simp only[v1,v2,aU,aX,aC,aA,aB]
    ·have h1:=acI (XM n) s (by omega) mQ s.ai 0 n rfl (by omega)
     rw[show ((0:Nat):Int)=0 from rfl,DR,uD] at h1;simp only[v1,v2,aX,aC,aA,h1];by_cases ht:qu [] s.ai=true
     ·have h2:=acH (XN n) s (SM mQ ht) (by omega) mQ s.ai 0 n rfl (by omega)
      rw[show ((0:Nat):Int)=0 from rfl] at h2;simp only[ht,aB,XM,h2];by_cases hr:allRefs s s.ai=true
      ·have h3:=acF n s (by omega) mQ hz s.ai 0 n rfl (by omega) fN
       rw[show ((0:Nat):Int)=0 from rfl] at h3;simp only[hr,aB,XN,h3]
      ·simp only[hr,aA,aC]
     ·simp only[ht,aA,aC]
  ·simp only[hb,aA,aC]
def kH (id : Int) (r1 r2 r3 : cA) (ch : bN) : br :=
  [⟨ByteArray.mk #[112, 114, 111, 106, 101, 99, 116, 115], [⟨ByteArray.mk #[105, 100], 4⟩, ⟨ByteArray.mk #[111, 119, 110, 101, 114], 4⟩], 1, [], []⟩,
   ⟨ByteArray.mk #[116, 97, 115, 107, 115], [⟨ByteArray.mk #[105, 100], id⟩, ⟨ByteArray.mk #[112, 114, 111, 106, 101, 99, 116], 4⟩, ⟨ByteArray.mk #[116, 105, 116, 108, 101], 5⟩, ⟨ByteArray.mk #[100, 111, 110, 101], 3⟩], 1, r1, ch⟩,
   ⟨ByteArray.mk #[109, 101, 109, 98, 101, 114, 115], [⟨ByteArray.mk #[112, 114, 111, 106, 101, 99, 116], 4⟩, ⟨ByteArray.mk #[112, 101, 114, 115, 111, 110], 4⟩], 2, r2, []⟩,
   ⟨ByteArray.mk #[97, 114, 99, 104, 105, 118, 101, 100], [⟨ByteArray.mk #[116, 97, 115, 107], id⟩], 1, r3, []⟩]
structure adb (v id:Int) (k:Nat) (r1 r2 r3:cA) (ch:bN):Prop where
 v0:0<=v
 v1:v<=2
 iI:id=4\/id=5
 hk:k=2\/k=3\/k=4
 h1:r1= []\/r1= [⟨[1],0⟩]
 h2:r2= []\/r2= [⟨[0],0⟩]
 h3:r3= []\/r3= [⟨[0],1⟩]
 hc:ch.length<=1/\rN [id,4,5,3] ch=0/\∀p∈ch,fC p<=119
def wW (s:ag):Prop:=∃v id k r1 r2 r3 ch,adb v id k r1 r2 r3 ch/\s=⟨v,(kH id r1 r2 r3 ch).take k⟩
def wW.jH {s:ag} (h:wW s):gy s=0:=by
 obtain ⟨v,id,k,r1,r2,r3,ch,⟨v0,v1,iI,hk,h1,h2,h3,vS,hc,_⟩,rfl⟩:=h;have e1:¬8<((kH id r1 r2 r3 ch).take k).length:=by rw[dZ];simp[kH];omega
 have e2:((kH id r1 r2 r3 ch).take k).all uA=true:=by
  have xd:r1.length<=4:=by rcases h1 with rfl|rfl<;>simp
  have hr2:r2.length<=4:=by rcases h2 with rfl|rfl<;>simp
  have hr3:r3.length<=4:=by rcases h3 with rfl|rfl<;>simp
  have si:ch.length<=4:=by omega
  rcases hk with rfl|rfl|rfl<;>simp[kH,uA,xd,hr2,hr3,si]
 have e3:qu [] ((kH id r1 r2 r3 ch).take k)=true:=by
  rcases iI with rfl|rfl<;>rcases hk with rfl|rfl|rfl<;>kernel_rfl
 have e4:allRefs ⟨v,(kH id r1 r2 r3 ch).take k⟩ ((kH id r1 r2 r3 ch).take k)=true:=by
  rcases iI with rfl|rfl<;>rcases hk with rfl|rfl|rfl<;>rcases h1 with rfl|rfl<;>rcases h2 with rfl|rfl<;>rcases h3 with rfl|rfl<;>kernel_rfl
 have e5:zw ((kH id r1 r2 r3 ch).take k)=0:=by
  rcases hk with rfl|rfl|rfl<;>simp[kH,zw,rN,fL,hc]
 unfold gy;simp only[e1,e2,e3,e4,e5,aA,aB,show ¬v<0 by omega,show ¬1000<v by omega]
def wW.ok {s:ag} (h:wW s):SOK s:=A5 h.jH
def wW.sz {s:ag} (h:wW s):∀T∈s.ai,w6 T:=by
 obtain ⟨v,id,k,r1,r2,r3,ch,⟨_,_,_,_,_,_,_,_,_,hz⟩,rfl⟩:=h;intro T hT p hp;have hT:=qC hT;simp only[kH,cH,List.not_mem_nil,or_false] at hT;rcases hT with rfl|rfl|rfl|rfl
 ·simp at hp
 ·have:=hz p hp;omega
 ·simp at hp
 ·simp at hp
def wW.pos {s:ag} (h:wW s):2<=s.ai.length:=by
 obtain ⟨v,id,k,r1,r2,r3,ch,⟨_,_,_,hk,_⟩,rfl⟩:=h;rw[dZ];simp[kH];omega
def Oa (n:Nat) (hn:2000<=n) (fN:n<4294967296) (c:aL) (hc:dk c) (z:ag) (v id:Int) (k:Nat) (r1 r2 r3:cA) (h:adb v id k r1 r2 r3 []) (ts:br) (mP:ts=(kH id r1 r2 r3 []).take k) (b5:ag) (Jg:b5.aw=v):
  Ok (Hv n c z b5 ts) λr=>dk r.2/\wW r.1:=by
 unfold Hv;refine Ok.bind (tK n c 3 hc) λb hb=> ?_
 refine Ok.ite (λ_=> ?_) λ_=>Ok.pure ⟨hb,v,id,k,r1,r2,r3,[],h,by rw[Jg,mP]⟩
 have hT:idx (ag.mk b5.aw ts).ai 1=some ⟨ByteArray.mk #[116,97,115,107,115],[⟨ByteArray.mk #[105,100],id⟩,⟨ByteArray.mk #[112,114,111,106,101,99,116],4⟩,⟨ByteArray.mk #[116,105,116,108,101],5⟩,⟨ByteArray.mk #[100,111,110,101],3⟩],1,r1,[]⟩:=by
  rw[mP];rcases h.hk with rfl|rfl|rfl<;>rfl
 rw[adh hT (by simp) (by omega),au]
 have EE:mJ [id,4,5,3]=true:=by rcases h.iI with rfl|rfl<;>rfl
 refine Ok.bind (aIQ [id,4,5,3] [] EE rfl (by simp) (by simp) 1 n b.2 hb (by omega) fN (by omega) (by omega)) λp ⟨hp,p0,pz⟩=> ?_
 have e1:eZ ts.length 1=some 1:=by rw[mP];rcases h.hk with rfl|rfl|rfl<;>rfl
 have e2:ts[0+1]? =some ⟨ByteArray.mk #[116,97,115,107,115],[⟨ByteArray.mk #[105,100],id⟩,⟨ByteArray.mk #[112,114,111,106,101,99,116],4⟩,⟨ByteArray.mk #[116,105,116,108,101],5⟩,⟨ByteArray.mk #[100,111,110,101],3⟩],1,r1,[]⟩:=by
  rw[mP];rcases h.hk with rfl|rfl|rfl<;>rfl
 rw[e1,au,e2,au];have e3:setAt ts (0+1) ⟨ByteArray.mk #[116,97,115,107,115],[⟨ByteArray.mk #[105,100],id⟩,⟨ByteArray.mk #[112,114,111,106,101,99,116],4⟩,⟨ByteArray.mk #[116,105,116,108,101],5⟩,⟨ByteArray.mk #[100,111,110,101],3⟩],1,r1,[p.1]⟩=some ((kH id r1 r2 r3 [p.1]).take k):=by
  rw[mP];rcases h.hk with rfl|rfl|rfl<;>rfl
 rw[e3,au];exact Ok.pure ⟨hp,v,id,k,r1,r2,r3,[p.1],⟨h.v0,h.v1,h.iI,h.hk,h.h1,h.h2,h.h3,by simp,by simp[rN,p0],by simpa using pz⟩,by rw[Jg]⟩
def Hu (n:Nat) (hn:2000<=n) (fN:n<4294967296) (c:aL) (hc:dk c) (z:ag) (v id:Int) (k:Nat) (r1 r2:cA) (h:adb v id k r1 r2 [] []) (ts:br) (mP:ts=(kH id r1 r2 [] []).take k) (b5:ag) (Jg:b5.aw=v):
  Ok (Dc n (k:Int) c z b5 ts) λr=>dk r.2/\wW r.1:=by
 unfold Dc;refine Ok.ite (λhk=> ?_) λ_=>Oa n hn fN c hc _ v id k r1 r2 [] h ts mP _ Jg
 have hk:k=4:=by have:=h.hk;simp at hk;omega
 subst hk;refine Ok.bind (tK n c 3 hc) λb hb=> ?_
 refine Ok.ite (λ_=> ?_) λ_=>Oa n hn fN b.2 hb _ v id 4 r1 r2 [] h ts mP _ Jg
 subst mP;show Ok (Hv n b.2 ⟨0,[]⟩ ⟨b5.aw,(kH id r1 r2 [⟨[0],1⟩] []).take 4⟩ ((kH id r1 r2 [⟨[0],1⟩] []).take 4)) _;exact Oa n hn fN b.2 hb _ v id 4 r1 r2 [⟨[0],1⟩] {h with h3:=.inr rfl} _ rfl _ Jg
def adT (n:Nat) (hn:2000<=n) (fN:n<4294967296) (c:aL) (hc:dk c) (z:ag) (v id:Int) (k:Nat) (r1:cA) (h:adb v id k r1 [] [] []) (ts:br) (mP:ts=(kH id r1 [] [] []).take k) (b5:ag) (Jg:b5.aw=v):
  Ok (Ht n (k:Int) c z b5 ts) λr=>dk r.2/\wW r.1:=by
 unfold Ht;refine Ok.ite (λhk=> ?_) λ_=>Hu n hn fN c hc _ v id k r1 [] h ts mP _ Jg
 refine Ok.bind (tK n c 3 hc) λb hb=> ?_
 refine Ok.ite (λ_=> ?_) λ_=>Hu n hn fN b.2 hb _ v id k r1 [] h ts mP _ Jg
 subst mP;have hk:k=3\/k=4:=by have:=h.hk;simp at hk;omega
 rcases hk with rfl|rfl
 ·show Ok (Dc n (3:Nat) b.2 ⟨0,[]⟩ ⟨b5.aw,(kH id r1 [⟨[0],0⟩] [] []).take 3⟩ ((kH id r1 [⟨[0],0⟩] [] []).take 3)) _;exact Hu n hn fN b.2 hb _ v id 3 r1 [⟨[0],0⟩] {h with h2:=.inr rfl} _ rfl _ Jg
 ·show Ok (Dc n (4:Nat) b.2 ⟨0,[]⟩ ⟨b5.aw,(kH id r1 [⟨[0],0⟩] [] []).take 4⟩ ((kH id r1 [⟨[0],0⟩] [] []).take 4)) _;exact Hu n hn fN b.2 hb _ v id 4 r1 [⟨[0],0⟩] {h with h2:=.inr rfl} _ rfl _ Jg
def adS (n:Nat) (hn:2000<=n) (fN:n<4294967296) (c:aL) (hc:dk c) (z:ag) (id:Int) (iI:id=4\/id=5) (k:Nat) (hk:k=2\/k=3\/k=4):
  Ok (QI n (k:Int) id c z) λr=>dk r.2/\wW r.1:=by
 unfold QI;refine Ok.bind (j7 n c 3 hc) λv ⟨hv,v0,v1,_⟩=> ?_
 have v1:=v1 (by omega)
 simp only[B6,amX,au];have h:∀r1,(r1= []\/r1= [⟨[1],0⟩])->adb v.1 id k r1 [] [] []:=λr1 h1=>⟨v0,by omega,iI,hk,h1,.inl rfl,.inl rfl,by simp,rfl,by simp⟩
 have e0:tD 4 (k:Int)=some k:=by unfold tD;rw[aH (by omega)];rfl
 rw[e0,au];refine Ok.bind (tK n v.2 2 hv) λb hb=> ?_
 refine Ok.ite (λ_=> ?_) λ_=> ?_
 rotate_left
 ·show Ok (Ht n (k:Int) b.2 ⟨0,[]⟩ ⟨v.1,(kH id [] [] [] []).take k⟩ ((kH id [] [] [] []).take k)) _;exact adT n hn fN b.2 hb _ v.1 id k [] (h [] (.inl rfl)) _ rfl _ rfl
 have e1:eZ k 1=some 1:=by rcases hk with rfl|rfl|rfl<;>rfl
 rw[e1,au];show Ok (Ht n (k:Int) b.2 ⟨0,[]⟩ ⟨v.1,(kH id [⟨[1],0⟩] [] [] []).take k⟩ ((kH id [⟨[1],0⟩] [] [] []).take k)) _;exact adT n hn fN b.2 hb _ v.1 id k [⟨[1],0⟩] (h _ (.inr rfl)) _ rfl _ rfl
def aJb (n:Nat) (hn:2000<=n) (fN:n<4294967296) (c:aL) (hc:dk c):Ok (F38 n c) λr=>dk r.2/\wW r.1:=by
 unfold F38 anz;refine Ok.bind (j7 n c 3 hc) λv ⟨hv,v0,v1,_⟩=> ?_
 have v1:=v1 (by omega)
 have e:bl (2+v.1)=((2+v.1.toNat:Nat):Int):=by rw[dv (by omega) (by omega)];omega
 rw[e];refine Ok.bind (tK n v.2 5 hv) λb hb=> ?_
 exact Ok.ite (λ_=>adS n hn fN b.2 hb _ 5 (.inr rfl) _ (by omega)) λ_=>adS n hn fN b.2 hb _ 4 (.inl rfl) _ (by omega)
def CP:∀{a b c:List UInt8},Op.bytesLess a b=true->Op.bytesLess b c=true->Op.bytesLess a c=true
 |_,[],_,h,_=>by cases ‹List UInt8› <;>simp[Op.bytesLess] at h
 |_,_::_,[],_,h=>by simp[Op.bytesLess] at h
 | [],_::_,_::_,_,_=>by simp[Op.bytesLess]
 |x::a,y::b,z::c,h1,h2=>by
  rw[Vk] at h1 h2 ⊢;simp only[pC,jW,bF,tP] at h1 h2 ⊢;rcases h1 with h1|⟨rfl,h1⟩<;>rcases h2 with h2|⟨rfl,h2⟩
  ·exact .inl (UInt8.lt_trans h1 h2)
  ·exact .inl h1
  ·exact .inl h2
  ·exact .inr ⟨rfl,CP h1 h2⟩
def aft {a:aR}:ll a b= -1↔a.ax<b.ax\/(a.ax=b.ax/\(a.bX<b.bX\/(a.bX=b.bX/\Op.bytesLess a.bB.toList b.bB.toList=true))):=by
 unfold ll;split
 ·rename_i h;simp[h]
 ·split
  ·rename_i h1 h;constructor
   ·intro h;omega
   ·intro h;omega
  ·have e:a.ax=b.ax:=by omega
   split
   ·rename_i h;simp[e,h]
   ·split
    ·constructor
     ·intro h;omega
     ·intro h;omega
    ·have e2:a.bX=b.bX:=by omega
     split
     ·rename_i h;simp[e,e2,h]
     ·rename_i h;split
      ·constructor
       ·intro h;omega
       ·rintro (h'|⟨_,h'|⟨_,h'⟩⟩)
        ·omega
        ·omega
        ·exact absurd h' h
      ·constructor
       ·intro h;omega
       ·rintro (h'|⟨_,h'|⟨_,h'⟩⟩)
        ·omega
        ·omega
        ·exact absurd h' h
def ajn {a c:aR} (h1:ll a b= -1) (h2:ll b c= -1):ll a c= -1:=by
 rw[aft] at*;rcases h1 with h1|⟨e1,h1⟩<;>rcases h2 with h2|⟨e2,h2⟩
 ·left;omega
 ·left;omega
 ·left;omega
 ·right;refine ⟨by omega,?_⟩
  rcases h1 with h1|⟨e3,h1⟩<;>rcases h2 with h2|⟨e4,h2⟩
  ·left;omega
  ·left;omega
  ·left;omega
  ·exact .inr ⟨by omega,CP h1 h2⟩
def D0 {a:aR} (h:ll a b=0):a=b:=by
 unfold ll at h;split at h
 ·cases h
 ·split at h
  ·cases h
  ·split at h
   ·cases h
   ·split at h
    ·cases h
    ·split at h
     ·cases h
     ·split at h
      ·rename_i h5;obtain ⟨x,y,z⟩:=a;obtain ⟨x',y',z'⟩:=b;simp only at*;rw[show x=x' by omega,show y=y' by omega,h5]
      ·cases h
def Ee:∀{x y:cE},eT x y=0->x=y
 | [],[],_=>rfl
 | [],_::_,h=>by simp[eT] at h
 |_::_,[],h=>by simp[eT] at h
 |a::x,b::y,h=>by
  simp only[eT] at h;split at h
  ·rename_i h0;rw[D0 h0,Ee h]
  ·exact absurd h (by assumption)
def afI {x y:cE}:eT x y=0↔x=y:=⟨Ee,λh=>h ▸ V8 x⟩
def O7:∀{x y z:cE},eT x y= -1->eT y z= -1->eT x z= -1
 | [],[],_,h,_=>by simp[eT] at h
 | [],_::_,[],_,h=>by simp[eT] at h
 | [],_::_,_::_,_,_=>by simp[eT]
 |_::_,[],_,h,_=>by simp[eT] at h
 |_::_,_::_,[],_,h=>by simp[eT] at h
 |a::x,b::y,c::z,h1,h2=>by
  simp only[eT] at h1 h2 ⊢;split at h1
  ·rename_i e1;have e1:=D0 e1;subst e1;split at h2
   ·rename_i e2;rw[aH e2];exact O7 h1 h2
   ·rename_i e2;rw[aM e2];exact h2
  ·split at h2
   ·rename_i e2;have e2:=D0 e2;subst e2;rw[aM (by omega)];exact h1
   ·have:=ajn h1 h2;rw[aM (by omega)];exact this
abbrev lB (T:aj) (r:cE):cE:=r.take T.ay.toNat
def lt (a b:cE):Prop:=eT a b= -1
instance (a b:cE):Decidable (lt a b):=inferInstanceAs (Decidable (_=_))
def lt_irrefl (a:cE):¬lt a a:=λh=>by have:=V8 a;unfold lt at h;omega
def lt_trans {a b c:cE} (h1:lt a b) (h2:lt b c):lt a c:=O7 h1 h2
def lt_asymm {a b:cE} (h:lt a b):¬lt b a:=λh'=>lt_irrefl a (lt_trans h h')
def aaO (a b:cE):lt a b\/a=b\/lt b a:=by
 rcases Ga a b with h|h|h
 ·exact .inl h
 ·exact .inr (.inl (Ee h))
 ·exact .inr (.inr (by show eT b a= -1;rw[Ng a b,h]))
def Lh {a b:cE}:eT a b<0↔lt a b:=by
 unfold lt;rcases Ga a b with h|h|h<;>omega
def Ord (T:aj) (rows:bS):Prop:=rows.Pairwise λa b=>lt (lB T a) (lB T b)
def wh (T:aj) (k:cE) (N rows:bS):bS:=rows.filter (λr=>decide (lt (lB T r) k))++N++rows.filter (λr=>decide (lt k (lB T r)))
def atf {T:aj} {k:cE} {N rows:bS} {r:cE}:r∈wh T k N rows↔(r∈rows/\lB T r≠k)\/r∈N:=by
 unfold wh;simp only[eO,lr,jW];constructor
 ·rintro ((⟨h1,h2⟩|h)|⟨h1,h2⟩)
  ·exact .inl ⟨h1,λe=>lt_irrefl _ (e ▸ h2)⟩
  ·exact .inr h
  ·exact .inl ⟨h1,λe=>lt_irrefl _ (e ▸ h2)⟩
 ·rintro (⟨h1,h2⟩|h)
  ·rcases aaO (lB T r) k with h|h|h
   ·exact .inl (.inl ⟨h1,h⟩)
   ·exact absurd h h2
   ·exact .inr ⟨h1,h⟩
  ·exact .inl (.inr h)
def ate {T:aj} {k:cE} {N rows:bS} (h:Ord T rows) (hN:N= []\/∃r,N= [r]/\lB T r=k):Ord T (wh T k N rows):=by
 unfold Ord wh at*;have hN1:∀r∈N,lB T r=k:=by
  rcases hN with rfl|⟨r,rfl,e⟩
  ·simp
  ·simpa using e
 rw[List.pairwise_append,List.pairwise_append];refine ⟨⟨h.filter _,?_,λa ha b hb=> ?_⟩,h.filter _,λa ha b hb=> ?_⟩
 ·rcases hN with rfl|⟨r,rfl,e⟩<;>simp
 ·rw[hN1 b hb];simpa using (lr.1 ha).2
 ·have hb:lt k (lB T b):=by simpa using (lr.1 hb).2
  rcases eO.1 ha with ha|ha
  ·exact lt_trans (by simpa using (lr.1 ha).2) hb
  ·rw[hN1 a ha];exact hb
def filter_all {p:J->Bool} {l:List J} (h:∀x∈l,p x=true):l.filter p=l:=vA.2 h
def filter_none {p:J->Bool} {l:List J} (h:∀x∈l,p x=false):l.filter p= []:=sr.2 λx hx=>by rw[h x hx];simp
def fu (a b i:Int):Int:=if b<0 then (if a<i then i-1 else i) else if i=a then b else if a<b/\a<i/\i<=b then i-1 else if b<a/\b<=i/\i<a then i+1 else i
def Mp (n:Nat) (i a b:Int) (h1: -9223372036854775808<=i) (h2:i<=9223372036854775807) (h3: -9223372036854775808<=a) (h4:a<=9223372036854775807):Hl n i a b=some (fu a b i):=by
 have w1:a<i->bl (i-1)=i-1:=λh=>dv (by omega) (by omega)
 have w2:i<a->bl (i+1)=i+1:=λh=>dv (by omega) (by omega)
 unfold Hl aeZ tL fu;by_cases c1:b<0
 ·by_cases c2:a<i<;>simp[c1,c2,w1]
 ·by_cases c2:i=a
  ·subst c2;simp[c1]
  ·by_cases c3:a<i
   ·have n1:¬i<a:=by omega
    by_cases c4:b<i
    ·have n2:¬i<=b:=by omega
     by_cases c5:a<b<;>by_cases c6:b<a<;>by_cases c7:i<b<;>simp[c1,c2,c3,c4,n1,n2,c5,c6,c7]
    ·have c4':i<=b:=by omega
     have c5:a<b:=by omega
     simp[c1,c2,c3,c4,c4',c5,w1]
   ·have c3':i<a:=by omega
    by_cases c4:i<b
    ·have n2:¬b<=i:=by omega
     by_cases c5:a<b<;>by_cases c6:b<a<;>simp[c1,c2,c3,c4,n2,c5,c6]
    ·have c4':b<=i:=by omega
     have c6:b<a:=by omega
     have c5:¬a<b:=by omega
     simp[c1,c2,c3,c4,c4',c5,c6,c3',w2]
def j1 (f:Int->Int) (o:aT):aT:=if o.ax==1 then ⟨o.ax,f o.cQ,o.aD⟩ else o
mutual
def lX (f:Int->Int):ah->ah
 |⟨op,c,l,r,args⟩=>⟨op,c,j1 f l,j1 f r,iR f args⟩
def iR (f:Int->Int):bN->bN
 | []=> []
 |x::xs=>lX f x::iR f xs
end
def IN (f:Int->Int):∀xs:bN,(iR f xs).length=xs.length
 | []=>by simp[iR]
 |x::xs=>by simp[iR,IN f xs]
def IM (f:Int->Int):∀xs:bN,iR f xs=xs.map (lX f)
 | []=>by simp[iR]
 |x::xs=>by simp[iR,IM f xs]
mutual
def ahJ (f:Int->Int):∀p:ah,fC (lX f p)=fC p
 |⟨op,c,l,r,args⟩=>by simp only[lX,fC,aaN f args]
def aaN (f:Int->Int):∀xs:bN,kM (iR f xs)=kM xs
 | []=>by simp[iR]
 |x::xs=>by simp only[iR,kM,ahJ f x,aaN f xs]
end
def zl (N:Int) (o:aT):Bool:=o.ax !=1||(decide (0<=o.cQ)&&decide (o.cQ<N))
mutual
def pS (N:Int):ah->Bool
 |⟨op,c,l,r,args⟩=>(if op==3 then zl N l&&zl N r else l.ax !=1&&r.ax !=1)&&ID N args
def ID (N:Int):bN->Bool
 | []=>true
 |x::xs=>pS N x&&ID N xs
end
def UQ {N:Int}:∀{xs:bN} {x:ah},ID N xs=true->x∈xs->pS N x=true
 |y::ys,x,h,hx=>by
  simp only[ID,bF] at h;rcases cH.1 hx with rfl|hx
  ·exact h.1
  ·exact UQ h.2 hx
def Pj (h:Ab o=true):o.ax=0:=by
 simp[Ab] at h;exact h.1
def MM {r:aT} (h:kO c l r=true):l.ax=0/\r.ax=0:=by
 simp only[kO,bF] at h;exact ⟨Pj h.1.2,Pj h.2⟩
def aaI (h:kX cols params o≠0):zl cols.length o=true:=by
 unfold zl;by_cases h1:o.ax=1
 ·have h:kAt cols o≠0:=by
   unfold kX at h;simpa[h1] using h
  unfold kAt at h;split at h
  ·rename_i hh;simp[h1,hh.1,hh.2.1]
  ·exact absurd rfl h
 ·simp[h1]
mutual
def awL {cols params:aK}:∀{p:ah},pV cols params p=true->pS cols.length p=true
 |⟨op,c,l,r,args⟩,h=>by
  unfold pV at h;unfold pS;by_cases h1:op=1\/op=2
  ·have cY:(op==3)=false:=by rcases h1 with rfl|rfl<;>rfl
   have hb:(op==1||op==2)=true:=by rcases h1 with rfl|rfl<;>rfl
   rw[hb] at h;simp only[aB,bF] at h;obtain ⟨k1,k2⟩:=MM h.1;have ha:args= []:=by simpa using h.2
   rw[cY,ha];simp[k1,k2,ID]
  ·have hb:(op==1||op==2)=false:=by
    rw[Bool.or_eq_false_iff];simp;omega
   rw[hb] at h;simp only[aC,aA] at h;by_cases h3:op=3
   ·subst h3;simp at h;have ha:args= []:=h.1.1.1.1;rw[ha];have k1:=aaI (cols:=cols) (params:=params) (o:=l) h.1.2;have k2:=aaI (cols:=cols) (params:=params) (o:=r) (by rw[<-h.2];exact h.1.2)
    simp[k1,k2,ID]
   ·have cY:(op==3)=false:=by simpa using h3
    rw[cY] at h ⊢;simp only[aC,aA] at h ⊢;have key:kO c l r=true/\pM cols params args=true:=by
     split at h
     ·simpa using h
     ·split at h
      ·simp only[bF] at h;exact h.2
      ·cases h
    obtain ⟨k1,k2⟩:=MM key.1;rw[ahp key.2,k1,k2];rfl
def ahp {cols params:aK}:∀{xs:bN},pM cols params xs=true->ID cols.length xs=true
 | [],_=>by simp[ID]
 |x::xs,h=>by
  simp only[pM,bF] at h;simp only[ID,awL h.1,ahp h.2,ow]
end
def vO (h:o.ax≠1):j1 f o=o:=by
 unfold j1;rw[aM (by simpa using h)]
def aiY:∀(n:Nat) (p:ah),fC p<=n->fC p<1000000->Hk n p=some p
 |0,⟨_,_,_,_,_⟩,h,_=>by simp[fC] at h
 |n+1,⟨op,c,l,r,args⟩,h,hb=>by
  simp only[fC] at h hb;have hlen:=pw args;have loop:∀(k3:ah->ah->bN->Option ah) (xs:bN) (i k:Nat) (b4 b5:ah),args.drop i=xs->xs.length<k->
    ∃y7 y6,y6.bh=b5.bh/\y6.eM=b5.eM/\y6.cm=b5.cm/\y6.bL=b5.bL/\Fi (Hk n) k3 k args (args.length:Int) (i:Int) b4 b5 (args.take i)=k3 y7 y6 args:=by
   intro k3 xs;induction xs with
   |nil=>
    intro i k b4 b5 hd hk;have hi:args.length<=i:=by simpa using hd
    have hq:¬((i:Int)<(args.length:Int)):=by omega
    cases k with
    |zero=>simp at hk
    |succ k=>exact ⟨ah.mk b4.bh b4.eM b4.cm b4.bL [],ah.mk b5.bh b5.eM b5.cm b5.bL args,rfl,rfl,rfl,rfl,by simp[Fi,Rz,hq,kn hi]⟩
   |cons x xs ih=>
    intro i k b4 b5 hd hk;obtain ⟨g1,g2,g3⟩:=bC hd;have hq:((i:Int)<(args.length:Int)):=by omega
    cases k with
    |zero=>simp at hk
    |succ k=>
     have hx:x∈args:=cN g1;have hs:=sx hx;have ht:args.take i++ [x]=args.take (i+1):=by rw[vy,g1];rfl
     obtain ⟨y7,y6,e1,e2,e3,e4,e5⟩:=ih (i+1) k (ah.mk b4.bh b4.eM b4.cm b4.bL []) (ah.mk b5.bh b5.eM b5.cm b5.bL (args.take (i+1))) g2 (by simp at hk;omega)
     refine ⟨y7,y6,e1,e2,e3,e4,?_⟩;simp only[Fi,Rz,hq,aU,aB,bO,g1,au,aiY n x (by omega) (by omega),dI (args.take i) [x] (by simp;omega),ht,bY g3 (by omega:args.length<4294967296),e5]
  have fin:∀(b2 b4 b5:ah),b2.fArgs=args->J7 (Hk n) n b2 b4 b5=some ⟨b5.bh,b5.eM,b5.cm,b5.bL,args⟩:=by
   intro b2 b4 b5 ha;obtain ⟨y7,y6,e1,e2,e3,e4,e5⟩:=loop (Ry (Hk n) n) args 0 n (ah.mk 0 0 (aT.mk 0 0 (aR.mk 0 0 ByteArray.empty)) (aT.mk 0 0 (aR.mk 0 0 ByteArray.empty)) []) (ah.mk b5.bh b5.eM b5.cm b5.bL []) rfl (by omega)
   unfold J7;rw[ha];refine e5.trans ?_;unfold Ry;rw[e1,e2,e3,e4]
  have f3:∀(b2 b4 b5:ah),b2.fArgs=args->J6 (Hk n) n b2 b4 b5=some ⟨b5.bh,b5.eM,b5.cm,b5.bL,args⟩:=by
   intro b2 b4 b5 ha;unfold J6;split
   ·rw[show ∀c,adE n c=some c from λ_=>rfl,au]
    exact fin b2 _ _ ha
   ·exact fin b2 _ _ ha
  unfold Hk aeL;split
  ·rw[show ∀c,adE n c=some c from λ_=>rfl,au]
   exact f3 ⟨op,c,l,r,args⟩ _ _ rfl
  ·exact f3 ⟨op,c,l,r,args⟩ _ _ rfl
def j5 (m:aF) (c:Int):Int:=
 if m.bh=2 then (if c<0 then c else if c=m.aO then -1 else if m.aO<c then c-1 else c)
 else if m.bh=3 then (if c<0 then c else if c=m.aO then m.eJ else if m.aO<c/\c<=m.eJ then c-1 else if m.eJ<=c/\c<m.aO then c+1 else c)
 else c
def lZ (x:Int):Prop:= -9223372036854775808<=x/\x<=9223372036854775807
def aiW (n:Nat) (i a b:Int) (hi:lZ i) (ha:lZ a):amE n i a b=some (if i=a then b else if a<i/\i<=b then i-1 else if b<=i/\i<a then i+1 else i):=by
 obtain ⟨h1,h2⟩:=hi;obtain ⟨h3,h4⟩:=ha;have w1:a<i->bl (i-1)=i-1:=λh=>dv (by omega) (by omega)
 have w2:i<a->bl (i+1)=i+1:=λh=>dv (by omega) (by omega)
 unfold amE aez FO;by_cases c2:i=a
 ·subst c2;simp
 ·by_cases c3:a<i
  ·have n1:¬i<a:=by omega
   by_cases c4:b<i
   ·have n2:¬i<=b:=by omega
    by_cases c7:i<b<;>simp[c2,c3,c4,n1,n2,c7]
   ·have c4':i<=b:=by omega
    simp[c2,c3,c4,c4',w1]
  ·have c3':i<a:=by omega
   by_cases c4:i<b
   ·have n2:¬b<=i:=by omega
    simp[c2,c3,c4,n2]
   ·have c4':b<=i:=by omega
    simp[c2,c3,c4,c4',c3',w2]
def aiH (n:Nat) (c:Int) (g:aE) (eP:g.fm.bh=2\/g.fm.bh=3) (hc:lZ c) (ha:lZ g.fm.aO):N4 n c g=some (j5 g.fm c):=by
 obtain ⟨h1,h2⟩:=hc;obtain ⟨h3,h4⟩:=ha;unfold N4 adX VF R9 j5;rcases eP with h|h
 ·have n7:¬g.fm.bh=7:=by omega
  by_cases c1:c<0
  ·simp[h,c1]
  ·by_cases c2:c=g.fm.aO
   ·simp[h,c1,c2];have:0<=g.fm.aO:=by omega
    simp[this];intro;omega
   ·by_cases c3:g.fm.aO<c
    ·simp[h,c1,c2,c3,dv (x:=c-1) (by omega) (by omega)]
    ·simp[h,c1,c2,c3]
 ·by_cases c1:c<0
  ·simp[h,c1]
  ·have:=aiW n c g.fm.aO g.fm.eJ ⟨h1,h2⟩ ⟨h3,h4⟩;simp only[h,this,c1,au,im,aX,gM,aB,aA,show ((3:Int)==7)=false from rfl,show ((3:Int)==2)=false from rfl,show ¬(3:Int)=2 by omega,aC]
def adJ (N:Int) (hN:N<=1000) (g:aE) (eP:g.fm.bh=2\/g.fm.bh=3) (ha:lZ g.fm.aO):∀(n:Nat) (p:ah),fC p<=n->fC p<1000000->pS N p=true->As n p g=some (lX (j5 g.fm) p)
 |0,⟨_,_,_,_,_⟩,h,_,_=>by simp[fC] at h
 |n+1,⟨op,c,l,r,args⟩,h,hb,hp=>by
  simp only[fC] at h hb;have hlen:=pw args;have hml:=IN (j5 g.fm) args;simp only[pS,bF] at hp;obtain ⟨qm,hp2⟩:=hp;have hF:∀o:aT,(if op==3 then zl N o=true else o.ax≠1)->o.ax=1->N4 n o.cQ g=some (j5 g.fm o.cQ):=λo ho hk=>by
   split at ho
   ·simp[zl,hk] at ho;exact aiH n _ g eP ⟨by omega,by omega⟩ ha
   ·exact absurd hk ho
  have hl:(if op==3 then zl N l=true else l.ax≠1):=by
   split at qm
   ·rename_i q;simp only[bF] at qm;rw[aH q];exact qm.1
   ·rename_i q;simp at qm;rw[aM q];exact qm.1
  have hr:(if op==3 then zl N r=true else r.ax≠1):=by
   split at qm
   ·rename_i q;simp only[bF] at qm;rw[aH q];exact qm.2
   ·rename_i q;simp at qm;rw[aM q];exact qm.2
  have loop:∀(k3:aE->ah->ah->bN->Option ah) (xs:bN) (i k:Nat) (b4 b5:ah),args.drop i=xs->xs.length<k->
    ∃y7 y6,y6.bh=b5.bh/\y6.eM=b5.eM/\y6.cm=b5.cm/\y6.bL=b5.bL/\AN (As n) k3 k args (args.length:Int) (i:Int) g b4 b5 ((iR (j5 g.fm) args).take i)=k3 g y7 y6 (iR (j5 g.fm) args):=by
   intro k3 xs;induction xs with
   |nil=>
    intro i k b4 b5 hd hk;have hi:args.length<=i:=by simpa using hd
    have hq:¬((i:Int)<(args.length:Int)):=by omega
    cases k with
    |zero=>simp at hk
    |succ k=>exact ⟨ah.mk b4.bh b4.eM b4.cm b4.bL [],ah.mk b5.bh b5.eM b5.cm b5.bL (iR (j5 g.fm) args),rfl,rfl,rfl,rfl,by simp[AN,MH,hq,kn (show (iR (j5 g.fm) args).length<=i by omega)]⟩
   |cons x xs ih=>
    intro i k b4 b5 hd hk;obtain ⟨g1,g2,g3⟩:=bC hd;have hq:((i:Int)<(args.length:Int)):=by omega
    cases k with
    |zero=>simp at hk
    |succ k=>
     have hx:x∈args:=cN g1;have hs:=sx hx;have ht:(iR (j5 g.fm) args).take i++ [lX (j5 g.fm) x]=(iR (j5 g.fm) args).take (i+1):=by
      rw[vy,IM,mH,g1];rfl
     obtain ⟨y7,y6,e1,e2,e3,e4,e5⟩:=ih (i+1) k (ah.mk b4.bh b4.eM b4.cm b4.bL []) (ah.mk b5.bh b5.eM b5.cm b5.bL ((iR (j5 g.fm) args).take (i+1))) g2 (by simp at hk;omega)
     refine ⟨y7,y6,e1,e2,e3,e4,?_⟩;simp only[AN,MH,hq,aU,aB,bO,g1,au,adJ N hN g eP ha n x (by omega) (by omega) (UQ hp2 hx),dI ((iR (j5 g.fm) args).take i) [lX (j5 g.fm) x] (by simp;omega),ht,bY g3 (by omega:args.length<4294967296),e5]
  have fin:∀(b2 b4 b5:ah),b2.fArgs=args->FT (As n) n g b2 b4 b5=some ⟨b5.bh,b5.eM,b5.cm,b5.bL,iR (j5 g.fm) args⟩:=by
   intro b2 b4 b5 ha;obtain ⟨y7,y6,e1,e2,e3,e4,e5⟩:=loop (MG (As n) n) args 0 n (ah.mk 0 0 (aT.mk 0 0 (aR.mk 0 0 ByteArray.empty)) (aT.mk 0 0 (aR.mk 0 0 ByteArray.empty)) []) (ah.mk b5.bh b5.eM b5.cm b5.bL []) rfl (by omega)
   unfold FT;rw[ha];refine e5.trans ?_;unfold MG;rw[e1,e2,e3,e4]
  have f3:∀(b2 b4 b5:ah),b2.fArgs=args->b5.bL=r->FQ (As n) n g b2 b4 b5=some ⟨b5.bh,b5.eM,b5.cm,j1 (j5 g.fm) r,iR (j5 g.fm) args⟩:=by
   intro b2 b4 b5 ha hr5;unfold FQ j1;rw[hr5];split
   ·rename_i hk;rw[hF r hr (by simpa using hk),au]
    exact fin b2 _ _ ha
   ·rw[<-hr5];exact fin b2 _ _ ha
  unfold As VN;simp only[lX];split
  ·rename_i hk;rw[hF l hl (by simpa using hk),au,f3 ⟨op,c,l,r,args⟩ _ _ rfl rfl]
   unfold j1;rw[aH hk]
  ·rename_i hk;rw[f3 ⟨op,c,l,r,args⟩ _ _ rfl rfl,vO (o:=l) (by simpa using hk)]
def aiN (N:Int) (hN:N<=1000) (a b:Int) (ha:lZ a):∀(n:Nat) (p:ah),fC p<=n->fC p<1000000->pS N p=true->DF n p a b=some (lX (fu a b) p)
 |0,⟨_,_,_,_,_⟩,h,_,_=>by simp[fC] at h
 |n+1,⟨op,c,l,r,args⟩,h,hb,hp=>by
  simp only[fC] at h hb;have hlen:=pw args;have hml:=IN (fu a b) args;simp only[pS,bF] at hp;obtain ⟨qm,hp2⟩:=hp;have loop:∀(k3:ah->ah->bN->Option ah) (xs:bN) (i k:Nat) (b3 b6:ah),args.drop i=xs->xs.length<k->
    ∃b6',E8 (DF n) k3 k a b args (args.length:Int) (i:Int) b3 b6 ((iR (fu a b) args).take i)=k3 b3 b6' (iR (fu a b) args):=by
   intro k3 xs;induction xs with
   |nil=>
    intro i k b3 b6 hd hk;have hi:args.length<=i:=by simpa using hd
    have hq:¬((i:Int)<(args.length:Int)):=by omega
    cases k with
    |zero=>simp at hk
    |succ k=>exact ⟨ah.mk b6.bh b6.eM b6.cm b6.bL [],by simp[E8,Q8,hq,kn (show (iR (fu a b) args).length<=i by omega)]⟩
   |cons x xs ih=>
    intro i k b3 b6 hd hk;obtain ⟨g1,g2,g3⟩:=bC hd;have hq:((i:Int)<(args.length:Int)):=by omega
    cases k with
    |zero=>simp at hk
    |succ k=>
     have hx:x∈args:=cN g1;have hs:=sx hx;have ht:(iR (fu a b) args).take i++ [lX (fu a b) x]=(iR (fu a b) args).take (i+1):=by
      rw[vy,IM,mH,g1];rfl
     obtain ⟨b6',e5⟩:=ih (i+1) k b3 (ah.mk b6.bh b6.eM b6.cm b6.bL []) g2 (by simp at hk;omega)
     refine ⟨b6',?_⟩;simp only[E8,Q8,hq,aU,aB,bO,g1,au,aiN N hN a b ha n x (by omega) (by omega) (UQ hp2 hx),dI ((iR (fu a b) args).take i) [lX (fu a b) x] (by simp;omega),ht,bY g3 (by omega:args.length<4294967296),e5]
  have fin:∀(b3 b6:ah),b3.fArgs=args->Ca (DF n) n a b b3 b6=some ⟨b3.bh,b3.eM,b3.cm,b3.bL,iR (fu a b) args⟩:=by
   intro b3 b6 hb3;obtain ⟨b6',e5⟩:=loop (ael (DF n) n) args 0 n b3 (ah.mk 0 0 (aT.mk 0 0 (aR.mk 0 0 ByteArray.empty)) (aT.mk 0 0 (aR.mk 0 0 ByteArray.empty)) []) rfl (by omega)
   unfold Ca;rw[hb3];exact e5
  unfold DF aek;simp only[lX];by_cases h3:op=3
  ·subst h3;simp only[im,aB,bF] at qm ⊢;have hF:∀o:aT,zl N o=true->o.ax=1->Hl n o.cQ a b=some (fu a b o.cQ):=λo ho hk=>by
    simp[zl,hk] at ho;exact Mp n _ a b (by omega) (by omega) ha.1 ha.2
   have f0:∀(b3 b6:ah),b3.fArgs=args->b3.bL=r->J2 (DF n) (Ca (DF n) n) n a b b3 b6=some ⟨b3.bh,b3.eM,b3.cm,j1 (fu a b) r,iR (fu a b) args⟩:=by
    intro b3 b6 hb3 hr5;unfold J2 j1;rw[hr5];split
    ·rename_i hk;rw[hF r qm.2 (by simpa using hk),au]
     exact fin _ _ hb3
    ·rw[<-hr5];exact fin b3 _ hb3
   split
   ·rename_i hk;rw[hF l qm.1 (by simpa using hk),au,f0 _ _ rfl rfl]
    unfold j1;rw[aH hk]
   ·rename_i hk;rw[f0 _ _ rfl rfl,vO (o:=l) (by simpa using hk)]
  ·have cY:(op==3)=false:=by simpa using h3
   rw[cY] at qm ⊢;simp at qm;simp only[aC,aA];rw[fin _ _ rfl,vO qm.1,vO qm.2]
def gG {n:Nat} (h:i<n):eZ n (i:Int)=some i:=by
 unfold eZ;rw[aH ⟨by omega,by omega⟩];rfl
def dx {xs:List J} (x:J) (h:i<xs.length):setAt xs i x=some (xs.set i x):=by
 unfold setAt;rw[aH h]
def fj {J:Type} (f:J->J) (l:List J) (j:Nat):List J:=(l.take j).map f++l.drop j
def kz (f:J->J) (l:List J) (j:Nat):(fj f l j).length=l.length:=by
 simp[fj];omega
def wm (f:J->J) (l:List J):fj f l 0=l:=by simp[fj]
def rC (f:J->J) (l:List J) {j:Nat} (h:l.length<=j):fj f l j=l.map f:=by
 simp[fj,kn h,po h]
def lW (f:J->J) {l:List J} {j:Nat} {x:J} (h:l[j]? =some x):(fj f l j)[j]? =some x:=by
 have hl:=(cf.1 h).1;unfold fj;rw[nP (by simp;omega),nQ,dZ,fE (by omega),nR,fc]
 exact h
def rB (f:J->J) {l:List J} {j:Nat} {x:J} (h:l[j]? =some x):(fj f l j).set j (f x)=fj f l (j+1):=by
 have hl:=(cf.1 h).1;unfold fj;rw[xu _ _ (by simp;omega),nQ,dZ,fE (by omega),nR,vy,h,qE hl,List.set_cons_zero]
 have:l[j]=x:=by rw[dJ hl] at h;exact kW h
 simp
def gN (f:Int->Int) (r:bk):bk:=⟨r.ae.map f,r.aG⟩
def qT (f:Int->Int) (T:aj):aj:=⟨T.av,T.ae,T.ay,T.af.map (gN f),T.ak.map (lX f)⟩
structure yr (r:bk):Prop where
 len:r.ae.length<=1000
 rng:∀c∈r.ae,lZ c
structure TOK (N:Int) (T:aj):Prop where
 cols:T.ae.length<=1000
 refs:T.af.length<=1000
 ref:∀r∈T.af,yr r
 zu:T.ak.length<=1000
 jH:∀p∈T.ak,pS N p=true/\fC p<=1000
def rj {l:List J} {x:J} (h:l[i]? =some x):l.take i++ [x]=l.take (i+1):=by rw[vy,h];rfl
def WO (k:aj->aj->cO->cA->Option aj) (rs:cA) (hl:rs.length<=1000) (hr:∀r∈rs,yr r) (b6:cO):∀(x:cA) (i m:Nat) (b1 b2:aj),rs.drop i=x->x.length<m->
  Fp k m rs (rs.length:Int) (i:Int) b1 b2 b6 (rs.take i)=k (aj.mk b1.av b6 b1.ay b1.af b1.ak) (aj.mk b2.av [] b2.ay [] []) b6 rs
 | [],i,m+1,b1,b2,hd,hm=>by
  have hi:rs.length<=i:=by simpa using hd
  have hq:¬((i:Int)<(rs.length:Int)):=by omega
  simp only[Fp,RS,hq,aX,aC,aA,kn hi]
 |r::x,i,m+1,b1,b2,hd,hm=>by
  obtain ⟨g1,g2,g3⟩:=bC hd;have hq:(i:Int)<(rs.length:Int):=by omega
  have jA:=hr r (cN g1);have ih:=WO k rs hl hr b6 x (i+1) m (aj.mk b1.av b6 b1.ay b1.af b1.ak) (aj.mk b2.av [] b2.ay [] []) g2 (by simp at hm;omega)
  have e1:(rs.take i).length=i:=by simp;omega
  simp only[Fp,RS,hq,aU,aB,bO,g1,au,dI [] r.ae (by have:=jA.len;simp;omega),jV,dI (rs.take i) [r] (by simp;omega),rj g1,bY g3 (by omega)]
  rw[e1,dx _ (by simp;omega),au]
  have e2:(rs.take (i+1)).set i r=rs.take (i+1):=by
   rw[<-rj g1,xu _ _ (by omega)]
   simp[e1]
  rw[e2];exact ih
 |_,_,0,_,_,_,hm=>by simp at hm
def VC (n:Nat) (T:aj) (hT:T.ae.length<=1000/\T.af.length<=1000/\T.ak.length<=1000) (hr:∀r∈T.af,yr r) (hn:2000<n):adH n T=some T:=by
 unfold adH aeR;rw[dI _ _ (by simp;omega),au,jV]
 refine (WO (RR n) T.af hT.2.1 hr T.ae T.af 0 n _ _ rfl (by omega)).trans ?_
 unfold RR;rw[dI _ _ (by simp;omega)]
 rfl
def acD (k:aj->aj->aj->cO->cA->Option aj) (rs:cA) (hl:rs.length<=1000) (hr:∀r∈rs,yr r) (b1:aj) (bR:cO):∀(x:cA) (i m:Nat) (b2 b3:aj),rs.drop i=x->x.length<m->
  LX k m rs (rs.length:Int) (i:Int) b1 b2 b3 bR (rs.take i)=k b1 (aj.mk b2.av [] b2.ay [] []) (aj.mk b3.av bR b3.ay rs []) bR rs
 | [],i,m+1,b2,b3,hd,hm=>by
  have hi:rs.length<=i:=by simpa using hd
  have hq:¬((i:Int)<(rs.length:Int)):=by omega
  simp only[LX,XH,hq,aX,aC,aA,kn hi]
 |r::x,i,m+1,b2,b3,hd,hm=>by
  obtain ⟨g1,g2,g3⟩:=bC hd;have hq:(i:Int)<(rs.length:Int):=by omega
  have jA:=hr r (cN g1);have ih:=acD k rs hl hr b1 bR x (i+1) m (aj.mk b2.av [] b2.ay [] []) (aj.mk b3.av bR b3.ay (rs.take (i+1)) []) g2 (by simp at hm;omega)
  have e1:(rs.take i).length=i:=by simp;omega
  simp only[LX,XH,hq,aU,aB,bO,g1,au,dI [] r.ae (by have:=jA.len;simp;omega),jV,dI (rs.take i) [r] (by simp;omega),rj g1,bY g3 (by omega)]
  rw[e1,dx _ (by simp;omega),au]
  have e2:(rs.take (i+1)).set i r=rs.take (i+1):=by
   rw[<-rj g1,xu _ _ (by omega)]
   simp[e1]
  rw[e2];exact ih
 |_,_,0,_,_,_,hm=>by simp at hm
def acC (k:aj->aj->cO->bN->cA->Option aj) (ps:bN) (hl:ps.length<=1000) (hp:∀p∈ps,fC p<=1000) (bR:cO) (rs:cA):∀(x:bN) (i m:Nat) (b2 b3:aj),ps.drop i=x->x.length+1000<m->
  LW k m ps (ps.length:Int) (i:Int) b2 b3 bR (ps.take i) rs=k (aj.mk b2.av [] b2.ay [] []) (aj.mk b3.av bR b3.ay rs ps) bR ps rs
 | [],i,m+1,b2,b3,hd,hm=>by
  have hi:ps.length<=i:=by simpa using hd
  have hq:¬((i:Int)<(ps.length:Int)):=by omega
  simp only[LW,XG,hq,aX,aC,aA,kn hi]
 |p::x,i,m+1,b2,b3,hd,hm=>by
  obtain ⟨g1,g2,g3⟩:=bC hd;have hq:(i:Int)<(ps.length:Int):=by omega
  have yS:=hp p (cN g1);simp at hm;have ih:=acC k ps hl hp bR rs x (i+1) m (aj.mk b2.av [] b2.ay [] []) (aj.mk b3.av bR b3.ay rs (ps.take (i+1))) g2 (by omega)
  simp only[LW,XG,hq,aU,aB,bO,g1,au,aiY m p (by omega) (by omega),dI (ps.take i) [p] (by simp;omega),rj g1,bY g3 (by omega)]
  exact ih
 |_,_,0,_,_,_,hm=>by simp at hm
def arZ (n:Nat) (T:aj) (hT:T.ae.length<=1000/\T.af.length<=1000/\T.ak.length<=1000) (hr:∀r∈T.af,yr r) (hp:∀p∈T.ak,fC p<=1000) (hn:4000<n):F96 n T=some T:=by
 unfold F96 amT;rw[dI _ _ (by simp;omega),au,jV]
 refine (acD (XF n) T.af hT.2.1 hr T T.ae T.af 0 n _ _ rfl (by omega)).trans ?_
 unfold XF;refine (acC (amU n) T.ak hT.2.2 hp T.ae T.af T.ak 0 n _ _ rfl (by omega)).trans ?_
 rfl
structure DG (T:aj):Prop where
 len:T.ae.length<=1000/\T.af.length<=1000/\T.ak.length<=1000
 ref:∀r∈T.af,yr r
 jH:∀p∈T.ak,fC p<=1000
def acQ (k:ag->ag->br->Option ag) (ts:br) (hl:ts.length<=1000) (ht:∀T∈ts,DG T):∀(x:br) (i m:Nat) (b2 b3:ag),ts.drop i=x->x.length+4000<m->
  Mc k m ts (ts.length:Int) (i:Int) b2 b3 (ts.take i)=k (ag.mk b2.aw []) (ag.mk b3.aw ts) ts
 | [],i,m+1,b2,b3,hd,hm=>by
  have hi:ts.length<=i:=by simpa using hd
  have hq:¬((i:Int)<(ts.length:Int)):=by omega
  simp only[Mc,Yd,hq,aX,aC,aA,kn hi]
 |T::x,i,m+1,b2,b3,hd,hm=>by
  obtain ⟨g1,g2,g3⟩:=bC hd;have hq:(i:Int)<(ts.length:Int):=by omega
  have hT:=ht T (cN g1);simp at hm;have ih:=acQ k ts hl ht x (i+1) m (ag.mk b2.aw []) (ag.mk b3.aw (ts.take (i+1))) g2 (by omega)
  have e1:(ts.take i).length=i:=by simp;omega
  simp only[Mc,Yd,hq,aU,aB,bO,g1,au,arZ m T hT.len hT.ref hT.jH (by omega),dI (ts.take i) [T] (by simp;omega),rj g1,bY g3 (by omega)]
  rw[e1,dx _ (by simp;omega),au]
  have e2:(ts.take (i+1)).set i T=ts.take (i+1):=by
   rw[<-rj g1,xu _ _ (by omega)]
   simp[e1]
  rw[e2];exact ih
 |_,_,0,_,_,_,hm=>by simp at hm
def asd (n:Nat) (s:ag) (hl:s.ai.length<=1000) (ht:∀T∈s.ai,DG T) (hn:6000<n):F41 n s=some s:=by
 unfold F41 anv;exact acQ (anw n) s.ai hl ht s.ai 0 n _ _ rfl (by omega)
def WJ (k:Int->Int->Int->Int->cO->bN->aj->aj->cA->Option (aj×cO×cA×bN)) (a b:Int) (ha:lZ a) (cols:aK) (hl:cols.length<=1000) (hc:∀c∈cols,lZ c) (t13 t14:Int) (cs:cO) (ch:bN) (refs:cA) (ri:Nat):∀(x:aK) (j m:Nat) (b3 b6:aj) (b8 rr:bk),cols.drop j=x->x.length<m->
  Fl k m a b t13 t14 (cols.length:Int) (j:Int) cs ch b3 b6 b8 (fj (fu a b) cols j) refs rr ri=((setAt refs ri (bk.mk (cols.map (fu a b)) rr.aG)).bind λz2=>k a b t13 t14 cs ch (aj.mk b3.av cs b3.ay z2 ch) (aj.mk b6.av [] b6.ay [] []) z2)
 | [],j,m+1,b3,b6,b8,rr,hd,hm=>by
  have hi:cols.length<=j:=by simpa using hd
  have hq:¬((j:Int)<(cols.length:Int)):=by omega
  simp only[Fl,RI,hq,aX,aC,aA,rC _ _ hi]
 |c::x,j,m+1,b3,b6,b8,rr,hd,hm=>by
  obtain ⟨g1,g2,g3⟩:=bC hd;have hq:(j:Int)<(cols.length:Int):=by omega
  have s8:=hc c (cN g1);have ih:=WJ k a b ha cols hl hc t13 t14 cs ch refs ri x (j+1) m (aj.mk b3.av cs b3.ay refs ch) (aj.mk b6.av [] b6.ay [] []) (bk.mk (fj (fu a b) cols (j+1)) b8.aG) (bk.mk [] rr.aG) g2 (by simp at hm;omega)
  have hb:eZ (fj (fu a b) cols j).length (j:Int)=some j:=gG (by rw[kz];exact g3)
  simp only[Fl,RI,hq,aU,aB,hb,au,cC,lW _ g1,Mp m c a b s8.1 s8.2 ha.1 ha.2,dx _ (show j<(fj (fu a b) cols j).length by rw[kz];exact g3),rB _ g1,bY g3 (by omega)]
  exact ih
 |_,_,0,_,_,_,_,_,hm=>by simp at hm
def WI (k:Int->Int->cO->bN->aj->aj->cA->Option (aj×cO×cA×bN)) (a b:Int) (ha:lZ a) (rs:cA) (hl:rs.length<=1000) (hr:∀r∈rs,yr r) (cs:cO) (ch:bN):∀(x:cA) (i m:Nat) (b3 b6:aj),rs.drop i=x->x.length+1000<m->
  BY k m a b (rs.length:Int) (i:Int) cs ch b3 b6 (fj (gN (fu a b)) rs i)=k a b cs ch (aj.mk b3.av cs b3.ay (rs.map (gN (fu a b))) ch) (aj.mk b6.av [] b6.ay [] []) (rs.map (gN (fu a b)))
 | [],i,m+1,b3,b6,hd,hm=>by
  have hi:rs.length<=i:=by simpa using hd
  have hq:¬((i:Int)<(rs.length:Int)):=by omega
  simp only[BY,RG,hq,aX,aC,aA,rC _ _ hi]
 |r::x,i,m+1,b3,b6,hd,hm=>by
  obtain ⟨g1,g2,g3⟩:=bC hd;have hq:(i:Int)<(rs.length:Int):=by omega
  have jA:=hr r (cN g1);simp at hm;have ih:=WI k a b ha rs hl hr cs ch x (i+1) m (aj.mk b3.av cs b3.ay (fj (gN (fu a b)) rs (i+1)) ch) (aj.mk b6.av [] b6.ay [] []) g2 (by omega)
  have hb:eZ (fj (gN (fu a b)) rs i).length (i:Int)=some i:=gG (by rw[kz];exact g3)
  have inner:=WJ (RH (BY k m) m) a b ha r.ae jA.len jA.rng (rs.length:Int) (i:Int) cs ch (fj (gN (fu a b)) rs i) i r.ae 0 m (aj.mk b3.av cs b3.ay (fj (gN (fu a b)) rs i) ch) (aj.mk b6.av [] b6.ay [] []) r (bk.mk [] r.aG) rfl (by have:=jA.len;omega)
  rw[wm,dx _ (show i<(fj (gN (fu a b)) rs i).length by rw[kz];exact g3),au] at inner
  have e:(fj (gN (fu a b)) rs i).set i (bk.mk (r.ae.map (fu a b)) r.aG)=fj (gN (fu a b)) rs (i+1):=rB (gN (fu a b)) g1;rw[show (bk.mk ([]:aK) r.aG).aG=r.aG from rfl,e] at inner;simp only[BY,RG,hq,aU,aB,hb,au,cC,lW _ g1];refine inner.trans ?_;simp only[RH,bY g3 (by omega:rs.length<4294967296)]
  exact ih
 |_,_,0,_,_,_,hm=>by simp at hm
def WH (k:cO->bN->aj->aj->cA->Option (aj×cO×cA×bN)) (N:Int) (hN:N<=1000) (a b:Int) (ha:lZ a) (ps:bN) (hl:ps.length<=1000) (hp:∀p∈ps,pS N p=true/\fC p<=1000) (cs:cO) (refs:cA):∀(x:bN) (i m:Nat) (b3 b6:aj),ps.drop i=x->x.length+1000<m->
  Fk k m a b (ps.length:Int) (i:Int) cs (fj (lX (fu a b)) ps i) b3 b6 refs=k cs (ps.map (lX (fu a b))) (aj.mk b3.av cs b3.ay refs (ps.map (lX (fu a b)))) (aj.mk b6.av [] b6.ay [] []) refs
 | [],i,m+1,b3,b6,hd,hm=>by
  have hi:ps.length<=i:=by simpa using hd
  have hq:¬((i:Int)<(ps.length:Int)):=by omega
  simp only[Fk,RF,hq,aX,aC,aA,rC _ _ hi]
 |p::x,i,m+1,b3,b6,hd,hm=>by
  obtain ⟨g1,g2,g3⟩:=bC hd;have hq:(i:Int)<(ps.length:Int):=by omega
  have yS:=hp p (cN g1);simp at hm;have ih:=WH k N hN a b ha ps hl hp cs refs x (i+1) m (aj.mk b3.av cs b3.ay refs (fj (lX (fu a b)) ps (i+1))) (aj.mk b6.av [] b6.ay [] []) g2 (by omega)
  have hb:eZ (fj (lX (fu a b)) ps i).length (i:Int)=some i:=gG (by rw[kz];exact g3)
  simp only[Fk,RF,hq,aU,aB,hb,au,cC,lW _ g1,aiN N hN a b ha m p (by omega) (by omega) yS.1,dx _ (show i<(fj (lX (fu a b)) ps i).length by rw[kz];exact g3),rB _ g1,bY g3 (by omega)]
  exact ih
 |_,_,0,_,_,_,hm=>by simp at hm
def Mm (n:Nat) (T:aj) (N:Int) (hN:N<=1000) (hT:TOK N T) (a b:Int) (ha:lZ a) (hn:3000<n):adF n T a b=some (qT (fu a b) T,T.ae,T.af.map (gN (fu a b)),T.ak.map (lX (fu a b))):=by
 unfold adF aeN;have h1:=WI (RE n) a b ha T.af hT.refs hT.ref T.ae T.ak T.af 0 n T (aj.mk ByteArray.empty [] 0 [] []) rfl (by have:=hT.refs;omega)
 rw[wm] at h1;refine h1.trans ?_;unfold RE;have h2:=WH (aeO n) N hN a b ha T.ak hT.zu hT.jH T.ae (T.af.map (gN (fu a b))) T.ak 0 n (aj.mk T.av T.ae T.ay (T.af.map (gN (fu a b))) T.ak) (aj.mk ByteArray.empty [] 0 [] []) rfl (by have:=hT.zu;omega)
 rw[wm] at h2;exact h2
def Ww (k:Nat->Int->Int->aE->br->aj->cA->Option aE) (m0:aF) (eP:m0.bh=2\/m0.bh=3) (ha:lZ m0.aO) (cols:aK) (hl:cols.length<=1000) (hc:∀c∈cols,lZ c) (js:Nat) (t17 t18:Int) (ts:br) (refs:cA) (ri:Nat):∀(x:aK) (j m:Nat) (v:Int) (tt:br) (b5 rr:bk) (tr:aj),cols.drop j=x->x.length<m->
  E5 k m js t17 t18 (cols.length:Int) (j:Int) (aE.mk (ag.mk v tt) m0) b5 (fj (j5 m0) cols j) ts tr refs rr ri=((setAt refs ri (bk.mk (cols.map (j5 m0)) rr.aG)).bind λz2=>k js t17 t18 (aE.mk (ag.mk v ts) m0) ts (aj.mk tr.av tr.ae tr.ay [] tr.ak) z2)
 | [],j,m+1,v,tt,b5,rr,tr,hd,hm=>by
  have hi:cols.length<=j:=by simpa using hd
  have hq:¬((j:Int)<(cols.length:Int)):=by omega
  simp only[E5,Q1,hq,aX,aC,aA,rC _ _ hi]
 |c::x,j,m+1,v,tt,b5,rr,tr,hd,hm=>by
  obtain ⟨g1,g2,g3⟩:=bC hd;have hq:(j:Int)<(cols.length:Int):=by omega
  have s8:=hc c (cN g1);have ih:=Ww k m0 eP ha cols hl hc js t17 t18 ts refs ri x (j+1) m v ts (bk.mk (fj (j5 m0) cols (j+1)) b5.aG) (bk.mk [] rr.aG) (aj.mk tr.av tr.ae tr.ay [] tr.ak) g2 (by simp at hm;omega)
  have hb:eZ (fj (j5 m0) cols j).length (j:Int)=some j:=gG (by rw[kz];exact g3)
  have e1:=aiH m c (aE.mk (ag.mk v ts) m0) eP s8 ha;simp only[E5,Q1,hq,aU,aB,hb,au,cC,lW _ g1,e1,dx _ (show j<(fj (j5 m0) cols j).length by rw[kz];exact g3),rB _ g1,bY g3 (by omega)]
  exact ih
 |_,_,0,_,_,_,_,_,_,hm=>by simp at hm
def Wv (k:Nat->aE->br->Option aE) (m0:aF) (eP:m0.bh=2\/m0.bh=3) (ha:lZ m0.aO) (rs:cA) (hl:rs.length<=1000) (hr:∀r∈rs,yr r) (js:Nat) (ts:br):∀(x:cA) (i m:Nat) (v:Int) (tt:br) (tr:aj),rs.drop i=x->x.length+1000<m->
  BS k m js (rs.length:Int) (i:Int) (aE.mk (ag.mk v tt) m0) ts tr (fj (gN (j5 m0)) rs i)=((setAt ts js (aj.mk tr.av tr.ae tr.ay (rs.map (gN (j5 m0))) tr.ak)).bind λz=>k js (aE.mk (ag.mk v z) m0) z)
 | [],i,m+1,v,tt,tr,hd,hm=>by
  have hi:rs.length<=i:=by simpa using hd
  have hq:¬((i:Int)<(rs.length:Int)):=by omega
  simp only[BS,QZ,hq,aX,aC,aA,rC _ _ hi]
 |r::x,i,m+1,v,tt,tr,hd,hm=>by
  obtain ⟨g1,g2,g3⟩:=bC hd;have hq:(i:Int)<(rs.length:Int):=by omega
  have jA:=hr r (cN g1);simp at hm;have ih:=Wv k m0 eP ha rs hl hr js ts x (i+1) m v ts (aj.mk tr.av tr.ae tr.ay [] tr.ak) g2 (by omega)
  have hb:eZ (fj (gN (j5 m0)) rs i).length (i:Int)=some i:=gG (by rw[kz];exact g3)
  have inner:=Ww (Q0 (BS k m) m) m0 eP ha r.ae jA.len jA.rng js (rs.length:Int) (i:Int) ts (fj (gN (j5 m0)) rs i) i r.ae 0 m v ts r (bk.mk [] r.aG) (aj.mk tr.av tr.ae tr.ay [] tr.ak) rfl (by have:=jA.len;omega)
  rw[wm,dx _ (show i<(fj (gN (j5 m0)) rs i).length by rw[kz];exact g3),au] at inner
  have e:(fj (gN (j5 m0)) rs i).set i (bk.mk (r.ae.map (j5 m0)) r.aG)=fj (gN (j5 m0)) rs (i+1):=rB (gN (j5 m0)) g1;rw[show (bk.mk ([]:aK) r.aG).aG=r.aG from rfl,e] at inner;simp only[BS,QZ,hq,aU,aB,hb,au,cC,lW _ g1];refine inner.trans ?_;simp only[Q0,bY g3 (by omega:rs.length<4294967296)]
  exact ih
 |_,_,0,_,_,_,_,hm=>by simp at hm
def Wu (N:Int) (hN:N<=1000) (m0:aF) (eP:m0.bh=2\/m0.bh=3) (ha:lZ m0.aO) (ps:bN) (hl:ps.length<=1000) (hp:∀p∈ps,pS N p=true/\fC p<=1000) (js:Nat) (ts:br):∀(x:bN) (i m:Nat) (v:Int) (tt:br) (tr:aj),ps.drop i=x->x.length+1000<m->
  E4 m js (ps.length:Int) (i:Int) (aE.mk (ag.mk v tt) m0) (fj (lX (j5 m0)) ps i) ts tr=((setAt ts js (aj.mk tr.av tr.ae tr.ay tr.af (ps.map (lX (j5 m0))))).bind λz=>some (aE.mk (ag.mk v z) m0))
 | [],i,m+1,v,tt,tr,hd,hm=>by
  have hi:ps.length<=i:=by simpa using hd
  have hq:¬((i:Int)<(ps.length:Int)):=by omega
  simp only[E4,QY,hq,aX,aC,aA,rC _ _ hi]
 |p::x,i,m+1,v,tt,tr,hd,hm=>by
  obtain ⟨g1,g2,g3⟩:=bC hd;have hq:(i:Int)<(ps.length:Int):=by omega
  have yS:=hp p (cN g1);simp at hm;have ih:=Wu N hN m0 eP ha ps hl hp js ts x (i+1) m v ts (aj.mk tr.av tr.ae tr.ay tr.af []) g2 (by omega)
  have hb:eZ (fj (lX (j5 m0)) ps i).length (i:Int)=some i:=gG (by rw[kz];exact g3)
  have e1:=adJ N hN (aE.mk (ag.mk v ts) m0) eP ha m p (by omega) (by omega) yS.1
  simp only[E4,QY,hq,aU,aB,hb,au,cC,lW _ g1,e1,dx _ (show i<(fj (lX (j5 m0)) ps i).length by rw[kz];exact g3),rB _ g1,bY g3 (by omega)]
  exact ih
 |_,_,0,_,_,_,_,hm=>by simp at hm
def aiL (n:Nat) (v:Int) (ts:br) (m0:aF) (j:Nat) (T:aj) (hj:m0.aG=(j:Int)) (hT:ts[j]? =some T) (eP:m0.bh=2\/m0.bh=3) (ha:lZ m0.aO) (N:Int) (hN:N<=1000) (ht:TOK N T) (hn:3000<n):
  adm n (aE.mk (ag.mk v ts) m0)=some (aE.mk (ag.mk v (ts.set j (qT (j5 m0) T))) m0):=by
 have hl:=(cf.1 hT).1;have e1:B7 n (aE.mk (ag.mk v ts) m0)=some j:=by
  unfold B7 Q7;simp only[hj,gG hl,au,cC]
 unfold adm aeg;rw[e1,au];simp only[hT,au];have h1:=Wv (QX n) m0 eP ha T.af ht.refs ht.ref j ts T.af 0 n v ts (aj.mk T.av T.ae T.ay [] T.ak) rfl (by have:=ht.refs;omega)
 rw[wm,dx _ hl,au] at h1;refine h1.trans ?_;unfold QX;rw[pr hl,au];have ED:j<(ts.set j (aj.mk T.av T.ae T.ay (T.af.map (gN (j5 m0))) T.ak)).length:=by simpa using hl
 have h2:=Wu N hN m0 eP ha T.ak ht.zu ht.jH j (ts.set j (aj.mk T.av T.ae T.ay (T.af.map (gN (j5 m0))) T.ak)) T.ak 0 n v (ts.set j (aj.mk T.av T.ae T.ay (T.af.map (gN (j5 m0))) T.ak)) (aj.mk T.av T.ae T.ay (T.af.map (gN (j5 m0))) []) rfl (by have:=ht.zu;omega)
 rw[wm,dx _ ED,au,vz] at h2;exact h2
def oQ (x:Int) (o:aT):Bool:=o.ax==1&&o.cQ==x
mutual
def oP (x:Int):ah->Bool
 |⟨op,_,l,r,args⟩=>(op==3&&(oQ x l||oQ x r))||pU x args
def pU (x:Int):bN->Bool
 | []=>false
 |p::ps=>oP x p||pU x ps
end
def ki (l:aK) (q:Int->Bool) (sz:Nat) (r:aK):Prop:=(∀x,0<=x->(x∈r↔x∈l\/q x=true))/\r.length<=l.length+sz
def ki.refl (l:aK) {q:Int->Bool} (h:∀x,0<=x->q x=false) (sz:Nat):ki l q sz l:=⟨λx hx=>by simp[h x hx],by omega⟩
def ki.trans {a b c:aK} {q':Int->Bool} {s s':Nat} (h:ki a q s b) (k:ki b q' s' c):ki a (λx=>q x||q' x) (s+s') c:=
 ⟨λx hx=>by rw[k.1 x hx,h.1 x hx];simp[or_assoc],by have:=h.2;have:=k.2;omega⟩
def ki.mono {a b:aK} {q':Int->Bool} {s s':Nat} (h:ki a q s b) (hq:∀x,q x=q' x) (hs:s<=s'):ki a q' s' b:=
 ⟨λx hx=>by rw[h.1 x hx,hq],by have:=h.2;omega⟩
def aFb {xs:List J} {j:Nat} (h:j<=xs.length):cut xs none (some (j:Int))=some (xs.take j):=by
 unfold cut;simp[h]
def NQ {xs:List J} {j:Nat} (h:j<=xs.length):cut xs (some (j:Int)) none=some (xs.drop j):=by
 unfold cut;simp[h]
def Wt (k:aK->Int->Int->Option aK) (l:aK) (c:Int) (hl:l.length<=900000):∀(x:aK) (i m:Nat),l.drop i=x->x.length<m->i<=l.length->∃j:Nat,j<=l.length/\BR k m l c (i:Int)=k l c (j:Int)
 | [],i,m+1,hd,hm,hi=>by
  have:l.length<=i:=by simpa using hd
  have hq:¬((i:Int)<(l.length:Int)):=by omega
  exact ⟨i,hi,by simp only[BR,JZ,hq,aX,aC,aA]⟩
 |y::x,i,m+1,hd,hm,hi=>by
  obtain ⟨g1,g2,g3⟩:=bC hd;have hq:(i:Int)<(l.length:Int):=by omega
  by_cases h:y<c
  ·obtain ⟨j,h1,h2⟩:=Wt k l c hl x (i+1) m g2 (by simp at hm;omega) (by omega)
   refine ⟨j,h1,?_⟩;simp only[BR,JZ,hq,aU,aB,bO,g1,au,h,bY g3 (by omega),h2]
  ·exact ⟨i,hi,by simp only[BR,JZ,hq,aU,aB,bO,g1,au,h,aX,aC,aA]⟩
 |_,_,0,_,hm,_=>by simp at hm
def aCq (n:Nat) (l:aK) (c:Int) (hl:l.length<=900000) (hn:l.length<n):Ok (amv n l c) λr=>(∀x,x∈r↔x∈l\/x=c)/\r.length<=l.length+1:=by
 obtain ⟨j,h1,h2⟩:=Wt (QQ n) l c hl l 0 n rfl (by omega) (by omega)
 have hB:Ok (JY n l c (j:Int)) λr=>(∀x,x∈r↔x∈l\/x=c)/\r.length<=l.length+1:=by
  unfold JY;rw[aFb h1,au,dI _ _ (by simp;omega),au,dI _ _ (by simp;omega),au,NQ h1,au,dI _ _ (by simp;omega),au]
  refine Ok.pure ⟨λx=> ?_,by simp;omega⟩
  have e:x∈l↔x∈l.take j\/x∈l.drop j:=by
   conv=>lhs;rw[<-DH j l]
   exact eO
  rw[e];simp only[jV,eO,ez];constructor
  ·rintro ((h|h)|h)
   ·exact .inl (.inl h)
   ·exact .inr h
   ·exact .inl (.inr h)
  ·rintro ((h|h)|h)
   ·exact .inl (.inl h)
   ·exact .inr h
   ·exact .inl (.inr h)
 unfold amv adW;rw[show (0:Int)=((0:Nat):Int) from rfl,h2];unfold QQ;by_cases hq:(j:Int)<(l.length:Int)
 ·have hj:j<l.length:=by omega
  simp only[hq,aU,aB,bO,dJ hj,au];by_cases he:l[j]=c
  ·simp only[he,im,aB];refine Ok.pure ⟨λx=>⟨.inl,λh=> ?_⟩,by omega⟩
   rcases h with h|rfl
   ·exact h
   ·rw[<-he];exact rT hj
  ·have:(l[j]==c)=false:=by simpa using he
   simp only[this,aC,aA];exact hB
 ·simp only[hq,aX,aC,aA];exact hB
def M4 (s:ah->aK->Option aK) (k:aK->ah->Option aK) (p:ah) (os:te) (t:Nat) (o:aT) (ho:os[t]? =some o) (h2:os.length=2) (m:Nat) (l:aK) (hl:l.length<=800000) (hm:l.length+2<m):
  ∃l',ki l (λx=>oQ x o) 1 l'/\uT s k (m+1) l (t:Int) p os=uT s k m l' ((t+1:Nat):Int) p os:=by
 have ht:=(cf.1 ho).1;have hq:(t:Int)<2:=by omega
 have hb:eZ os.length (t:Int)=some t:=gG ht;have hw:bl ((t:Int)+1)=((t+1:Nat):Int):=bY ht (by omega)
 by_cases hk:o.ax=1
 ·by_cases hi:o.cQ<0
  ·refine ⟨l,ki.refl l (λx hx=> ?_) 1,?_⟩
   ·simp[oQ,hk];omega
   ·simp only[uT,FK,hq,aU,aB,hb,au,cC,ho,hk,im,hi,dw,aC,aA,hw]
  ·obtain ⟨r,e,h1,h3⟩:=aCq m l o.cQ (by omega) (by omega)
   refine ⟨r,⟨λx hx=> ?_,h3⟩,?_⟩
   ·rw[h1];simp[oQ,hk];constructor
    ·rintro (h|h)
     ·exact .inl h
     ·exact .inr h.symm
    ·rintro (h|h)
     ·exact .inl h
     ·exact .inr h.symm
   ·simp only[uT,FK,hq,aU,aB,hb,au,cC,ho,hk,im,hi,aX,gM,e,hw]
 ·have hkf:(o.ax==1)=false:=by simpa using hk
  refine ⟨l,ki.refl l (λx hx=>by simp[oQ,hk]) 1,?_⟩
  simp only[uT,FK,hq,aU,aB,hb,au,cC,ho,hkf,aC,aA,hw]
def arW (s:ah->aK->Option aK) (k:aK->ah->Option aK) (p:ah) (a b:aT) (m:Nat) (l:aK) (hl:l.length<=700000) (hm:l.length+10<m):
  ∃l',ki l (λx=>oQ x a||oQ x b) 2 l'/\uT s k m l 0 p [a,b]=k l' p:=by
 obtain ⟨m,rfl⟩:∃q,m=q+3:=⟨m-3,by omega⟩
 obtain ⟨l1,c1,e1⟩:=M4 s k p [a,b] 0 a rfl rfl (m+2) l (by omega) (by omega)
 have h1:=c1.2;obtain ⟨l2,c2,e2⟩:=M4 s k p [a,b] 1 b rfl rfl (m+1) l1 (by omega) (by omega)
 refine ⟨l2,c1.trans c2,?_⟩;refine e1.trans (e2.trans ?_);simp only[uT,FK,show ¬(((1+1:Nat):Int)<2) by omega,aX,aC,aA]
def aiJ:∀(n:Nat) (p:ah) (l:aK),l.length+2*fC p+20<=n->l.length+2*fC p<=500000->Ok (DE n p l) (ki l (λx=>oP x p) (2*fC p))
 |0,_,_,h,_=>by omega
 |n+1,⟨op,c,a,b,args⟩,l,h,hb=>by
  simp only[fC] at h hb ⊢;have hlen:=pw args;have loop:∀(xs:bN) (i k:Nat) (l1:aK),args.drop i=xs->xs.length<k->l1.length+2*kM xs+20<=n->l1.length+2*kM xs<=500000->
    Ok (E3 (DE n) (QU (DE n) n) k l1 (args.length:Int) (i:Int) ⟨op,c,a,b,args⟩) (ki l1 (λx=>pU x xs) (2*kM xs)):=by
   intro xs;induction xs with
   |nil=>
    intro i k l1 hd hk h1 h2;have:args.length<=i:=by simpa using hd
    have hq:¬((i:Int)<(args.length:Int)):=by omega
    cases k with
    |zero=>simp at hk
    |succ k=>
     simp only[E3,QV,hq,aX,aC,aA,QU];exact Ok.pure (ki.refl _ (λx _=>by simp[pU]) _)
   |cons x xs ih=>
    intro i k l1 hd hk h1 h2;obtain ⟨g1,g2,g3⟩:=bC hd;have hq:((i:Int)<(args.length:Int)):=by omega
    simp only[kM] at h1 h2;cases k with
    |zero=>simp at hk
    |succ k=>
     simp only[E3,QV,hq,aU,aB,bO,g1,au];refine Ok.bind (aiJ n x l1 (by omega) (by omega)) λl2 c2=> ?_
     have ED:=c2.2;rw[bY g3 (by omega:args.length<4294967296)]
     refine (ih (i+1) k l2 g2 (by simp at hk;omega) (by omega) (by omega)).mono λr c3=> ?_
     exact (c2.trans c3).mono (λy=>by simp[pU]) (by simp only[kM];omega)
  have tail:∀l1:aK,l1.length+2*kM args+20<=n->l1.length+2*kM args<=500000->Ok (FJ (DE n) n l1 ⟨op,c,a,b,args⟩) (ki l1 (λx=>pU x args) (2*kM args)):=λl1 h1 h2=>by
   unfold FJ;exact loop args 0 n l1 rfl (by omega) h1 h2
  unfold DE aea;by_cases h3:op=3
  ·subst h3;simp only[im,aB];obtain ⟨l1,c1,e1⟩:=arW (DE n) (FJ (DE n) n) ⟨3,c,a,b,args⟩ a b n l (by omega) (by omega)
   have hl1:=c1.2;rw[e1];refine (tail l1 (by omega) (by omega)).mono λr c2=> ?_
   exact (c1.trans c2).mono (λy=>by simp[oP]) (by omega)
  ·have cY:(op==3)=false:=by simpa using h3
   simp only[cY,aC,aA];refine (tail l (by omega) (by omega)).mono λr c2=> ?_
   exact c2.mono (λy=>by simp[oP,cY]) (by omega)
def aCt (n:Nat) (p:ah) (h:2*fC p+20<=n) (hb:2*fC p<=500000):Ok (amA n p) (ki [] (λx=>oP x p) (2*fC p)):=by
 unfold amA aem;exact Ok.bind (aiJ n p [] (by simpa using h) (by simpa using hb)) λr hr=>Ok.pure hr
def M5 (s:aK->ah->Option (aK×aK)) (k:kF->Int->aK->ah->Option (aK×aK)) (n:Nat) (t16:kF) (t:Int) (l:aK) (b3:ah) (o:aT) (hl:l.length<=800000):
  ∃l',ki l (λx=>oQ x o) 1 l'/\JX s k n t16 t l b3 o=k t16 (bl (t+1)) l' b3:=by
 unfold JX;by_cases hk:o.ax=1
 ·by_cases hi:o.cQ<0
  ·refine ⟨l,ki.refl l (λx hx=>by simp[oQ,hk];omega) 1,by simp[hk,hi]⟩
  ·refine ⟨l++ [o.cQ],⟨λx hx=> ?_,by simp⟩,?_⟩
   ·simp[oQ,hk];constructor
    ·rintro (h|h)
     ·exact .inl h
     ·exact .inr h.symm
    ·rintro (h|h)
     ·exact .inl h
     ·exact .inr h.symm
   ·simp only[hk,im,aB,hi,aX,gM,dI l [o.cQ] (by simp;omega),au]
 ·exact ⟨l,ki.refl l (λx hx=>by simp[oQ,hk]) 1,by simp[hk]⟩
def arV (s:aK->ah->Option (aK×aK)) (k:aK->ah->Option (aK×aK)) (p:ah) (a b:aT) (m:Nat) (l:aK) (hl:l.length<=700000) (hm:10<m):
  ∃l',ki l (λx=>oQ x a||oQ x b) 2 l'/\uS s k m (kF.mk a b) 0 l p=k l' p:=by
 obtain ⟨m,rfl⟩:∃q,m=q+3:=⟨m-3,by omega⟩
 obtain ⟨l1,c1,e1⟩:=M5 s (uS s k (m+2)) (m+2) (kF.mk a b) 0 l p a (by omega)
 have h1:=c1.2;obtain ⟨l2,c2,e2⟩:=M5 s (uS s k (m+1)) (m+1) (kF.mk a b) 1 l1 p b (by omega)
 refine ⟨l2,c1.trans c2,?_⟩;have s0:uS s k (m+3) (kF.mk a b) 0 l p=uS s k (m+2) (kF.mk a b) 1 l1 p:=e1;have s1:uS s k (m+2) (kF.mk a b) 1 l1 p=uS s k (m+1) (kF.mk a b) 2 l2 p:=e2;rw[s0,s1];rfl
def aiG:∀(n:Nat) (l:aK) (p:ah),2*fC p+20<=n->l.length+2*fC p<=500000->Ok (DD n l p) λr=>r.1=r.2/\ki l (λx=>oP x p) (2*fC p) r.2
 |0,_,_,h,_=>by omega
 |n+1,l,⟨op,c,a,b,args⟩,h,hb=>by
  simp only[fC] at h hb ⊢;have hlen:=pw args;have loop:∀(xs:bN) (i k:Nat) (l1:aK),args.drop i=xs->xs.length<k->2*kM xs+20<=n->l1.length+2*kM xs<=500000->
    Ok (E1 (DD n) (QM (DD n) n) k args (args.length:Int) (i:Int) l1) λr=>r.1=r.2/\ki l1 (λx=>pU x xs) (2*kM xs) r.2:=by
   intro xs;induction xs with
   |nil=>
    intro i k l1 hd hk h1 h2;have:args.length<=i:=by simpa using hd
    have hq:¬((i:Int)<(args.length:Int)):=by omega
    cases k with
    |zero=>simp at hk
    |succ k=>
     simp only[E1,QN,hq,aX,aC,aA,QM];exact Ok.pure ⟨rfl,ki.refl _ (λx _=>by simp[pU]) _⟩
   |cons x xs ih=>
    intro i k l1 hd hk h1 h2;obtain ⟨g1,g2,g3⟩:=bC hd;have hq:((i:Int)<(args.length:Int)):=by omega
    simp only[kM] at h1 h2;cases k with
    |zero=>simp at hk
    |succ k=>
     simp only[E1,QN,hq,aU,aB,bO,g1,au];refine Ok.bind (aiG n l1 x (by omega) (by omega)) λl2 ⟨_,c2⟩=> ?_
     have ED:=c2.2;rw[bY g3 (by omega:args.length<4294967296)]
     refine (ih (i+1) k l2.2 g2 (by simp at hk;omega) (by omega) (by omega)).mono λr ⟨c0,c3⟩=> ?_
     exact ⟨c0,(c2.trans c3).mono (λy=>by simp[pU]) (by simp only[kM];omega)⟩
  have tail:∀l1:aK,l1.length+2*kM args<=500000->Ok (FI (DD n) n l1 ⟨op,c,a,b,args⟩) λr=>r.1=r.2/\ki l1 (λx=>pU x args) (2*kM args) r.2:=λl1 h2=>by
   unfold FI;exact loop args 0 n l1 rfl (by omega) (by omega) h2
  unfold DD adU;by_cases h3:op=3
  ·subst h3;simp only[im,aB];obtain ⟨l1,c1,e1⟩:=arV (DD n) (FI (DD n) n) ⟨3,c,a,b,args⟩ a b n l (by omega) (by omega)
   have hl1:=c1.2;rw[e1];refine (tail l1 (by omega)).mono λr ⟨c0,c2⟩=> ?_
   exact ⟨c0,(c1.trans c2).mono (λy=>by simp[oP]) (by omega)⟩
  ·have cY:(op==3)=false:=by simpa using h3
   simp only[cY,aC,aA];refine (tail l (by omega)).mono λr ⟨c0,c2⟩=> ?_
   exact ⟨c0,c2.mono (λy=>by simp[oP,cY]) (by omega)⟩
def Kd (k:kF->Int->aK->ah->Option aK) (n:Nat) (t16:kF) (t:Int) (l:aK) (b3:ah) (o:aT) (hl:l.length<=800000):
  ∃l',ki l (λx=>oQ x o) 1 l'/\FP k n t16 t l b3 o=k t16 (bl (t+1)) l' b3:=by
 unfold FP;by_cases hk:o.ax=1
 ·by_cases hi:o.cQ<0
  ·refine ⟨l,ki.refl l (λx hx=>by simp[oQ,hk];omega) 1,by simp[hk,hi]⟩
  ·refine ⟨l++ [o.cQ],⟨λx hx=> ?_,by simp⟩,?_⟩
   ·simp[oQ,hk];constructor
    ·rintro (h|h)
     ·exact .inl h
     ·exact .inr h.symm
    ·rintro (h|h)
     ·exact .inl h
     ·exact .inr h.symm
   ·simp only[hk,im,aB,hi,aX,gM,dI l [o.cQ] (by simp;omega),au]
 ·exact ⟨l,ki.refl l (λx hx=>by simp[oQ,hk]) 1,by simp[hk]⟩
def amu (k:aK->ah->Option aK) (p:ah) (a b:aT) (m:Nat) (l:aK) (hl:l.length<=700000) (hm:10<m):
  ∃l',ki l (λx=>oQ x a||oQ x b) 2 l'/\sJ k m (kF.mk a b) 0 l p=k l' p:=by
 obtain ⟨m,rfl⟩:∃q,m=q+3:=⟨m-3,by omega⟩
 obtain ⟨l1,c1,e1⟩:=Kd (sJ k (m+2)) (m+2) (kF.mk a b) 0 l p a (by omega)
 have h1:=c1.2;obtain ⟨l2,c2,e2⟩:=Kd (sJ k (m+1)) (m+1) (kF.mk a b) 1 l1 p b (by omega)
 refine ⟨l2,c1.trans c2,?_⟩;have s0:sJ k (m+3) (kF.mk a b) 0 l p=sJ k (m+2) (kF.mk a b) 1 l1 p:=e1;have s1:sJ k (m+2) (kF.mk a b) 1 l1 p=sJ k (m+1) (kF.mk a b) 2 l2 p:=e2;rw[s0,s1];rfl
def avP (n:Nat) (p:ah) (h:4*fC p+60<=n) (hb:2*fC p<=400000):Ok (XD n p) (ki [] (λx=>oP x p) (2*fC p)):=by
 obtain ⟨op,c,a,b,args⟩:=p;simp only[fC] at h hb ⊢;have hlen:=pw args;have loop:∀(xs:bN) (i k:Nat) (l1:aK),args.drop i=xs->xs.length+2*kM args+20<k->l1.length+2*kM xs<=500000->
   Ok (AM (ME n) k args (args.length:Int) (i:Int) l1) (ki l1 (λx=>pU x xs) (2*kM xs)):=by
  intro xs;induction xs with
  |nil=>
   intro i k l1 hd hk h2;have:args.length<=i:=by simpa using hd
   have hq:¬((i:Int)<(args.length:Int)):=by omega
   cases k with
   |zero=>simp at hk
   |succ k=>
    simp only[AM,MF,hq,aX,aC,aA,ME];exact Ok.pure (ki.refl _ (λx _=>by simp[pU]) _)
  |cons x xs ih=>
   intro i k l1 hd hk h2;obtain ⟨g1,g2,g3⟩:=bC hd;have hq:((i:Int)<(args.length:Int)):=by omega
   have hx:x∈args:=cN g1;have hs:=sx hx;simp only[kM] at h2;cases k with
   |zero=>simp at hk
   |succ k=>
    simp at hk;simp only[AM,MF,hq,aU,aB,bO,g1,au];refine Ok.bind (aiG k l1 x (by omega) (by omega)) λl2 ⟨_,c2⟩=> ?_
    have ED:=c2.2;rw[bY g3 (by omega:args.length<4294967296)]
    refine (ih (i+1) k l2.2 g2 (by omega) (by omega)).mono λr c3=> ?_
    exact (c2.trans c3).mono (λy=>by simp[pU]) (by simp only[kM];omega)
 have tail:∀(l1:aK) (q:ah),q.fArgs=args->l1.length+2*kM args<=500000->Ok (AP n l1 q) (ki l1 (λx=>pU x args) (2*kM args)):=λl1 q hq h2=>by
  unfold AP;rw[hq];exact loop args 0 n l1 rfl (by omega) h2
 unfold XD VL;by_cases h3:op=3
 ·subst h3;simp only[im,aB];obtain ⟨l1,c1,e1⟩:=amu (AP n) ⟨3,c,a,b,args⟩ a b n [] (by simp) (by omega)
  have hl1:=c1.2;simp at hl1;rw[e1];refine (tail l1 _ rfl (by omega)).mono λr c2=> ?_
  exact (c1.trans c2).mono (λy=>by simp[oP]) (by omega)
 ·have cY:(op==3)=false:=by simpa using h3
  simp only[cY,aC,aA];refine (tail [] _ rfl (by simp;omega)).mono λr c2=> ?_
  exact c2.mono (λy=>by simp[oP,cY]) (by omega)
def ahZ (z:Int):∀xs:aK,z∈kT xs↔z∈xs
 | []=>Iff.rfl
 | [x]=>Iff.rfl
 |x::y::l=>by
  have ih:=ahZ z (y::l);show z∈(if x=y then kT (y::l) else x::kT (y::l))↔_
  split
  ·rename_i e;subst e;rw[ih];simp
  ·rw[cH,ih,cH (a:=z) (b:=x)]
def aCr (n:Nat) (p:ah) (h:4*fC p+60<=n) (hb:2*fC p<=400000):Ok (amx n p) λr=>r.length<=2*fC p/\∀x,0<=x->(x∈r↔oP x p=true):=by
 unfold amx adY;refine Ok.bind (avP n p h hb) λl c=> ?_
 have hl:=c.2;simp at hl;have hp:=zX l;have h1:ads n l=some (lI l):=by unfold ads;rw[aH (by omega)]
 rw[h1,au,show lJ (lI l).length l.length=some () by unfold lJ;rw[aH hp.length_eq],au]
 have h2:adi n (lI l)=some (kT (lI l),kT (lI l)):=by unfold adi;rw[aH (by rw[hp.length_eq];omega)]
 rw[h2,au];refine Ok.pure ⟨?_,λx hx=> ?_⟩
 ·have:=Jx (lI l);rw[hp.length_eq] at this;show (kT (lI l)).length<=_;omega
 ·show x∈kT (lI l)↔_;rw[ahZ,hp.mem_iff,c.1 x hx];simp
def qq (c:Int) (rs:cA):Bool:=rs.any λr=>decide (c∈r.ae)
def qt (c:Int) (ps:bN):Bool:=ps.any λp=>oP c p
def zS (c:Int) (T:aj):Bool:=qq c T.af||qt c T.ak
def WN (k:Int->cA->Int->Int->aj->Option Bool) (c:Int) (t14:cA) (t15 t16:Int) (T:aj) (cols:aK) (hl:cols.length<=1000):∀(x:aK) (j m:Nat),cols.drop j=x->x.length<m->
  Fo k m c t14 t15 t16 cols (cols.length:Int) (j:Int) T=if c∈x then some true else k c t14 t15 t16 T
 | [],j,m+1,hd,hm=>by
  have hi:cols.length<=j:=by simpa using hd
  have hq:¬((j:Int)<(cols.length:Int)):=by omega
  simp[Fo,RQ,hq]
 |y::x,j,m+1,hd,hm=>by
  obtain ⟨g1,g2,g3⟩:=bC hd;have hq:(j:Int)<(cols.length:Int):=by omega
  have ih:=WN k c t14 t15 t16 T cols hl x (j+1) m g2 (by simp at hm;omega)
  simp only[Fo,RQ,hq,aU,aB,bO,g1,au,bY g3 (by omega),ih]
  by_cases h:y=c
  ·subst h;simp
  ·have h2:¬c=y:=λe=>h e.symm
   simp[h,h2]
 |_,_,0,_,hm=>by simp at hm
def WM (k:Int->aj->Option Bool) (c:Int) (T:aj) (rs:cA) (hl:rs.length<=1000) (hr:∀r∈rs,yr r):∀(x:cA) (i m:Nat),rs.drop i=x->x.length+1000<m->
  B0 k m c rs (rs.length:Int) (i:Int) T=if qq c x=true then some true else k c T
 | [],i,m+1,hd,hm=>by
  have hi:rs.length<=i:=by simpa using hd
  have hq:¬((i:Int)<(rs.length:Int)):=by omega
  simp[B0,RO,hq,qq]
 |r::x,i,m+1,hd,hm=>by
  obtain ⟨g1,g2,g3⟩:=bC hd;have hq:(i:Int)<(rs.length:Int):=by omega
  have jA:=hr r (cN g1);simp at hm;have ih:=WM k c T rs hl hr x (i+1) m g2 (by omega)
  have inner:=WN (RP (B0 k m) m) c rs (rs.length:Int) (i:Int) T r.ae jA.len r.ae 0 m rfl (by have:=jA.len;omega)
  simp only[B0,RO,hq,aU,aB,bO,g1,au];refine inner.trans ?_;simp only[RP,bY g3 (by omega:rs.length<4294967296),ih]
  have e:qq c (r::x)=(decide (c∈r.ae)||qq c x):=by simp[qq]
  rw[e];by_cases h:c∈r.ae<;>simp[h]
 |_,_,0,_,hm=>by simp at hm
def WL (k:Int->bN->Int->Int->Option Bool) (c:Int) (t33:bN) (t34 t35:Int) (cols:aK) (hl:cols.length<=10000):∀(x:aK) (j m:Nat),cols.drop j=x->x.length<m->
  Fm k m c t33 t34 t35 cols (cols.length:Int) (j:Int)=if c∈x then some true else k c t33 t34 t35
 | [],j,m+1,hd,hm=>by
  have hi:cols.length<=j:=by simpa using hd
  have hq:¬((j:Int)<(cols.length:Int)):=by omega
  simp[Fm,RN,hq]
 |y::x,j,m+1,hd,hm=>by
  obtain ⟨g1,g2,g3⟩:=bC hd;have hq:(j:Int)<(cols.length:Int):=by omega
  have ih:=WL k c t33 t34 t35 cols hl x (j+1) m g2 (by simp at hm;omega)
  simp only[Fm,RN,hq,aU,aB,bO,g1,au,bY g3 (by omega),ih]
  by_cases h:y=c
  ·subst h;simp
  ·have h2:¬c=y:=λe=>h e.symm
   simp[h,h2]
 |_,_,0,_,hm=>by simp at hm
def WK (k:Option Bool) (c:Int) (hc:0<=c) (ps:bN) (hl:ps.length<=1000) (hp:∀p∈ps,fC p<=1000):∀(x:bN) (i m:Nat),ps.drop i=x->x.length+10000<m->
  BZ k m c ps (ps.length:Int) (i:Int)=if qt c x=true then some true else k
 | [],i,m+1,hd,hm=>by
  have hi:ps.length<=i:=by simpa using hd
  have hq:¬((i:Int)<(ps.length:Int)):=by omega
  simp[BZ,RL,hq,qt]
 |p::x,i,m+1,hd,hm=>by
  obtain ⟨g1,g2,g3⟩:=bC hd;have hq:(i:Int)<(ps.length:Int):=by omega
  have yS:=hp p (cN g1);simp at hm;have ih:=WK k c hc ps hl hp x (i+1) m g2 (by omega)
  obtain ⟨r,e1,c1,c2⟩:=aCt m p (by omega) (by omega)
  simp at c2;have inner:=WL (RM (BZ k m) m) c ps (ps.length:Int) (i:Int) r (by omega) r 0 m rfl (by omega)
  simp only[BZ,RL,hq,aU,aB,bO,g1,au,e1];refine inner.trans ?_;simp only[RM,bY g3 (by omega:ps.length<4294967296),ih]
  have e:qt c (p::x)=(oP c p||qt c x):=by simp[qt]
  have hm:=c1 c hc;simp at hm;rw[e];cases hcp:oP c p with
  |true=>rw[aH (hm.2 hcp)];simp
  |false=>rw[aM (λh=>by rw[hm.1 h] at hcp;cases hcp)];simp
 |_,_,0,_,hm=>by simp at hm
def Mn (n:Nat) (T:aj) (c:Int) (hc:0<=c) (hT:DG T) (hn:20000<n):adG n T c=some (zS c T):=by
 unfold adG aeP;have h1:=WM (RJ n) c T T.af hT.len.2.1 hT.ref T.af 0 n rfl (by have:=hT.len.2.1;omega)
 refine h1.trans ?_;unfold RJ;have h2:=WK (RK n) c hc T.ak hT.len.2.2 hT.jH T.ak 0 n rfl (by have:=hT.len.2.2;omega)
 rw[show (0:Int)=((0:Nat):Int) from rfl,h2];unfold zS RK;cases qq c T.af<;>cases qt c T.ak<;>rfl
def Ws (v:Int) (l:aK) (hl:l.length<=10000) (n0:Nat):∀(x:aK) (j m:Nat),l.drop j=x->x.length<m->
  Ok (E2 (QO n0) m l v (l.length:Int) (j:Int)) λr=>(r<0↔¬v∈x)
 | [],j,m+1,hd,hm=>by
  have hi:l.length<=j:=by simpa using hd
  have hq:¬((j:Int)<(l.length:Int)):=by omega
  simp only[E2,QP,hq,aX,aC,aA,QO];exact Ok.pure ⟨λ_=>by simp,λ_=>by omega⟩
 |y::x,j,m+1,hd,hm=>by
  obtain ⟨g1,g2,g3⟩:=bC hd;have hq:(j:Int)<(l.length:Int):=by omega
  simp only[E2,QP,hq,aU,aB,bO,g1,au];by_cases h:v=y
  ·subst h;simp only[im,aB];exact Ok.pure ⟨λh=>by omega,λh=>absurd jo h⟩
  ·have:(v==y)=false:=by simpa using h
   simp only[this,aC,aA,bY g3 (by omega)]
   refine (Ws v l hl n0 x (j+1) m g2 (by simp at hm;omega)).mono λr hr=> ?_
   rw[hr];simp[h]
 |_,_,0,_,hm=>by simp at hm
def aiI (n:Nat) (l:aK) (v:Int) (hl:l.length<=10000) (hn:l.length<n):adj n l v=some (decide (v∈l)):=by
 obtain ⟨r,e,h⟩:=Ws v l hl n l 0 n rfl hn;unfold adj adZ avF adV;rw[show (0:Int)=((0:Nat):Int) from rfl,e,au];by_cases hv:v∈l
 ·have:¬r<0:=λhr=>(h.1 hr) hv
  simp[hv,this]
 ·have:r<0:=h.2 hv;simp[hv,this]
def Wy (k:aE->aj->Option Bool) (g:aE) (T:aj) (rs:cA) (hl:rs.length<=1000) (hr:∀r∈rs,yr r):∀(x:cA) (i m:Nat),rs.drop i=x->x.length+1000<m->
  E7 k m g T rs (rs.length:Int) (i:Int)=if qq g.fm.aO x=true then some true else k g T
 | [],i,m+1,hd,hm=>by
  have hi:rs.length<=i:=by simpa using hd
  have hq:¬((i:Int)<(rs.length:Int)):=by omega
  simp[E7,Q6,hq,qq]
 |r::x,i,m+1,hd,hm=>by
  obtain ⟨g1,g2,g3⟩:=bC hd;have hq:(i:Int)<(rs.length:Int):=by omega
  have jA:=hr r (cN g1);simp at hm;have ih:=Wy k g T rs hl hr x (i+1) m g2 (by omega)
  simp only[E7,Q6,hq,aU,aB,bO,g1,au,aiI m r.ae g.fm.aO (by have:=jA.len;omega) (by have:=jA.len;omega),bY g3 (by omega:rs.length<4294967296),ih]
  have e:qq g.fm.aO (r::x)=(decide (g.fm.aO∈r.ae)||qq g.fm.aO x):=by simp[qq]
  rw[e];by_cases h:g.fm.aO∈r.ae<;>simp[h]
 |_,_,0,_,hm=>by simp at hm
def Wx (k:Option Bool) (g:aE) (hc:0<=g.fm.aO) (ps:bN) (hl:ps.length<=1000) (hp:∀p∈ps,fC p<=1000):∀(x:bN) (i m:Nat),ps.drop i=x->x.length+10000<m->
  E6 k m g ps (ps.length:Int) (i:Int)=if qt g.fm.aO x=true then some true else k
 | [],i,m+1,hd,hm=>by
  have hi:ps.length<=i:=by simpa using hd
  have hq:¬((i:Int)<(ps.length:Int)):=by omega
  simp[E6,Q5,hq,qt]
 |p::x,i,m+1,hd,hm=>by
  obtain ⟨g1,g2,g3⟩:=bC hd;have hq:(i:Int)<(ps.length:Int):=by omega
  have yS:=hp p (cN g1);simp at hm;have ih:=Wx k g hc ps hl hp x (i+1) m g2 (by omega)
  obtain ⟨r,e1,c2,c1⟩:=aCr m p (by omega) (by omega)
  simp only[E6,Q5,hq,aU,aB,bO,g1,au,e1,aiI m r g.fm.aO (by omega) (by omega),bY g3 (by omega:ps.length<4294967296),ih]
  have e:qt g.fm.aO (p::x)=(oP g.fm.aO p||qt g.fm.aO x):=by simp[qt]
  have hm:=c1 g.fm.aO hc;rw[e];cases hcp:oP g.fm.aO p with
  |true=>simp[hm.2 hcp]
  |false=>
   have:¬g.fm.aO∈r:=λh=>by rw[hm.1 h] at hcp;cases hcp
   simp[this]
 |_,_,0,_,hm=>by simp at hm
def N8 (n:Nat) (v:Int) (ts:br) (m0:aF) (j:Nat) (T:aj) (hj:m0.aG=(j:Int)) (hT:ts[j]? =some T):Mo n (aE.mk (ag.mk v ts) m0)=some T:=by
 unfold Mo VM;simp only[hj,bO,hT,au]
def FE (n:Nat) (v:Int) (ts:br) (m0:aF) (j:Nat) (hj:m0.aG=(j:Int)) (hl:j<ts.length):B7 n (aE.mk (ag.mk v ts) m0)=some j:=by
 unfold B7 Q7;simp only[hj,gG hl,au,cC]
def Ml (n:Nat) (v:Int) (ts:br) (m0:aF) (j:Nat) (T:aj) (hj:m0.aG=(j:Int)) (hT:ts[j]? =some T) (c:Int):N6 n (aE.mk (ag.mk v ts) m0) c=some (decide (T.ay<=c)&&decide (c<(T.ae.length:Int))):=by
 unfold N6 aei;rw[N8 n v ts m0 j T hj hT,au];by_cases h:c<T.ay
 ·have:¬T.ay<=c:=by omega
  simp[h,this]
 ·have:T.ay<=c:=by omega
  simp[h,this]
def aiM (n:Nat) (v:Int) (ts:br) (m0:aF) (j:Nat) (T:aj) (hj:m0.aG=(j:Int)) (hT:ts[j]? =some T) (hc:0<=m0.aO) (ht:DG T) (hn:20000<n):ado n (aE.mk (ag.mk v ts) m0)=some (zS m0.aO T):=by
 unfold ado aeh;rw[N8 n v ts m0 j T hj hT,au];have h1:=Wy (Q3 n) (aE.mk (ag.mk v ts) m0) T T.af ht.len.2.1 ht.ref T.af 0 n rfl (by have:=ht.len.2.1;omega)
 refine h1.trans ?_;unfold Q3;have h2:=Wx (Q4 n) (aE.mk (ag.mk v ts) m0) hc T.ak ht.len.2.2 ht.jH T.ak 0 n rfl (by have:=ht.len.2.2;omega)
 rw[show (0:Int)=((0:Nat):Int) from rfl,h2];unfold zS Q4;show (if qq m0.aO T.af=true then _ else if qt m0.aO T.ak=true then _ else _)=_
 cases qq m0.aO T.af<;>cases qt m0.aO T.ak<;>rfl
mutual
def anW:∀p:ah,fC p+1=3*qS p
 |⟨_,_,_,_,args⟩=>by have:=anX args;simp only[fC,qS];omega
def anX:∀xs:bN,kM xs=3*pN xs
 | []=>by simp[kM,pN]
 |x::xs=>by have:=anW x;have:=anX xs;simp only[kM,pN];omega
end
def aBt {p:ah} (h:sK ks [] p=0):fC p<=71/\pV ks [] p=true/\mJ ks=true:=by
 unfold sK at h;split at h
 ·cases h
 ·rename_i h0;split at h
  ·cases h
  ·split at h
   ·cases h
   ·rename_i h1;split at h
    ·cases h
    ·rename_i h2;have:=anW p;simp at h0 h1 h2;exact ⟨by omega,h2,h0⟩
def aii {ks:aK}:∀{ps:bN},rN ks ps=0->∀p∈ps,sK ks [] p=0
 |q::ps,h,p,hp=>by
  unfold rN at h;split at h
  ·rename_i h0;rcases cH.1 hp with rfl|hp
   ·exact h0
   ·exact aii h p hp
  ·rename_i h0;exact absurd h h0
def aif:∀{ts:br},zw ts=0->∀T∈ts,rN (fL T) T.ak=0
 |G::ts,h,T,hT=>by
  unfold zw at h;split at h
  ·rename_i h0;rcases cH.1 hT with rfl|hT
   ·exact h0
   ·exact aif h T hT
  ·rename_i h0;exact absurd h h0
def O5 {tc:cO}:∀{gs:cO} {cs:aK},px tc gs cs=true->cs.length<=gs.length/\∀c∈cs,0<=c/\c<(tc.length:Int)
 |_,[],_=>⟨by simp,λc hc=>by cases hc⟩
 | [],_::_,h=>by cases h
 |g::gs,c::cs,h=>by
  unfold px at h;split at h
  ·cases h
  ·rename_i x hx;simp only[bF] at h;obtain ⟨h1,h2⟩:=O5 h.2;obtain ⟨i1,i2,_⟩:=yN hx;refine ⟨by simp;omega,λd hd=> ?_⟩
   rcases cH.1 hd with rfl|hd
   ·exact ⟨i1,by omega⟩
   ·exact h2 d hd
def aam {s:ag} {T:aj}:∀{rs:cA},sS s T rs=true->∀r∈rs,aan s T r=true
 |q::rs,h,r,hr=>by
  unfold sS at h;rw[bF] at h;rcases cH.1 hr with rfl|hr
  ·exact h.1
  ·exact aam h.2 r hr
def Ql {s:ag}:∀{ts:br},allRefs s ts=true->∀T∈ts,sS s T T.af=true
 |G::ts,h,T,hT=>by
  unfold allRefs at h;rw[bF] at h;rcases cH.1 hT with rfl|hT
  ·exact h.1
  ·exact Ql h.2 T hT
structure TG (k:Nat) (T:aj):Prop where
 Dn:1<=T.ay
 jL:T.ay<=(T.ae.length:Int)
 cols:T.ae.length<=8
 refs:T.af.length<=4
 zu:T.ak.length<=4
 ref:∀r∈T.af,r.ae.length<=8/\(∀c∈r.ae,0<=c/\c<(T.ae.length:Int))/\0<=r.aG/\r.aG<(k:Int)
 jH:∀p∈T.ak,pS (T.ae.length:Int) p=true/\fC p<=71
structure SG (s:ag):Prop where
 len:s.ai.length<=8
 v0:0<=s.aw
 v1:s.aw<=1000
 cy:∀T∈s.ai,TG s.ai.length T
def SG.of {s:ag} (h:gy s=0):SG s:=by
 have hS:=A5 h;unfold gy at h;split at h
 ·cases h
 ·rename_i h8;split at h
  ·rename_i hb;rw[iT] at hb;split at h
   ·cases h
   ·rename_i v0;split at h
    ·cases h
    ·rename_i v1;split at h
     ·rename_i ht;split at h
      ·rename_i hr;refine ⟨by omega,by omega,by omega,λT hT=> ?_⟩
       obtain ⟨b1,b2,b3⟩:=qe (hb T hT);have t1:=M8 (λT hT=>(qe (hb T hT)).1) ht T hT
       refine ⟨t1.Dn,t1.jL,b1,b2,b3,λr jA=> ?_,λp hp=> ?_⟩
       ·have q:=aam (Ql hr T hT) r jA;unfold aan at q;split at q
        ·cases q
        ·rename_i G hG;rw[bF] at q;obtain ⟨c1,c2⟩:=O5 q.2;obtain ⟨i1,i2,i3⟩:=yN hG;have:=(qe (hb G (cN i3))).1;exact ⟨by omega,c2,i1,by omega⟩
       ·obtain ⟨c1,c2,c3⟩:=aBt (aii (aif h T hT) p hp);have:=awL c2;rw[show ((fL T).length:Int)=(T.ae.length:Int) by simp[fL]] at this
        exact ⟨this,c1⟩
      ·cases h
     ·cases h
  ·cases h
def TG.cp {k:Nat} {T:aj} (h:TG k T):DG T:=
 ⟨⟨by have:=h.cols;omega,by have:=h.refs;omega,by have:=h.zu;omega⟩,λr hr=>⟨by have:=(h.ref r hr).1;omega,λc hc=>by have:=(h.ref r hr).2.1 c hc;have:=h.cols;exact ⟨by omega,by omega⟩⟩,λp hp=>by have:=(h.jH p hp).2;omega⟩
def TG.tok {k:Nat} {T:aj} (h:TG k T):TOK (T.ae.length:Int) T:=
 ⟨h.cp.len.1,h.cp.len.2.1,h.cp.ref,h.cp.len.2.2,λp hp=>⟨(h.jH p hp).1,by have:=(h.jH p hp).2;omega⟩⟩
def Z5 {a b i n:Int} (ha:0<=a) (ha':a<n) (hb:0<=b) (mQ:b<n) (hi:0<=i) (sX:i<n):0<=fu a b i/\fu a b i<n:=by
 unfold fu;split
 ·omega
 ·split
  ·omega
  ·split
   ·omega
   ·split<;>omega
def UB {a b i n:Int} (ha:0<=a) (ha':a<n) (hb:0<=b) (mQ:b<n) (hi:0<=i) (sX:i<n):fu b a (fu a b i)=i:=by
 unfold fu;rw[aM (show ¬b<0 by omega),aM (show ¬a<0 by omega)]
 by_cases h1:i=a
 ·rw[aH h1,aH rfl,h1]
 ·rw[aM h1];by_cases h2:a<b/\a<i/\i<=b
  ·rw[aH h2,aM (by omega),aM (by omega),aH (by omega)];omega
  ·rw[aM h2];by_cases h3:b<a/\b<=i/\i<a
   ·rw[aH h3,aM (by omega),aH (by omega)];omega
   ·rw[aM h3,aM (by omega),aM (by omega),aM (by omega)]
def uo {J:Type} (C:List J) (a b:Nat):List J:=(C.take a++C.drop (a+1)).take b++C[a]?.toList++(C.take a++C.drop (a+1)).drop b
def ahY {C:List J} (ha:a<C.length) (i:Nat):(C.take a++C.drop (a+1))[i]? =if i<a then C[i]? else C[i+1]? :=by
 rw[qD,dZ,fE (by omega)]
 split
 ·rename_i h;rw[fa,aH h]
 ·rename_i h;rw[fc];congr 1;omega
def ya {C:List J} (ha:a<C.length):(C.take a++C.drop (a+1)).length=C.length-1:=by simp;omega
def El {C:List J} {b:Nat} (ha:a<C.length) (hb:b<C.length):(uo C a b).length=C.length:=by
 unfold uo;have:=ya ha;rw[gD,gD,dZ,iE,this,dJ ha];simp;omega
def aBF {C:List J} {b q:Nat} (ha:a<C.length) (hb:b<C.length) (hq:q<C.length):(uo C a b)[q]? =C[(fu b a q).toNat]? :=by
 have hd:=ya ha;unfold uo;rw[dJ ha,Kn,qD,gD,dZ,hd,fE (by omega),List.length_singleton]
 unfold fu;rw[aM (show ¬((a:Int)<0) by omega)]
 by_cases h1:q<b
 ·rw[aH (by omega),pD (by rw[dZ,hd];omega),fa,aH h1,ahY ha,aM (show ¬((q:Int)=(b:Int)) by omega)]
  by_cases h2:q<a
  ·rw[aH h2,aM (by omega),aM (by omega)];congr 1
  ·rw[aM h2,aM (by omega),aH (by omega)];congr 1
 ·by_cases h2:q=b
  ·subst h2;rw[aH (by omega),aH rfl,nP (by rw[dZ,hd];omega),dZ,hd,fE (by omega),nR,Kl,dJ ha]
   rfl
  ·rw[aM (by omega),fc,ahY ha,aM (show ¬((q:Int)=(b:Int)) by omega),show b+(q-(b+1))=q-1 by omega]
   by_cases h3:q-1<a
   ·rw[aH h3,aH (by omega)];congr 1;omega
   ·rw[aM h3,aM (by omega),aM (by omega)];congr 1;omega
def aEK {C X:List J} {b:Nat} (ha:a<C.length) (hb:b<C.length) (hl:X.length=C.length) (hx:∀i:Nat,i<C.length->X[(fu a b i).toNat]? =C[i]?):X=uo C a b:=by
 refine DQ λq=> ?_
 by_cases hq:q<C.length
 ·rw[aBF ha hb hq];obtain ⟨i1,i2⟩:=Z5 (a:=(b:Int)) (b:=(a:Int)) (i:=(q:Int)) (n:=(C.length:Int)) (by omega) (by omega) (by omega) (by omega) (by omega) (by omega)
  have h:=hx (fu b a q).toNat (by omega)
  rw[Int.toNat_of_nonneg i1,UB (n:=(C.length:Int)) (by omega) (by omega) (by omega) (by omega) (by omega) (by omega),Kl] at h
  exact h
 ·rw[xt (by omega),xt (by rw[El ha hb];omega)]
def BL (m:aF):Bool:=yl m.aD&&(m.bc.length==0&&(decide (m.av=ByteArray.empty)&&(m.ax==0&&(m.aG==0&&(m.aO==0&&(m.eJ==0&&(decide (m.ar.av=ByteArray.empty)&&(m.ar.ae.length==0&&(m.ar.ay==0&&(m.ar.af.length==0&&m.ar.ak.length==0))))))))))
def zT:aj:=aj.mk ByteArray.empty [] 0 [] []
def On (m:aF):aF:=
 if m.bh=1 then aF.mk m.bh 0 m.aO m.eJ ByteArray.empty 0 zv m.bc m.ar
 else if m.bh=2 then aF.mk m.bh 0 0 m.eJ m.av m.ax zv m.bc m.ar
 else if m.bh=3 then aF.mk m.bh 0 0 0 m.av m.ax m.aD m.bc m.ar
 else if m.bh=4 then aF.mk m.bh 0 0 m.eJ ByteArray.empty m.ax m.aD m.bc m.ar
 else if m.bh=5 then aF.mk m.bh 0 m.aO m.eJ ByteArray.empty m.ax m.aD m.bc m.ar
 else if m.bh=6 then aF.mk m.bh m.aG m.aO m.eJ m.av m.ax m.aD m.bc zT
 else if m.bh=7 then aF.mk m.bh 0 m.aO m.eJ m.av m.ax m.aD m.bc m.ar
 else aF.mk m.bh 0 0 m.eJ m.av m.ax m.aD [] m.ar
def pX (m:aF):Bool:=decide (1<=m.bh)&&(decide (m.bh<=8)&&BL (On m))
def l7 (j:Int) (T:aj):aj:=⟨T.av,T.ae,T.ay,T.af.map λr=>⟨r.ae,fu j (-1) r.aG⟩,T.ak⟩
def H6 (a b:aR):Bool:=(a.ax==b.ax)&&((a.bX==b.bX)&&((decide (a.bB=b.bB))&&true))
def wJ (v:aR) (l:gz):Nat:=l.countP λq=>H6 q.f0 v
def wI (v:aR) (l:gz):Nat:=l.countP λq=>H6 q.f1 v
def wj (k:Int) (l:gz):Bool:=decide (1<=l.length)&&(decide (l.length<=16)&&l.all λp=>jw p.f0&&(p.f0.ax==k&&(wJ p.f0 l==1&&wI p.f0 l==1)))
inductive ld (s:ag) (m:aF):ag->Prop
 |alY (j:Nat) (T:aj) (h:m.bh=1) (hj:m.aG=(j:Int)) (hT:s.ai[j]? =some T) (hv:jw m.aD=true) (hk:m.aD.ax=m.ax):
   ld s m ⟨s.aw+1,s.ai.set j ⟨T.av,T.ae++ [⟨m.av,m.ax⟩],T.ay,T.af,T.ak⟩⟩
 |Xs (j c:Nat) (T:aj) (x:cJ) (h:m.bh=2) (hj:m.aG=(j:Int)) (hT:s.ai[j]? =some T) (hc:m.aO=(c:Int)) (hx:T.ae[c]? =some x) (hk:T.ay<=(c:Int)) (hv:jw m.aD=true) (Bs:m.aD.ax=x.ax) (hu:zS (c:Int) T=false):
   ld s m ⟨s.aw+1,s.ai.set j (qT (fu (c:Int) (-1)) ⟨T.av,T.ae.take c++T.ae.drop (c+1),T.ay,T.af,T.ak⟩)⟩
 |move (j c d:Nat) (T:aj) (h:m.bh=3) (hj:m.aG=(j:Int)) (hT:s.ai[j]? =some T) (hc:m.aO=(c:Int)) (hd:m.eJ=(d:Int)) (h1:c<T.ae.length) (h2:d<T.ae.length) (hk:T.ay<=(c:Int)) (yT:T.ay<=(d:Int)):
   ld s m ⟨s.aw+1,s.ai.set j (qT (fu (c:Int) (d:Int)) ⟨T.av,uo T.ae c d,T.ay,T.af,T.ak⟩)⟩
 |aka (j c:Nat) (T:aj) (x:cJ) (h:m.bh=4) (hj:m.aG=(j:Int)) (hT:s.ai[j]? =some T) (hc:m.aO=(c:Int)) (hx:T.ae[c]? =some x):
   ld s m ⟨s.aw+1,s.ai.set j ⟨T.av,T.ae.set c ⟨m.av,x.ax⟩,T.ay,T.af,T.ak⟩⟩
 |ajX (j:Nat) (T:aj) (h:m.bh=5) (hj:m.aG=(j:Int)) (hT:s.ai[j]? =some T):
   ld s m ⟨s.aw+1,s.ai.set j ⟨m.av,T.ae,T.ay,T.af,T.ak⟩⟩
 |alX (h:m.bh=6):ld s m ⟨s.aw+1,s.ai++ [m.ar]⟩
 |Xr (j:Nat) (T:aj) (h:m.bh=7) (hj:m.aG=(j:Int)) (hT:s.ai[j]? =some T) (hr:∀i U,i≠j->s.ai[i]? =some U->∀r∈U.af,r.aG≠(j:Int)):
   ld s m ⟨s.aw+1,(s.ai.take j++s.ai.drop (j+1)).map (l7 (j:Int))⟩
 |Ed (j c:Nat) (T:aj) (x:cJ) (h:m.bh=8) (hj:m.aG=(j:Int)) (hT:s.ai[j]? =some T) (hc:m.aO=(c:Int)) (hx:T.ae[c]? =some x) (hk:T.ay<=(c:Int)) (hp:wj x.ax m.bc=true) (hu:zS (c:Int) T=false):
   ld s m ⟨s.aw+1,s.ai⟩
def aCG (n:Nat) (m:aF):Ok (VD n m) λr=>r=true->pX m=true:=by
 unfold VD RT;have key:∀q:aF,Ok (qa n q) λr=>r=true->BL q=true:=λq=>by
  unfold qa;refine Ok.ite (λh1=>Ok.ite (λh2=>Ok.ite (λh3=>Ok.ite (λh4=>Ok.ite (λh5=>Ok.ite (λh6=>Ok.ite (λh7=>Ok.ite (λh8=>Ok.ite (λh9=>Ok.ite (λh10=>Ok.ite (λh11=>Ok.pure λh12=> ?_) ?_) ?_) ?_) ?_) ?_) ?_) ?_) ?_) ?_) ?_) ?_
  ·have h12:((q.ar.ak.length:Int)==0)=true:=h12;have e:∀k:Nat,((k:Int)==0)=(k==0):=λk=>by rw[ly];simp
   rw[e] at h7 h9 h11 h12;have h6':yl q.aD=true:=h6;unfold BL;rw[h1,h2,h3,h4,h5,h6',h7,h8,h9,h10,h11,h12];rfl
  all_goals exact λ_=>Ok.pure λh=>by cases h
 have fin:∀q:aF,1<=m.bh->m.bh<=8->q=On m->Ok (qa n q) λr=>r=true->pX m=true:=λq h1 h8 hq=>(key q).mono λr hr h=>by
  unfold pX;rw[<-hq,hr h];simp[h1,h8]
 refine Ok.ite (λh=> ?_) λn1=>Ok.ite (λh=> ?_) λn2=>Ok.ite (λh=> ?_) λn3=>Ok.ite (λh=> ?_) λn4=>Ok.ite (λh=> ?_) λn5=>Ok.ite (λh=> ?_) λn6=>Ok.ite (λh=> ?_) λn7=>Ok.ite (λh=> ?_) λn8=>Ok.pure λh=>by cases h
 all_goals (simp at h;refine fin _ (by omega) (by omega) ?_;unfold On;simp[h,zv,zT])
def aIN (n:Nat) (m:aF) (h:pX m=true):F98 n m=some true:=by
 have key:∀q:aF,BL q=true->wX n q=some true:=λq hq=>by
  unfold BL at hq;simp only[bF,tP,jW] at hq;obtain ⟨a1,a2,a3,a4,a5,a6,a7,a8,a9,a10,a11,a12⟩:=hq;have a1':((q.aD.ax==0)&&((q.aD.bX==0)&&((decide (q.aD.bB=ByteArray.empty))&&true)))=true:=a1;unfold wX Ho;simp only[a1',a2,a3,a4,a5,a6,a7,a8,a9,a10,a11,a12];rfl
 unfold pX at h;simp only[bF,jW] at h;obtain ⟨h1,h8,hb⟩:=h;have hb:=key _ hb;unfold F98 amS;unfold On at hb;rcases (by omega:m.bh=1\/m.bh=2\/m.bh=3\/m.bh=4\/m.bh=5\/m.bh=6\/m.bh=7\/m.bh=8) with e|e|e|e|e|e|e|e<;>(simp[e,zv,zT] at hb;simp[e,hb])
def WG (k:gz->Int->Int->Int->gz->Int->Int->Int->Int->ji->Option Bool) (l:gz) (hl:l.length<=16) (l0:gz) (kind:Int) (t19:gz) (t20 t21 t32 t33:Int) (b6:ji):∀(x:gz) (i m f s:Nat),l.drop i=x->x.length<m->f+x.length<=100->s+x.length<=100->
  Fj k m l0 kind (f:Int) (s:Int) t19 t20 t21 t32 t33 l (l.length:Int) (i:Int) b6=k l0 kind ((f+wJ b6.f0 x:Nat):Int) ((s+wI b6.f0 x:Nat):Int) t19 t20 t21 t32 t33 b6
 | [],i,m+1,f,s,hd,hm,_,_=>by
  have hi:l.length<=i:=by simpa using hd
  have hq:¬((i:Int)<(l.length:Int)):=by omega
  simp[Fj,RC,hq,wJ,wI]
 |q::x,i,m+1,f,s,hd,hm,hf,hs=>by
  obtain ⟨g1,g2,g3⟩:=bC hd;have hq:(i:Int)<(l.length:Int):=by omega
  simp at hm hf hs;have ih:=λf' s' h1 h2=>WG k l hl l0 kind t19 t20 t21 t32 t33 b6 x (i+1) m f' s' g2 (by omega) h1 h2
  have w:∀c:Nat,c<=100->bl ((c:Int)+1)=((c+1:Nat):Int):=λc hc=>by rw[dv (by omega) (by omega)];rfl
  have eF:wJ b6.f0 (q::x)=wJ b6.f0 x+if H6 q.f0 b6.f0=true then 1 else 0:=by simp[wJ,List.countP_cons]
  have eS:wI b6.f0 (q::x)=wI b6.f0 x+if H6 q.f1 b6.f0=true then 1 else 0:=by simp[wI,List.countP_cons]
  have e1:(q.f0.ax==b6.f0.ax&&(q.f0.bX==b6.f0.bX&&(decide (q.f0.bB=b6.f0.bB)&&true)))=H6 q.f0 b6.f0:=rfl;have e2:(q.f1.ax==b6.f0.ax&&(q.f1.bX==b6.f0.bX&&(decide (q.f1.bB=b6.f0.bB)&&true)))=H6 q.f1 b6.f0:=rfl;simp only[Fj,RC,hq,aU,aB,bO,g1,au,e1,RD,e2,bY g3 (by omega),eF,eS]
  cases h1:H6 q.f0 b6.f0<;>cases h2:H6 q.f1 b6.f0
  ·simp only[aC,aA,mZ];exact ih f s (by omega) (by omega)
  ·simp only[aC,aA,aB,mZ,w s (by omega)]
   refine (ih f (s+1) (by omega) (by omega)).trans ?_
   rw[show s+1+wI b6.f0 x=s+(wI b6.f0 x+1) by omega]
  ·simp only[aC,aA,aB,mZ,w f (by omega)]
   refine (ih (f+1) s (by omega) (by omega)).trans ?_
   rw[show f+1+wJ b6.f0 x=f+(wJ b6.f0 x+1) by omega]
  ·simp only[aB,w s (by omega),w f (by omega)]
   refine (ih (f+1) (s+1) (by omega) (by omega)).trans ?_
   rw[show f+1+wJ b6.f0 x=f+(wJ b6.f0 x+1) by omega,show s+1+wI b6.f0 x=s+(wI b6.f0 x+1) by omega]
 |_,_,0,_,_,_,hm,_,_=>by simp at hm
def WE (n0:Nat) (l:gz) (hl:l.length<=16) (kind:Int):∀(x:gz) (i m:Nat),l.drop i=x->x.length+100<m->
  BX (J8 n0) m l kind l (l.length:Int) (i:Int)=some (x.all λp=>jw p.f0&&(p.f0.ax==kind&&(wJ p.f0 l==1&&wI p.f0 l==1)))
 | [],i,m+1,hd,hm=>by
  have hi:l.length<=i:=by simpa using hd
  have hq:¬((i:Int)<(l.length:Int)):=by omega
  simp[BX,RA,hq,J8]
 |p::x,i,m+1,hd,hm=>by
  obtain ⟨g1,g2,g3⟩:=bC hd;have hq:(i:Int)<(l.length:Int):=by omega
  simp at hm;have ih:=WE n0 l hl kind x (i+1) m g2 (by omega)
  have inner:=WG (RB (BX (J8 n0) m) m) l hl l kind l (l.length:Int) (i:Int) p.f0.ax kind p l 0 m 0 0 rfl (by omega) (by omega) (by omega)
  simp only[BX,RA,hq,aU,aB,bO,g1,au,AO,tN];cases hr:jw p.f0 with
  |false=>simp
  |true=>
   by_cases hk:p.f0.ax=kind
   ·have hk1:(p.f0.ax !=kind)=false:=by simpa using hk
    have yT:(p.f0.ax==kind)=true:=by simpa using hk
    simp only[dw,aC,aA,hk1,yT,hZ];refine inner.trans ?_;simp only[RB,cC,bY g3 (by omega:l.length<4294967296)]
    have c1:(((wJ p.f0 l:Nat):Int) !=1)= !(wJ p.f0 l==1):=by rw[ly];simp;omega
    have c2:(((wI p.f0 l:Nat):Int) !=1)= !(wI p.f0 l==1):=by rw[ly];simp;omega
    rw[c1,c2];cases wJ p.f0 l==1
    ·simp
    ·cases wI p.f0 l==1
     ·simp
     ·simp only[dw,aC,aA,hZ];exact ih
   ·have hk1:(p.f0.ax !=kind)=true:=by simpa using hk
    have yT:(p.f0.ax==kind)=false:=by simpa using hk
    simp[hk1,yT]
 |_,_,0,_,hm=>by simp at hm
def aiZ (n:Nat) (l:gz) (kind:Int) (hn:1000<n):amG n l kind=some (wj kind l):=by
 unfold amG aeM wj;by_cases h1:l.length<1
 ·have:(l.length:Int)<1:=by omega
  have h2:¬1<=l.length:=by omega
  simp only[this,aU,aB,h2,aX,gd]
 ·have td:¬(l.length:Int)<1:=by omega
  have h2:1<=l.length:=by omega
  by_cases h3:16<l.length
  ·have:(16:Int)<(l.length:Int):=by omega
   have h4:¬l.length<=16:=by omega
   simp only[td,aX,aC,aA,this,aU,aB,h2,h4,hZ,gd]
  ·have Ji:¬(16:Int)<(l.length:Int):=by omega
   have h4:l.length<=16:=by omega
   simp only[td,Ji,aX,aC,aA,h2,h4,aU,hZ];exact WE n l h4 kind l 0 n rfl (by omega)
def jB {l:List J} {x:J} (h:l[i]? =some x):l.set i x=l:=by
 obtain ⟨h1,h2⟩:=cf.1 h;rw[<-h2,Su]
def NZ (k:ag->aF->ag->ag->br->Option (ag×Bool)) (ts:br) (hl:ts.length<=1000) (ht:∀T∈ts,DG T) (s:ag) (mg:aF):∀(x:br) (i m:Nat) (b4 b6:ag),ts.drop i=x->x.length+4000<m->
  LZ k m ts (ts.length:Int) (i:Int) s mg b4 b6 (ts.take i)=k s mg (ag.mk b4.aw []) (ag.mk b6.aw ts) ts
 | [],i,m+1,b4,b6,hd,hm=>by
  have hi:ts.length<=i:=by simpa using hd
  have hq:¬((i:Int)<(ts.length:Int)):=by omega
  simp only[LZ,XK,hq,aX,aC,aA,kn hi]
 |T::x,i,m+1,b4,b6,hd,hm=>by
  obtain ⟨g1,g2,g3⟩:=bC hd;have hq:(i:Int)<(ts.length:Int):=by omega
  have hT:=ht T (cN g1);simp at hm;have ih:=NZ k ts hl ht s mg x (i+1) m (ag.mk b4.aw []) (ag.mk b6.aw (ts.take (i+1))) g2 (by omega)
  have e1:(ts.take i).length=i:=by simp;omega
  simp only[LZ,XK,hq,aU,aB,bO,g1,au,VC m T hT.len hT.ref (by omega),dI (ts.take i) [T] (by simp;omega),rj g1,bY g3 (by omega)]
  rw[e1,dx _ (by simp;omega),au]
  have e2:(ts.take (i+1)).set i T=ts.take (i+1):=jB (by rw[fa,aH (by omega)];exact g1)
  rw[e2];exact ih
 |_,_,0,_,_,_,hm=>by simp at hm
def NY (k:Nat->aF->ag->ag->cO->br->Option (ag×Bool)) (j:Nat) (mg:aF) (a b:Nat) (ha:mg.aO=(a:Int)) (hb:mg.eJ=(b:Int)) (C:cO) (hl:C.length<=8) (ha':a<C.length) (mQ:b<C.length) (ts:br):∀(x:cO) (i m:Nat) (b4 b6:ag) (X:cO) (rr:aj),C.drop i=x->x.length+100<m->X.length=C.length->(∀q:Nat,q<i->X[(fu a b q).toNat]? =C[q]?)->i<=C.length->
  ∃y7,LY k m j (C.length:Int) (i:Int) mg b4 b6 X C ts rr=((setAt ts j (aj.mk rr.av C rr.ay rr.af rr.ak)).bind λz2=>k j mg y7 (ag.mk b6.aw z2) (uo C a b) z2)
 | [],i,m+1,b4,b6,X,rr,hd,hm,hX,hx,hi=>by
  have sX:C.length<=i:=by simpa using hd
  have hq:¬((i:Int)<(C.length:Int)):=by omega
  have e:=aEK ha' mQ hX λq hq=>hx q (by omega)
  subst e;exact ⟨ag.mk b4.aw [],by simp only[LY,XJ,hq,aX,aC,aA]⟩
 |c::x,i,m+1,b4,b6,X,rr,hd,hm,hX,hx,hi=>by
  obtain ⟨g1,g2,g3⟩:=bC hd;have hq:(i:Int)<(C.length:Int):=by omega
  simp at hm;have hbnd:eZ C.length (i:Int)=some i:=gG g3;obtain ⟨s1,s2⟩:=Z5 (a:=(a:Int)) (b:=(b:Int)) (i:=(i:Int)) (n:=(C.length:Int)) (by omega) (by omega) (by omega) (by omega) (by omega) (by omega)
  have hsh:fu a b i=((fu a b i).toNat:Int):=(Int.toNat_of_nonneg s1).symm;have cV:(fu a b i).toNat<X.length:=by omega
  have Jh:eZ X.length (fu a b i)=some (fu a b i).toNat:=by rw[hsh];exact gG (by simpa using cV)
  have hF:=Mp m (i:Int) (a:Int) (b:Int) (by omega) (by omega) (by omega) (by omega)
  obtain ⟨y7,ih⟩:=NY k j mg a b ha hb C hl ha' mQ ts x (i+1) m (ag.mk b4.aw []) (ag.mk b6.aw ts) (X.set (fu a b i).toNat c) (aj.mk rr.av [] rr.ay rr.af rr.ak) g2 (by omega) (by simpa using hX) (λq oJ=>by
   rw[List.getElem?_set];by_cases he:q=i
   ·subst he;rw[aH rfl,aH cV,g1]
   ·have:(fu a b i).toNat≠(fu a b q).toNat:=λhc=>by
     obtain ⟨q1,q2⟩:=Z5 (a:=(a:Int)) (b:=(b:Int)) (i:=(q:Int)) (n:=(C.length:Int)) (by omega) (by omega) (by omega) (by omega) (by omega) (by omega)
     have h3:fu a b i=fu a b q:=by omega
     have h1:=UB (a:=(a:Int)) (b:=(b:Int)) (i:=(i:Int)) (n:=(C.length:Int)) (by omega) (by omega) (by omega) (by omega) (by omega) (by omega)
     have h2:=UB (a:=(a:Int)) (b:=(b:Int)) (i:=(q:Int)) (n:=(C.length:Int)) (by omega) (by omega) (by omega) (by omega) (by omega) (by omega)
     rw[h3,h2] at h1;omega
    rw[aM this];exact hx q (by omega)) (by omega)
  refine ⟨y7,?_⟩;simp only[LY,XJ,hq,aU,aB,hbnd,au,cC,g1,ha,hb,hF,Jh,dJ cV,dx _ cV,bY g3 (by omega)]
  exact ih
 |_,_,0,_,_,_,_,_,hm,_,_,_=>by simp at hm
def iK (j:Int) (r:bk):bk:=⟨r.ae,fu j (-1) r.aG⟩
def r8 (a:Int) (rs:cA):Bool:=rs.all λr=>r.aG !=a
def acE (k:Int->Int->ag->aF->ag->ag->aj->cO->bN->br->br->aj->Nat->Nat->cA->Option (ag×Bool)) (t299 t300:Int) (s:ag) (mg:aF) (a:Nat) (ha:mg.aG=(a:Int)) (ha8:a<=1000) (cs:cO) (ch:bN) (R cur:br) (j:Nat) (hj:j<cur.length) (rs:cA) (hl:rs.length<=1000) (hr:∀r∈rs,lZ r.aG):∀(x:cA) (i m:Nat) (b4 b6:ag) (nJ rr:aj),rs.drop i=x->x.length<m->
  G7 k m t299 t300 (rs.length:Int) (i:Int) s mg b4 b6 nJ cs ch R cur rr j j (fj (iK a) rs i)=if r8 a x=true then k t299 t300 s mg (ag.mk b4.aw []) (ag.mk b6.aw cur) (aj.mk nJ.av cs nJ.ay (rs.map (iK a)) ch) cs ch R cur (aj.mk rr.av [] rr.ay [] []) j j (rs.map (iK a)) else some (s,false)
 | [],i,m+1,b4,b6,nJ,rr,hd,hm=>by
  have hi:rs.length<=i:=by simpa using hd
  have hq:¬((i:Int)<(rs.length:Int)):=by omega
  simp[G7,Qv,hq,rC _ _ hi,r8]
 |r::x,i,m+1,b4,b6,nJ,rr,hd,hm=>by
  obtain ⟨g1,g2,g3⟩:=bC hd;have hq:(i:Int)<(rs.length:Int):=by omega
  have jA:=hr r (cN g1);have ih:=acE k t299 t300 s mg a ha ha8 cs ch R cur j hj rs hl hr x (i+1) m (ag.mk b4.aw []) (ag.mk b6.aw cur) (aj.mk nJ.av cs nJ.ay (fj (iK a) rs (i+1)) ch) (aj.mk rr.av [] rr.ay [] []) g2 (by simp at hm;omega)
  have hb:eZ (fj (iK a) rs i).length (i:Int)=some i:=gG (by rw[kz];exact g3)
  have e:r8 (a:Int) (r::x)=(r.aG !=(a:Int)&&r8 a x):=by simp[r8]
  have hs:(fj (iK a) rs i).set i (bk.mk r.ae (fu a (-1) r.aG))=fj (iK a) rs (i+1):=rB (iK a) g1;rw[e];by_cases h:r.aG=(a:Int)
  ·have h1:(r.aG==(a:Int))=true:=by simpa using h
   have h2:(r.aG !=(a:Int))=false:=by simpa using h
   simp only[G7,Qv,hq,aU,aB,hb,au,cC,lW _ g1,ha,h1,show lJ j j=some () by unfold lJ;rw[aH rfl],dx _ hj,h2,gd,aC,aA]
  ·have h1:(r.aG==(a:Int))=false:=by simpa using h
   have h2:(r.aG !=(a:Int))=true:=by simpa using h
   simp only[G7,Qv,hq,aU,aB,hb,au,cC,lW _ g1,ha,h1,h2,hZ,aC,aA,Mp m r.aG (a:Int) (-1) jA.1 jA.2 (by omega) (by omega),dx _ (show i<(fj (iK a) rs i).length by rw[kz];exact g3),hs,bY g3 (by omega)]
   exact ih
 |_,_,0,_,_,_,_,_,hm=>by simp at hm
def pj (a:Nat) (ts:br):br:=ts.take a++ts.drop (a+1)
def ars {T:aj} (h:ts[i]? =some T) (cY:i≠a):pj a (ts.take i)++ [T]=pj a (ts.take (i+1)):=by
 unfold pj;rw[vy,h,Kn];have hl:=(cf.1 h).1;by_cases hi:i<a
 ·rw[kn (by simp;omega),po (by simp;omega),kn (l:=ts.take i++ [T]) (by simp;omega),po (l:=ts.take i++ [T]) (by simp;omega)]
  simp
 ·rw[age (by simp;omega),agd (by simp;omega),lu]
def art:pj a (ts.take (a+1))=pj a (ts.take a):=by
 unfold pj;rw[oB,oB,fE (by omega),Nat.min_self,po (by simp;omega),po (by simp;omega)]
def yI (a:Nat) (ts:br) (i:Nat):Prop:=∀q U,q<i->q≠a->ts[q]? =some U->r8 a U.af=true
def G6 {P:ag×Bool->Prop} (k:ag->ag->br->br->Nat->Option (ag×Bool)) (s:ag) (mg:aF) (a:Nat) (ha:mg.aG=(a:Int)) (ha8:a<=1000) (ts:br) (hl:ts.length<=1000) (ht:∀T∈ts,T.af.length<=1000/\∀r∈T.af,lZ r.aG) (v:Int) (hP:¬yI a ts ts.length->P (s,false))
  (hk:∀b4 iV cur g,yI a ts ts.length->Ok (k b4 (ag.mk v iV) ((pj a ts).map (l7 a)) cur g) P):∀(x:br) (i m:Nat) (b4:ag) (tt cur:br),ts.drop i=x->x.length+2000<m->cur.length=ts.length->(∀q,i<=q->cur[q]? =ts[q]?)->yI a ts i->
  Ok (C4 k m (ts.length:Int) (i:Int) s mg b4 (ag.mk v tt) ((pj a (ts.take i)).map (l7 a)) cur i) P
 | [],i,m+1,b4,tt,cur,hd,hm,hc,hcq,uq=>by
  have hi:ts.length<=i:=by simpa using hd
  have hq:¬((i:Int)<(ts.length:Int)):=by omega
  simp only[C4,Qu,hq,aX,aC,aA,kn hi];refine hk _ _ _ _ λq U h1 h2 h3=>uq q U (by omega) h2 h3
 |T::x,i,m+1,b4,tt,cur,hd,hm,hc,hcq,uq=>by
  obtain ⟨g1,g2,g3⟩:=bC hd;have hq:(i:Int)<(ts.length:Int):=by omega
  simp at hm;have hT:=ht T (cN g1);have hb:eZ cur.length (i:Int)=some i:=gG (by omega)
  have Du:cur[i]? =some T:=(hcq i (dg _)).trans g1;have wB:i<cur.length:=by omega
  have hsj:lJ i i=some ():=by unfold lJ;rw[aH rfl]
  by_cases h:i=a
  ·have h1:((i:Int)==mg.aG)=true:=by rw[ha,h];exact im _
   have ih:=G6 k s mg a ha ha8 ts hl ht v hP hk x (i+1) m (ag.mk b4.aw []) (cur.set i (aj.mk T.av [] T.ay [] [])) (cur.set i (aj.mk T.av [] T.ay [] [])) g2 (by omega) (by simpa using hc) (λq oJ=>by rw[xp (by omega)];exact hcq q (by omega)) (λq U h1 h2 h3=>uq q U (by omega) h2 h3)
   rw[show pj a (ts.take (i+1))=pj a (ts.take i) by subst h;exact art] at ih
   simp only[C4,Qu,hq,aU,aB,hb,au,cC,Du,hsj,h1,dx _ wB,Ms,bY g3 (by omega:ts.length<4294967296)]
   exact ih
  ·have h1:((i:Int)==mg.aG)=false:=by rw[ha];exact Sw (by omega)
   have inner:=acE (XI (Ms (C4 k m) m) m) (ts.length:Int) (i:Int) s mg a ha ha8 T.ae T.ak ((pj a (ts.take i)).map (l7 a)) cur i wB T.af hT.1 hT.2 T.af 0 m (ag.mk b4.aw []) (ag.mk v cur) T (aj.mk T.av [] T.ay [] []) rfl (by omega)
   rw[wm] at inner;simp only[C4,Qu,hq,aU,aB,hb,au,cC,Du,hsj,h1,aC,aA];rw[show (0:Int)=((0:Nat):Int) from rfl,inner];by_cases hn:r8 a T.af=true
   ·rw[aH hn];have uv:((pj a (ts.take i)).map (l7 a)).length<=1000:=by
     have:(pj a (ts.take i)).length<=ts.length:=by unfold pj;simp;omega
     simpa using (by omega:(pj a (ts.take i)).length<=1000)
    have es:((pj a (ts.take i)).map (l7 a)++ [aj.mk T.av T.ae T.ay (T.af.map (iK a)) T.ak])=(pj a (ts.take (i+1))).map (l7 a):=by
     rw[<-ars g1 h,mw];rfl
    have ih:=G6 k s mg a ha ha8 ts hl ht v hP hk x (i+1) m (ag.mk b4.aw []) (cur.set i (aj.mk T.av [] T.ay [] [])) (cur.set i (aj.mk T.av [] T.ay [] [])) g2 (by omega) (by simpa using hc) (λq oJ=>by rw[xp (by omega)];exact hcq q (by omega)) (λq U h1 h2 h3=>by
     by_cases he:q=i
     ·subst he;rw[g1] at h3;cases h3;exact hn
     ·exact uq q U (by omega) h2 h3)
    unfold XI;rw[dI _ _ (by simp at uv ⊢;omega),au,dx _ (by simp),au,hsj,au,dx _ wB,au]
    rw[jB (l:=(pj a (ts.take i)).map (l7 a)++ [aj.mk T.av T.ae T.ay (T.af.map (iK a)) T.ak]) (by simp)]
    simp only[Ms,bY g3 (by omega:ts.length<4294967296)]
    rw[es];exact ih
   ·rw[aM hn];exact Ok.pure (hP λhh=>hn (hh i T g3 h g1))
 |_,_,0,_,_,_,_,hm,_,_,_=>by simp at hm
structure MB (m:aF):Prop where
 CM:lZ m.aO
 to:lZ m.eJ
 dfn:DG m.ar
def avS (n:Nat) (hn:1600000<n) (fN:n<4294967296) (b4 b6:ag) (ts:br) (h:∀T∈ts,w6 T):Ok (l9 n b4 b6 ts) λr=>r.1=⟨b6.aw,ts⟩/\(r.2=true->gy r.1=0):=by
 unfold l9;rw[FD n ⟨b6.aw,ts⟩ h hn fN,au];exact Ok.pure ⟨rfl,λh=>by simpa using h⟩
def sw {j:Nat} {T:aj} (h:∀U∈ts,w6 U) (hT:w6 T):∀U∈ts.set j T,w6 U:=λU hU=>by
 rcases YB hU with h1|rfl
 ·exact h U h1
 ·exact hT
def Kv {T:aj} (h:w6 T):w6 (qT f T):=λp hp=>by
 obtain ⟨q,hq,rfl⟩:=cP.1 hp;rw[ahJ];exact h q hq
def TG.wa {k:Nat} {T:aj} (h:TG k T):w6 T:=λp hp=>by have:=(h.jH p hp).2;omega
def Ok.of_eq {x y:Option J} {P:J->Prop} (h:x=y) (k:Ok y P):Ok x P:=h ▸ k
def bool_and {a b:Bool} (h:(a&&b)=true):a=true/\b=true:=(bF _ _).mp h
def avR (n:Nat) (hn:1700000<n) (fN:n<4294967296) (s:ag) (hs:SG s) (m:aF) (hm:MB m) (h1:1<=m.bh) (h8:m.bh<=8) (h6:m.bh≠6) (j:Nat) (T:aj) (hj:m.aG=(j:Int)) (hT:s.ai[j]? =some T) (b4 b6:ag) (hv:b6.aw=s.aw+1):
  Ok (uj n j (T.ae.length:Int) (decide (T.ay<=m.aO)&&decide (m.aO<(T.ae.length:Int))) s m b4 b6 s.ai) λr=>r.2=true->ld s m r.1/\gy r.1=0:=by
 have fS:=(cf.1 hT).1;have hG:=hs.cy T (cN hT);have gS:∀U∈s.ai,w6 U:=λU hU=>(hs.cy U hU).wa
 have hc8:=hG.cols;have hk1:=hG.Dn;have no:Ok (some (s,false):Option (ag×Bool)) λr=>r.2=true->ld s m r.1/\gy r.1=0:=Ok.pure λh=>by cases h
 have done:∀(b4:ag) (vv:ag) (ts:br),vv.aw=s.aw+1->(∀U∈ts,w6 U)->ld s m ⟨s.aw+1,ts⟩->Ok (l9 n b4 vv ts) λr=>r.2=true->ld s m r.1/\gy r.1=0:=λb4 vv ts h2 h3 h4=>
  (avS n (by omega) fN b4 vv ts h3).mono λr ⟨e,hr⟩ h=>⟨by rw[e,h2];exact h4,hr h⟩
 have iN:setAt s.ai j T=some s.ai:=by rw[dx _ fS,jB hT]
 unfold uj;refine Ok.ite (λq=> ?_) λq1=> ?_
 ·have q:m.bh=1:=by simpa using q
  rw[AO,au];refine Ok.ite (λ_=>no) λhr=>Ok.ite (λ_=>no) λhk=> ?_
  have hr:jw m.aD=true:=by simpa using hr
  have hk:m.aD.ax=m.ax:=by simpa using hk
  rw[hT,au,dI _ _ (by simp;omega),au,dx _ fS,au]
  exact done _ _ _ hv (sw gS hG.wa) (.alY j T q hj hT hr hk)
 refine Ok.ite (λq=> ?_) λq2=> ?_
 ·have q:m.bh=2:=by simpa using q
  rw[hT,au];refine Ok.ite (λ_=>by rw[iN,au];exact no) λho=> ?_
  have ho:(decide (T.ay<=m.aO)&&decide (m.aO<(T.ae.length:Int)))=true:=by
   cases hh:(decide (T.ay<=m.aO)&&decide (m.aO<(T.ae.length:Int))) with
   |true=>rfl
   |false=>rw[hh] at ho;cases ho
  obtain ⟨o1,o2⟩:=bool_and ho;have o1:=ru o1;have o2:=ru o2;obtain ⟨c,hc⟩:∃c:Nat,m.aO=(c:Int):=⟨m.aO.toNat,by omega⟩
  have eA:c<T.ae.length:=by omega
  have hx:T.ae[c]? =some T.ae[c]:=dJ eA;rw[AO,au];refine Ok.ite (λ_=>by rw[iN,au];exact no) λhr=> ?_
  have hr:jw m.aD=true:=by simpa using hr
  rw[hc,gG eA,au,cC,hx,au];refine Ok.ite (λ_=>by rw[iN,au];exact no) λhk=> ?_
  have hk:m.aD.ax=T.ae[c].ax:=by simpa using hk
  rw[Mn n T (c:Int) (by omega) hG.cp (by omega),au]
  refine Ok.ite (λ_=>by rw[iN,au];exact no) λhu=> ?_
  rw[iN,au,hT,au];have w:bl ((c:Int)+1)=((c+1:Nat):Int):=bY eA (by omega)
  have ct:tD T.ae.length (c:Int)=some c:=by unfold tD;rw[aH ⟨by omega,by omega⟩];rfl
  have cl:BI T.ae.length ((c+1:Nat):Int)=some (c+1):=by unfold BI;rw[aH ⟨by omega,by omega⟩];rfl
  have an:G1 T.ae c ((T.ae.drop (0+(c+1))).take (T.ae.length-(c+1)))=some (T.ae.take c++T.ae.drop (c+1)):=by
   unfold G1;rw[cC,kn (l:=T.ae.drop (c+1)) (by simp),aH ⟨by omega,by omega,by simp;omega⟩]
  rw[w,ct,au,cl,au,an,au];have tok:TOK (T.ae.length:Int) ⟨T.av,T.ae.take c++T.ae.drop (c+1),T.ay,T.af,T.ak⟩:=⟨by rw[ya eA];omega,hG.tok.refs,hG.tok.ref,hG.tok.zu,hG.tok.jH⟩
  rw[Mm n _ (T.ae.length:Int) (by omega) tok (c:Int) (-1) ⟨by omega,by omega⟩ (by omega),au,dx _ fS,au]
  exact done _ _ _ hv (sw gS (Kv (T:=⟨T.av,T.ae.take c++T.ae.drop (c+1),T.ay,T.af,T.ak⟩) hG.wa)) (.Xs j c T T.ae[c] q hj hT hc hx (by omega) hr hk hu)
 refine Ok.ite (λq=> ?_) λq3=> ?_
 ·have q:m.bh=3:=by simpa using q
  refine Ok.ite (λ_=>no) λho=> ?_
  have ho:(decide (T.ay<=m.aO)&&decide (m.aO<(T.ae.length:Int)))=true:=by
   cases hh:(decide (T.ay<=m.aO)&&decide (m.aO<(T.ae.length:Int))) with
   |true=>rfl
   |false=>rw[hh] at ho;cases ho
  obtain ⟨o1,o2⟩:=bool_and ho;have o1:=ru o1;have o2:=ru o2;rw[hT,au];refine Ok.ite (λ_=>no) λhk=>Ok.ite (λ_=>no) λhl=> ?_
  have hk:=FV hk;have hl:m.eJ<(T.ae.length:Int):=by simpa using hl
  obtain ⟨c,hc⟩:∃c:Nat,m.aO=(c:Int):=⟨m.aO.toNat,by omega⟩
  obtain ⟨d,hd⟩:∃d:Nat,m.eJ=(d:Int):=⟨m.eJ.toNat,by omega⟩
  have eA:c<T.ae.length:=by omega
  have sg:d<T.ae.length:=by omega
  have abx:rz (T.ae.length:Int) ((cJ.mk ByteArray.empty 0):cJ)=some (List.replicate T.ae.length (cJ.mk ByteArray.empty 0)):=by
   unfold rz;rw[aH ⟨by omega,by omega⟩];rfl
  rw[abx,au,au];obtain ⟨y7,e⟩:=NY (Mu (l9 n) n) j m c d hc hd T.ae hc8 eA sg s.ai T.ae 0 n (ag.mk b4.aw []) (ag.mk b6.aw s.ai) (List.replicate T.ae.length (cJ.mk ByteArray.empty 0)) (aj.mk T.av [] T.ay T.af T.ak) rfl (by omega) (by simp) (λq hq=>by omega) (by omega)
  refine Ok.of_eq e ?_;rw[iN,au];unfold Mu;have tok:TOK (T.ae.length:Int) ⟨T.av,uo T.ae c d,T.ay,T.af,T.ak⟩:=⟨by rw[El eA sg];omega,hG.tok.refs,hG.tok.ref,hG.tok.zu,hG.tok.jH⟩
  rw[hT,au,Mm n _ (T.ae.length:Int) (by omega) tok m.aO m.eJ hm.CM (by omega),au,dx _ fS,au]
  refine done _ _ _ hv (sw gS (Kv (T:=⟨T.av,uo T.ae c d,T.ay,T.af,T.ak⟩) hG.wa)) ?_;have:=ld.move (s:=s) (m:=m) j c d T q hj hT hc hd eA sg (by omega) (by omega)
  rw[<-hc,<-hd] at this;exact this
 refine Ok.ite (λq=> ?_) λq4=> ?_
 ·have q:m.bh=4:=by simpa using q
  refine Ok.ite (λ_=>no) λhk=>Ok.ite (λ_=>no) λhl=> ?_
  have hk:=FV hk;have hl:m.aO<(T.ae.length:Int):=by simpa using hl
  obtain ⟨c,hc⟩:∃c:Nat,m.aO=(c:Int):=⟨m.aO.toNat,by omega⟩
  have eA:c<T.ae.length:=by omega
  have hx:T.ae[c]? =some T.ae[c]:=dJ eA;rw[hT,au,hc,gG eA,au,cC,hx,au,dx _ eA,au,dx _ fS,au];exact done _ _ _ hv (sw gS hG.wa) (.aka j c T T.ae[c] q hj hT hc hx)
 refine Ok.ite (λq=> ?_) λq5=> ?_
 ·have q:m.bh=5:=by simpa using q
  rw[hT,au,dx _ fS,au];exact done _ _ _ hv (sw gS hG.wa) (.ajX j T q hj hT)
 refine Ok.ite (λq=> ?_) λq7=> ?_
 ·have q:m.bh=7:=by simpa using q
  have hl8:=hs.len;have aug:yI j s.ai 0:=λq U h=>by omega
  have key:=G6 (P:=λr=>r.2=true->ld s m r.1/\gy r.1=0) (Mr (l9 n) n) s m j hj (by omega) s.ai (by omega) (λU hU=>⟨by have:=(hs.cy U hU).refs;omega,λr hr=>by obtain ⟨_,_,r1,r2⟩:=(hs.cy U hU).ref r hr;exact ⟨by omega,by omega⟩⟩) b6.aw (λ_ h=>by cases h) (λy7 iV cur g uq=>by
  unfold Mr;refine done _ _ _ hv (λU hU=> ?_) ?_
  ·obtain ⟨V,hV,rfl⟩:=cP.1 hU;have hV':V∈s.ai:=by
    rcases eO.1 hV with h|h
    ·exact qC h
    ·exact pE h
   exact gS V hV'
  ·refine .Xr j T q hj hT λi U hi hU r hr=> ?_
   have:=uq i U (cf.1 hU).1 hi hU;unfold r8 at this;rw[iT] at this;have:=this r hr;simpa using this) s.ai 0 n (ag.mk b4.aw []) s.ai s.ai rfl (by omega) rfl (λ_ _=>rfl) aug
  rw[show (pj j (s.ai.take 0)).map (l7 (j:Int))= [] by simp[pj]] at key
  exact key
 ·have q:m.bh=8:=by simp at q1 q2 q3 q4 q5 q7;omega
  rw[hT,au];refine Ok.ite (λ_=>by rw[iN,au];exact no) λho=> ?_
  have ho:(decide (T.ay<=m.aO)&&decide (m.aO<(T.ae.length:Int)))=true:=by
   cases hh:(decide (T.ay<=m.aO)&&decide (m.aO<(T.ae.length:Int))) with
   |true=>rfl
   |false=>rw[hh] at ho;cases ho
  obtain ⟨o1,o2⟩:=bool_and ho;have o1:=ru o1;have o2:=ru o2;obtain ⟨c,hc⟩:∃c:Nat,m.aO=(c:Int):=⟨m.aO.toNat,by omega⟩
  have eA:c<T.ae.length:=by omega
  have hx:T.ae[c]? =some T.ae[c]:=dJ eA;rw[hc,gG eA,au,cC,hx,au,aiZ n m.bc _ (by omega),au]
  refine Ok.ite (λ_=>by rw[iN,au];exact no) λhp=> ?_
  rw[Mn n T (c:Int) (by omega) hG.cp (by omega),au]
  refine Ok.ite (λ_=>by rw[iN,au];exact no) λhu=> ?_
  rw[iN,au];exact done _ _ _ hv gS (.Ed j c T T.ae[c] q hj hT hc hx (by omega) (by simpa using hp) hu)
def aIO (n:Nat) (hn:1700000<n) (fN:n<4294967296) (s:ag) (hs:SG s) (m:aF) (hm:MB m):Ok (F95 n s m) λr=>r.2=true->pX m=true/\ld s m r.1/\gy r.1=0:=by
 have no:Ok (some (s,false):Option (ag×Bool)) λr=>r.2=true->pX m=true/\ld s m r.1/\gy r.1=0:=Ok.pure λh=>by cases h
 have hl8:=hs.len;have hv0:=hs.v0;have pO:=hs.v1;unfold F95 Qw;refine Ok.bind (aCG n m) λb hb=>Ok.ite (λ_=>no) λmQ=> ?_
 have uv:=hb (by simpa using mQ)
 have e:=NZ (zc n) s.ai (by omega) (λT hT=>(hs.cy T hT).cp) s m s.ai 0 n (ag.mk 0 []) (ag.mk (bl (s.aw+1)) []) rfl (by omega)
 refine Ok.of_eq e ?_;rw[dv (by omega) (by omega)]
 have h18:1<=m.bh/\m.bh<=8:=by
  unfold pX at uv;simp only[bF,jW] at uv;exact ⟨uv.1,uv.2.1⟩
 unfold zc;refine Ok.ite (λq=> ?_) λq6=>Ok.ite (λ_=>no) λt0=>Ok.ite (λ_=>no) λt1=> ?_
 ·have q:m.bh=6:=by simpa using q
  rw[VC n m.ar hm.dfn.len hm.dfn.ref (by omega),au,dI _ _ (by simp;omega),au,dx _ (by simp),au,jB (by simp)]
  have hz:∀T∈s.ai++ [m.ar],w6 T:=λT hT=>by
   rcases eO.1 hT with h|h
   ·exact (hs.cy T h).wa
   ·rw[ez.1 h];exact λp hp=>by have:=hm.dfn.jH p hp;omega
  rw[FD n ⟨s.aw+1,s.ai++ [m.ar]⟩ hz (by omega) fN,au]
  exact Ok.pure λh=>⟨uv,.alX q,by simpa using h⟩
 ·have q6:m.bh≠6:=by simpa using q6
  have t0:=FV t0;have t1:m.aG<(s.ai.length:Int):=by simpa using t1
  obtain ⟨j,hj⟩:∃j:Nat,m.aG=(j:Int):=⟨m.aG.toNat,by omega⟩
  have fS:j<s.ai.length:=by omega
  have hT:s.ai[j]? =some s.ai[j]:=dJ fS;rw[hj,gG fS,au,cC,hT,au];have fin:=λb4 b6 hv=>avR n hn fN s hs m hm h18.1 h18.2 q6 j s.ai[j] hj hT b4 b6 hv
  have iN:setAt s.ai j s.ai[j]=some s.ai:=by rw[dx _ fS,jB hT]
  refine Ok.ite (λhk=> ?_) λhk=> ?_
  ·have hk:s.ai[j].ay<=m.aO:=by simpa using hk
   rw[iN,au];have:=fin (ag.mk 0 []) (ag.mk (s.aw+1) s.ai) rfl;rw[rV hk,hZ] at this;exact this.mono λr hr h=>⟨uv,hr h⟩
  ·have hk:¬s.ai[j].ay<=m.aO:=by simp at hk;omega
   rw[iN,au];have:=fin (ag.mk 0 []) (ag.mk (s.aw+1) s.ai) rfl;rw[YD hk,gd] at this;exact this.mono λr hr h=>⟨uv,hr h⟩
section
mutual
def Pt {N:Int} {f g:Int->Int}:∀{p:ah},pS N p=true->(∀x,0<=x->x<N->oP x p=true->f x=g x)->lX f p=lX g p
 |⟨op,c,l,r,args⟩,hp,h=>by
  simp only[pS,bF] at hp;obtain ⟨qm,hp2⟩:=hp;have ha:=MN hp2 λx h0 h1 h2=>h x h0 h1 (by simp[oP,h2])
  simp only[lX,ha];by_cases h3:op=3
  ·subst h3;simp only[im,aB,bF] at qm;have ho:∀o:aT,zl N o=true->(∀x,oQ x o=true->oP x ⟨3,c,l,r,args⟩=true)->j1 f o=j1 g o:=λo ho hc=>by
    unfold j1;split
    ·rename_i hk;have jP:o.ax=1:=by simpa using hk
     simp[zl,jP] at ho;rw[h o.cQ ho.1 ho.2 (hc _ (by simp[oQ,jP]))]
    ·rfl
   rw[ho l qm.1 λx hx=>by simp[oP,hx],ho r qm.2 λx hx=>by simp[oP,hx]]
  ·have cY:(op==3)=false:=by simpa using h3
   rw[cY] at qm;simp at qm;rw[vO qm.1,vO qm.1,vO qm.2,vO qm.2]
def MN {N:Int} {f g:Int->Int}:∀{xs:bN},ID N xs=true->(∀x,0<=x->x<N->pU x xs=true->f x=g x)->iR f xs=iR g xs
 | [],_,_=>by simp[iR]
 |p::xs,hp,h=>by
  simp only[ID,bF] at hp;simp only[iR,Pt hp.1 λx h0 h1 h2=>h x h0 h1 (by simp[pU,h2]),MN hp.2 λx h0 h1 h2=>h x h0 h1 (by simp[pU,h2])]
end
def Ps {N:Int} {g:Int->Int} {T:aj} (hr:∀r∈T.af,∀c∈r.ae,f c=g c) (hp:∀p∈T.ak,pS N p=true/\∀x,0<=x->x<N->oP x p=true->f x=g x):qT f T=qT g T:=by
 unfold qT;have e1:T.af.map (gN f)=T.af.map (gN g):=DN λr h=>by
  unfold gN;rw[DN λc hc=>hr r h c hc]
 have e2:T.ak.map (lX f)=T.ak.map (lX g):=DN λp h=>Pt (hp p h).1 (hp p h).2
 rw[e1,e2]
def Vy (n:Nat) (v:aR) (k:Int):Vz n v k=some (jw v&&v.ax==k):=by
 unfold Vz aej;rw[aiV,au];cases jw v<;>simp
def NN {C:List J} {c:Nat} (h:c<C.length):Vi C (c:Int) ((c+1:Nat):Int)=some (C.take c++C.drop (c+1),C.take c++C.drop (c+1)):=by
 unfold Vi;rw[aH ⟨by omega,by omega,by omega⟩]
 rfl
section
variable {n:Nat} {s:ag} {m:aF} {j:Nat} {T:aj}
def aCF (hs:SG s) (hj:m.aG=(j:Int)) (hT:s.ai[j]? =some T) (v:Int) (hv:jw m.aD=true) (hk:m.aD.ax=m.ax):adD n (aE.mk (ag.mk v s.ai) m)=some (true,aE.mk (ag.mk v (s.ai.set j ⟨T.av,T.ae++ [⟨m.av,m.ax⟩],T.ay,T.af,T.ak⟩)) m):=by
 have fS:=(cf.1 hT).1;have hG:=hs.cy T (cN hT);have h8:=hG.cols;unfold adD aeK;rw[FE n v s.ai m j hj fS,au];simp only[hT,au,dI T.ae [(⟨m.av,m.ax⟩:cJ)] (by simp;omega),Vy,hv,hk,im,hZ,dx _ fS]
def aCE (hs : SG s) (hj : m.aG = (j : Int)) (hT : s.ai[j]? = some T) (v : Int) (eP : m.bh = 2) (c : Nat) (x : cJ) (hc : m.aO = (c : Int)) (hx : T.ae[c]? = some x) (hk : T.ay <= (c : Int)) (hv : jw m.aD = true) (Bs : m.aD.ax = x.ax) (hu : zS (c : Int) T = false) (hn : 100000 < n) :
    adC n (aE.mk (ag.mk v s.ai) m) = some (true, aE.mk (ag.mk v (s.ai.set j (qT (fu (c : Int) (-1)) ⟨T.av, T.ae.take c ++ T.ae.drop (c + 1), T.ay, T.af, T.ak⟩))) m) := by
  have fS := (cf.1 hT).1
  have eA := (cf.1 hx).1
  have hG := hs.cy T (cN hT)
  have h8 := hG.cols
  have iN : setAt s.ai j T = some s.ai := by rw [dx _ fS, jB hT]
  have Jj := Ml n v s.ai m j T hj hT m.aO
  rw [hc, rV hk, rV (show (c : Int) < (T.ae.length : Int) by omega)] at Jj
  have abD := aiM n v s.ai m j T hj hT (by omega) hG.cp (by omega)
  rw [hc, hu] at abD
  have w : bl ((c : Int) + 1) = ((c + 1 : Nat) : Int) := bY eA (by omega)
  unfold adC aeJ
  rw [FE n v s.ai m j hj fS, au]
  simp only [hT, au, iN, hc, Jj, ow, dw, aC, aA, gG eA, cC, hx, Vy, hv, Bs, im, abD, w]
  rw [show adn n T.ae (c : Int) ((c + 1 : Nat) : Int) = some (T.ae.take c ++ T.ae.drop (c + 1), T.ae.take c ++ T.ae.drop (c + 1)) from NN eA, au]
  simp only [dx _ fS, au]
  have tok : TOK (T.ae.length : Int) ⟨T.av, T.ae.take c ++ T.ae.drop (c + 1), T.ay, T.af, T.ak⟩ := ⟨by rw [ya eA]; omega, hG.tok.refs, hG.tok.ref, hG.tok.zu, hG.tok.jH⟩
  rw [aiL n v _ m j _ hj (pr fS) (.inl eP) (by rw [hc]; exact ⟨by omega, by omega⟩) (T.ae.length : Int) (by omega) tok (by omega), au, vz]
  have se : qq (c : Int) T.af = false /\ qt (c : Int) T.ak = false := by
    unfold zS at hu; exact Bool.or_eq_false_iff.1 hu
  have at2 : ∀ y : Int, 0 <= y -> y ≠ (c : Int) -> j5 m y = fu (c : Int) (-1) y := λy h0 h1 => by
    unfold j5 fu
    rw [aH eP, hc, aM (show ¬ y < 0 by omega), aM h1, aH (show (-1 : Int) < 0 by omega)]
  have hmt : qT (j5 m) ⟨T.av, T.ae.take c ++ T.ae.drop (c + 1), T.ay, T.af, T.ak⟩ = qT (fu (c : Int) (-1)) ⟨T.av, T.ae.take c ++ T.ae.drop (c + 1), T.ay, T.af, T.ak⟩ := by
   refine Ps (N := (T.ae.length : Int)) (λr hr y hy => ?_) λp hp => ⟨(hG.jH p hp).1, λy h0 h1 h2 => ?_⟩
   · refine at2 y ((hG.ref r hr).2.1 y hy).1 λe => ?_
     have h3 := se.1
     unfold qq at h3
     rw [List.any_eq_false] at h3
     exact h3 r hr (by rw [<- e]; exact rV hy)
   · refine at2 y h0 λe => ?_
     have h3 := se.2
     unfold qt at h3
     rw [List.any_eq_false] at h3
     exact h3 p hp (by rw [<- e]; exact h2)
  rw [hmt]
def aCD (hs:SG s) (hj:m.aG=(j:Int)) (hT:s.ai[j]? =some T) (v:Int) (eP:m.bh=3) (c d:Nat) (hc:m.aO=(c:Int)) (hd:m.eJ=(d:Int)) (h1:c<T.ae.length) (h2:d<T.ae.length) (hk:T.ay<=(c:Int)) (yT:T.ay<=(d:Int)) (hn:100000<n):
  adB n (aE.mk (ag.mk v s.ai) m)=some (true,aE.mk (ag.mk v (s.ai.set j (qT (fu (c:Int) (d:Int)) ⟨T.av,uo T.ae c d,T.ay,T.af,T.ak⟩))) m):=by
 have fS:=(cf.1 hT).1;have hG:=hs.cy T (cN hT);have h8:=hG.cols;have hk1:=hG.Dn;have Jj:=Ml n v s.ai m j T hj hT m.aO;rw[hc,rV hk,rV (show (c:Int)<(T.ae.length:Int) by omega)] at Jj
 have axJ:=Ml n v s.ai m j T hj hT m.eJ;rw[hd,rV yT,rV (show (d:Int)<(T.ae.length:Int) by omega)] at axJ
 have w:bl ((c:Int)+1)=((c+1:Nat):Int):=bY h1 (by omega)
 have sg:=ya h1;have hins:abe (T.ae.take c++T.ae.drop (c+1)) (d:Int) [T.ae[c]]=some (uo T.ae c d,uo T.ae c d):=by
  unfold abe;rw[aH ⟨by omega,by omega,by omega,by simp,by omega,by simp⟩]
  unfold uo;rw[dJ h1];rfl
 unfold adB aeI;rw[FE n v s.ai m j hj fS,au];simp only[hc,Jj,au,ow,dw,aC,aA,hd,axJ,hT,gG h1,cC,dJ h1,w];rw[show adn n T.ae (c:Int) ((c+1:Nat):Int)=some (T.ae.take c++T.ae.drop (c+1),T.ae.take c++T.ae.drop (c+1)) from NN h1,au];rw[show avL n (T.ae.take c++T.ae.drop (c+1)) (d:Int) [T.ae[c]]=some (uo T.ae c d,uo T.ae c d) from hins,au];simp only[dx _ fS,au];have tok:TOK (T.ae.length:Int) ⟨T.av,uo T.ae c d,T.ay,T.af,T.ak⟩:=⟨by rw[El h1 h2];omega,hG.tok.refs,hG.tok.ref,hG.tok.zu,hG.tok.jH⟩
 rw[aiL n v _ m j _ hj (pr fS) (.inr eP) (by rw[hc];exact ⟨by omega,by omega⟩) (T.ae.length:Int) (by omega) tok (by omega),au,vz]
 have at3:∀y:Int,0<=y->j5 m y=fu (c:Int) (d:Int) y:=λy h0=>by
  unfold j5 fu;rw[aM (show ¬m.bh=2 by omega),aH eP,hc,hd,aM (show ¬y<0 by omega),aM (show ¬(d:Int)<0 by omega)]
  by_cases e1:y=(c:Int)
  ·rw[aH e1,aH e1]
  ·rw[aM e1,aM e1];by_cases e2:(c:Int)<y/\y<=(d:Int)
   ·rw[aH e2,aH (show (c:Int)<(d:Int)/\(c:Int)<y/\y<=(d:Int) by omega)]
   ·rw[aM e2,aM (show ¬((c:Int)<(d:Int)/\(c:Int)<y/\y<=(d:Int)) by omega)]
    by_cases e3:(d:Int)<=y/\y<(c:Int)
    ·rw[aH e3,aH (show (d:Int)<(c:Int)/\(d:Int)<=y/\y<(c:Int) by omega)]
    ·rw[aM e3,aM (show ¬((d:Int)<(c:Int)/\(d:Int)<=y/\y<(c:Int)) by omega)]
 have hmt:qT (j5 m) ⟨T.av,uo T.ae c d,T.ay,T.af,T.ak⟩=qT (fu (c:Int) (d:Int)) ⟨T.av,uo T.ae c d,T.ay,T.af,T.ak⟩:=Ps (N:=(T.ae.length:Int)) (λr hr y hy=>at3 y ((hG.ref r hr).2.1 y hy).1) λp hp=>⟨(hG.jH p hp).1,λy h0 h1 h2=>at3 y h0⟩
 rw[hmt]
def aCC (hs:SG s) (hj:m.aG=(j:Int)) (hT:s.ai[j]? =some T) (v:Int) (c:Nat) (x:cJ) (hc:m.aO=(c:Int)) (hx:T.ae[c]? =some x):
  adA n (aE.mk (ag.mk v s.ai) m)=some (true,aE.mk (ag.mk v (s.ai.set j ⟨T.av,T.ae.set c ⟨m.av,x.ax⟩,T.ay,T.af,T.ak⟩)) m):=by
 have fS:=(cf.1 hT).1;have eA:=(cf.1 hx).1;unfold adA aeH;rw[FE n v s.ai m j hj fS,au];have q1:¬((c:Int)<0):=by omega
 have q2:(c:Int)<(T.ae.length:Int):=by omega
 simp only[hT,au,hc,q1,q2,aX,aU,dw,aC,aA,gG eA,cC,hx,dx _ eA,dx _ fS]
def aCB (hj:m.aG=(j:Int)) (hT:s.ai[j]? =some T) (v:Int):
  adz n (aE.mk (ag.mk v s.ai) m)=some (true,aE.mk (ag.mk v (s.ai.set j ⟨m.av,T.ae,T.ay,T.af,T.ak⟩)) m):=by
 have fS:=(cf.1 hT).1;unfold adz aeG;rw[FE n v s.ai m j hj fS,au];simp only[hT,au,dx _ fS]
def aCA (hs:SG s) (hm:MB m) (v:Int) (hn:100000<n):
  ady n (aE.mk (ag.mk v s.ai) m)=some (true,aE.mk (ag.mk v (s.ai++ [m.ar])) m):=by
 have h8:=hs.len;unfold ady aeF;rw[arZ n m.ar hm.dfn.len hm.dfn.ref hm.dfn.jH (by omega),au]
 simp only[dI s.ai [m.ar] (by simp;omega),au]
 rw[dx _ (by simp),au,jB (by simp)]
end
def WD (k:Int->Int->aE->br->Option (Bool×aE)) (i3 t16 t17:Int) (mg:aF) (a:Nat) (ha:mg.aG=(a:Int)) (v:Int) (cur:br) (j:Nat) (ch:bN) (cs:cO) (rs:cA) (hl:rs.length<=1000) (ho:i3=(a:Int)\/r8 a rs=true):∀(x:cA) (i m:Nat) (tt:br) (rr:aj),rs.drop i=x->x.length<m->
  Fh k m i3 t16 t17 (rs.length:Int) (i:Int) (aE.mk (ag.mk v tt) mg) cur rr j ch cs rs=((setAt cur j (aj.mk rr.av cs rr.ay rs ch)).bind λz2=>k t16 t17 (aE.mk (ag.mk v z2) mg) z2)
 | [],i,m+1,tt,rr,hd,hm=>by
  have hi:rs.length<=i:=by simpa using hd
  have hq:¬((i:Int)<(rs.length:Int)):=by omega
  simp only[Fh,Rw,hq,aX,aC,aA]
 |r::x,i,m+1,tt,rr,hd,hm=>by
  obtain ⟨g1,g2,g3⟩:=bC hd;have hq:(i:Int)<(rs.length:Int):=by omega
  have ih:=WD k i3 t16 t17 mg a ha v cur j ch cs rs hl ho x (i+1) m cur (aj.mk rr.av [] rr.ay [] []) g2 (by simp at hm;omega)
  have hs:setAt rs i r=some rs:=by rw[dx _ g3,jB g1]
  simp only[Fh,Rw,hq,aU,aB,gG g3,au,cC,g1,ha,hs,bY g3 (by omega)]
  by_cases h:i3=(a:Int)
  ·have h1:(i3 !=(a:Int))=false:=by simpa using h
   simp only[h1,aC,aA];exact ih
  ·have h1:(i3 !=(a:Int))=true:=by simpa using h
   have h2:(r.aG==(a:Int))=false:=by
    rcases ho with ho|ho
    ·exact absurd ho h
    ·unfold r8 at ho;rw[iT] at ho;have:=ho r (cN g1);simpa using this
   simp only[h1,aB,h2,aC,aA];exact ih
 |_,_,0,_,_,_,hm=>by simp at hm
def WC (k:aE->br->Option (Bool×aE)) (mg:aF) (a:Nat) (ha:mg.aG=(a:Int)) (v:Int) (ts:br) (hl:ts.length<=1000) (ht:∀T∈ts,T.af.length<=1000) (uq:yI a ts ts.length):∀(x:br) (i m:Nat) (tt:br),ts.drop i=x->x.length+1000<m->
  BW k m (ts.length:Int) (i:Int) (aE.mk (ag.mk v tt) mg) ts=k (aE.mk (ag.mk v ts) mg) ts
 | [],i,m+1,tt,hd,hm=>by
  have hi:ts.length<=i:=by simpa using hd
  have hq:¬((i:Int)<(ts.length:Int)):=by omega
  simp only[BW,Ru,hq,aX,aC,aA]
 |T::x,i,m+1,tt,hd,hm=>by
  obtain ⟨g1,g2,g3⟩:=bC hd;have hq:(i:Int)<(ts.length:Int):=by omega
  simp at hm;have hT:=ht T (cN g1);have ih:=WC k mg a ha v ts hl ht uq x (i+1) m ts g2 (by omega)
  have inner:=WD (Rv (BW k m) m) (i:Int) (ts.length:Int) (i:Int) mg a ha v ts i T.ak T.ae T.af hT (by
   by_cases h:i=a
   ·exact .inl (by omega)
   ·exact .inr (uq i T g3 h g1)) T.af 0 m ts (aj.mk T.av [] T.ay [] []) rfl (by omega)
  have hs:setAt ts i T=some ts:=by rw[dx _ g3,jB g1]
  simp only[BW,Ru,hq,aU,aB,gG g3,au,cC,g1];refine inner.trans ?_;show (setAt ts i T).bind _=_;rw[hs,au];simp only[Rv,bY g3 (by omega:ts.length<4294967296)]
  exact ih
 |_,_,0,_,_,hm=>by simp at hm
def WB (k:Int->Int->aE->br->Option (Bool×aE)) (t74 t75:Int) (mg:aF) (a:Nat) (ha:mg.aG=(a:Int)) (ha8:a<=1000) (v:Int) (cs:cO) (ch:bN) (cur:br) (j:Nat) (rs:cA) (hl:rs.length<=1000) (hr:∀r∈rs,lZ r.aG):∀(x:cA) (i m:Nat) (tt:br) (b8 rr:aj),rs.drop i=x->x.length<m->
  BV k m t74 t75 (rs.length:Int) (i:Int) (aE.mk (ag.mk v tt) mg) b8 cs ch cur rr j (fj (iK a) rs i)=((setAt cur j (aj.mk rr.av cs rr.ay (rs.map (iK a)) ch)).bind λz2=>k t74 t75 (aE.mk (ag.mk v z2) mg) z2)
 | [],i,m+1,tt,b8,rr,hd,hm=>by
  have hi:rs.length<=i:=by simpa using hd
  have hq:¬((i:Int)<(rs.length:Int)):=by omega
  simp only[BV,J5,hq,aX,aC,aA,rC _ _ hi]
 |r::x,i,m+1,tt,b8,rr,hd,hm=>by
  obtain ⟨g1,g2,g3⟩:=bC hd;have hq:(i:Int)<(rs.length:Int):=by omega
  have jA:=hr r (cN g1);have ih:=WB k t74 t75 mg a ha ha8 v cs ch cur j rs hl hr x (i+1) m cur (aj.mk b8.av cs b8.ay (fj (iK a) rs (i+1)) ch) (aj.mk rr.av [] rr.ay [] []) g2 (by simp at hm;omega)
  have hml:i<(fj (iK a) rs i).length:=by rw[kz];exact g3
  have hs:setAt (fj (iK a) rs i) i r=some (fj (iK a) rs i):=by rw[dx _ hml,jB (lW _ g1)]
  have hs2:(fj (iK a) rs i).set i r=fj (iK a) rs i:=jB (lW _ g1);have e:=rB (iK a) g1;by_cases h:(a:Int)<r.aG
  ·have hd:iK (a:Int) r=bk.mk r.ae (r.aG-1):=by
    unfold iK fu;rw[aH (by omega),aH h]
   rw[hd] at e;simp only[BV,J5,hq,aU,aB,gG hml,au,cC,lW _ g1,ha,h,hs,hs2,dv (x:=r.aG-1) (by have:=jA.1;omega) (by have:=jA.2;omega),dx _ hml,e,bY g3 (by omega)]
   exact ih
  ·have hd:iK (a:Int) r=r:=by
    unfold iK fu;rw[aH (by omega),aM h]
   rw[hd] at e;have e2:fj (iK a) rs i=fj (iK a) rs (i+1):=by rw[<-e,jB (lW _ g1)]
   simp only[BV,J5,hq,aU,aB,gG hml,au,cC,lW _ g1,ha,h,aX,aC,aA,hs,bY g3 (by omega)]
   rw[e2];exact ih
 |_,_,0,_,_,_,_,hm=>by simp at hm
def WA (k:aE->br->Option (Bool×aE)) (mg:aF) (a:Nat) (ha:mg.aG=(a:Int)) (ha8:a<=1000) (v:Int) (ts:br) (hl:ts.length<=1000) (ht:∀T∈ts,T.af.length<=1000/\∀r∈T.af,lZ r.aG):∀(x:br) (i m:Nat) (tt:br),ts.drop i=x->x.length+1000<m->
  BU k m (ts.length:Int) (i:Int) (aE.mk (ag.mk v tt) mg) (fj (l7 a) ts i)=k (aE.mk (ag.mk v (ts.map (l7 a))) mg) (ts.map (l7 a))
 | [],i,m+1,tt,hd,hm=>by
  have hi:ts.length<=i:=by simpa using hd
  have hq:¬((i:Int)<(ts.length:Int)):=by omega
  simp only[BU,Rr,hq,aX,aC,aA,rC _ _ hi]
 |T::x,i,m+1,tt,hd,hm=>by
  obtain ⟨g1,g2,g3⟩:=bC hd;have hq:(i:Int)<(ts.length:Int):=by omega
  simp at hm;have hT:=ht T (cN g1);have ih:=WA k mg a ha ha8 v ts hl ht x (i+1) m (fj (l7 a) ts (i+1)) g2 (by omega)
  have hml:i<(fj (l7 a) ts i).length:=by rw[kz];exact g3
  have inner:=WB (Rt (BU k m) m) (ts.length:Int) (i:Int) mg a ha ha8 v T.ae T.ak (fj (l7 a) ts i) i T.af hT.1 hT.2 T.af 0 m (fj (l7 a) ts i) T (aj.mk T.av [] T.ay [] []) rfl (by omega)
  rw[wm] at inner;have e:(fj (l7 a) ts i).set i (aj.mk T.av T.ae T.ay (T.af.map (iK a)) T.ak)=fj (l7 a) ts (i+1):=rB (l7 a) g1;simp only[BU,Rr,hq,aU,aB,gG hml,au,cC,lW _ g1];refine inner.trans ?_;show (setAt _ i (aj.mk T.av T.ae T.ay (T.af.map (iK a)) T.ak)).bind _=_;rw[dx _ hml,e,au];simp only[Rt,bY g3 (by omega:ts.length<4294967296)]
  exact ih
 |_,_,0,_,_,hm=>by simp at hm
def aCz {n:Nat} {s:ag} {m:aF} {j:Nat} (hs:SG s) (hj:m.aG=(j:Int)) (fS:j<s.ai.length) (v:Int) (hr:∀i U,i≠j->s.ai[i]? =some U->∀r∈U.af,r.aG≠(j:Int)) (hn:100000<n):
  adx n (aE.mk (ag.mk v s.ai) m)=some (true,aE.mk (ag.mk v ((s.ai.take j++s.ai.drop (j+1)).map (l7 (j:Int)))) m):=by
 have h8:=hs.len;have uq:yI j s.ai s.ai.length:=λq U _ cY hU=>by
  unfold r8;rw[iT];intro r jA;have:=hr q U cY hU r jA;simpa using this
 have sg:=ya fS;unfold adx aeD;have e1:=WC (Rq n) m j hj v s.ai (by omega) (λT hT=>by have:=(hs.cy T hT).refs;omega) uq s.ai 0 n s.ai rfl (by omega)
 refine Eq.trans e1 ?_;unfold Rq;have w:bl ((j:Int)+1)=((j+1:Nat):Int):=bY fS (by omega)
 simp only[hj,w];rw[show avK n s.ai (j:Int) ((j+1:Nat):Int)=some (s.ai.take j++s.ai.drop (j+1),s.ai.take j++s.ai.drop (j+1)) from NN fS,au];have xX:∀T∈s.ai.take j++s.ai.drop (j+1),T∈s.ai:=λT hT=>by
  rcases eO.1 hT with h|h
  ·exact qC h
  ·exact pE h
 have e2:=WA (aeE n) m j hj (by omega) v (s.ai.take j++s.ai.drop (j+1)) (by omega) (λT hT=>⟨by have:=(hs.cy T (xX T hT)).refs;omega,λr jA=>by obtain ⟨_,_,r1,r2⟩:=(hs.cy T (xX T hT)).ref r jA;exact ⟨by omega,by omega⟩⟩) (s.ai.take j++s.ai.drop (j+1)) 0 n (s.ai.take j++s.ai.drop (j+1)) rfl (by omega)
 rw[wm] at e2;exact e2
end
def w01:bl (0+1)=1:=dv (by omega) (by omega)
def w10:bl (1-1)=0:=dv (by omega) (by omega)
def w11:bl (1+1)=2:=dv (by omega) (by omega)
def w20:bl (2-0)=2:=dv (by omega) (by omega)
def w1_0:bl (1-0)=1:=dv (by omega) (by omega)
def alK (x y:J):eZ [x,y].length 0=some 0:=rfl
def avq (x y:J):eZ [x,y].length 1=some 1:=rfl
def bl10 (x:J):eZ [x].length 0=some 0:=rfl
def avE (n:Nat) (hn:10<n) (x:cE):N3 n [x] 0 1=some [x]:=by
 obtain ⟨m,rfl⟩:∃q,n=q+3:=⟨n-3,by omega⟩
 simp only[N3,QL,w01,sm,FF,show ¬((1:Int)<1) by omega,aX,aC,aA]
def avD (n:Nat) (hn:100<n) (x y:cE) (hx:x.length<=10) (hy:y.length<=10):N3 n [x,y] 0 2=some (if eT y x<0 then [y,x] else [x,y]):=by
 obtain ⟨m,rfl⟩:∃q,n=q+4:=⟨n-4,by omega⟩
 have tail:∀l:bS,wY (sm (m+3)) (m+3) 0 2 1 l=some l:=λl=>by
  simp only[wY,w11,sm,FF,show ¬((2:Int)<2) by omega,aX,aC,aA]
 have e:N3 (m+4) [x,y] 0 2=EZ (wY (sm (m+3)) (m+3)) (m+3) 0 2 1 1 [x,y]:=by
  simp only[N3,QL,w01];show FF (sm (m+3)) (m+3) 0 2 1 [x,y]=_;simp only[FF,show ((1:Int)<2) by omega,aU,aB]
 rw[e];show FG (wY (sm (m+3)) (m+3)) (EZ (wY (sm (m+3)) (m+3)) (m+2)) (m+2) 0 2 1 1 [x,y]=_;simp only[FG,show ((0:Int)<1) by omega,aU,aB,avq,w10,alK,au,cC,vx,rU,ade (m+2) y x (by omega) (by omega)]
 by_cases h:eT y x<0
 ·have s1:setAt [x,y] 1 x=some [x,x]:=rfl;have s2:setAt [x,x] 0 y=some [y,x]:=rfl;simp only[h,aU,aB,s1,au,vx,s2];show FG (wY (sm (m+3)) (m+3)) (EZ (wY (sm (m+3)) (m+3)) (m+1)) (m+1) 0 2 1 0 [y,x]=_;simp only[FG,show ¬((0:Int)<0) by omega,aX,aC,aA]
  exact tail _
 ·simp only[h,aX,aC,aA];exact tail _
def aJg (n:Nat):Vx n (IntKind.wrap .u64 (((1:Nat)):Int))=some 1:=by kernel_rfl
def aJf (n:Nat):Vx n (IntKind.wrap .u64 (((2:Nat)):Int))=some 2:=by kernel_rfl
def yG (a:Nat):lJ a a=some ():=by unfold lJ;rw[aH rfl]
def avJ (n:Nat) (hn:100<n) (x:cE) (hx:x.length<=10):N5 n [x]=some [x]:=by
 obtain ⟨m,rfl⟩:∃q,n=q+4:=⟨n-4,by omega⟩
 have aut:Vv (m+4) [x]=some [x]:=by
  unfold Vv QS;show (app [] [x]).bind _=_;rw[dI _ _ (by simp)];rfl
 have aur:Vt (m+4) [x] 0 1 1=some [x]:=by
  show FH (JP (m+3)) (m+3) 0 1 1 true true [x]=_;simp only[FH,w1_0,show ¬((12:Int)<1) by omega,aX,gM,aB,avE (m+3) (by omega),au,yG]
 have aus:Vu (m+4) [x]=some [x]:=by
  unfold Vu QR;show (Vx (m+4) (IntKind.wrap .u64 (((1:Nat)):Int))).bind _=_;rw[aJg,au];show (Vt (m+4) [x] 0 1 1).bind _=_;rw[aur,au,yG];rfl
 unfold N5 QW;rw[aut,au,aus,au,yG,au];show sn (oV (m+4)) (wV (oV (m+4)) (m+3)) (m+3) 1 0 [x] []=_;simp only[sn,show ((0:Int)<1) by omega,aU,aB,bl10,au,cC,vx,im,dI [] x (by simp;omega),jV,dI [] [x] (by simp),w01]
 show sn (oV (m+4)) (wV (oV (m+4)) (m+2)) (m+2) 1 1 [x] [x]=_;simp only[sn,show ¬((1:Int)<1) by omega,aX,aC,aA,oV]
def adl (n:Nat) (hn:200<n) (x y:cE) (hx:x.length<=10) (hy:y.length<=10) (cY:eT x y≠0) (hne2:eT y x≠0):N5 n [x,y]=some (if eT y x<0 then [y,x] else [x,y]):=by
 obtain ⟨m,rfl⟩:∃q,n=q+4:=⟨n-4,by omega⟩
 have aut:Vv (m+4) [x,y]=some [x,y]:=by
  unfold Vv QS;show (app [] [x,y]).bind _=_;rw[dI _ _ (by simp)];rfl
 have aur:Vt (m+4) [x,y] 0 2 2=some (if eT y x<0 then [y,x] else [x,y]):=by
  show FH (JP (m+3)) (m+3) 0 2 2 true true [x,y]=_;simp only[FH,w20,show ¬((12:Int)<2) by omega,aX,gM,aB,avD (m+3) (by omega) x y hx hy,au]
  split<;>rfl
 have aus:Vu (m+4) [x,y]=some (if eT y x<0 then [y,x] else [x,y]):=by
  unfold Vu QR;show (Vx (m+4) (IntKind.wrap .u64 (((2:Nat)):Int))).bind _=_;rw[aJf,au];show (Vt (m+4) [x,y] 0 2 2).bind _=_;rw[aur,au];split<;>rfl
 have fin:∀p q:cE,p.length<=10->q.length<=10->eT p q≠0->wV (oV (m+4)) (m+4) 2 0 [p,q] []=some [p,q]:=λp q hp hq h=>by
  show sn (oV (m+4)) (wV (oV (m+4)) (m+3)) (m+3) 2 0 [p,q] []=_;simp only[sn,show ((0:Int)<2) by omega,aU,aB,alK,au,cC,vx,im,dI [] p (by simp;omega),jV,dI [] [p] (by simp),w01]
  show sn (oV (m+4)) (wV (oV (m+4)) (m+2)) (m+2) 2 1 [p,q] [p]=_;have hn:(eT p q !=0)=true:=by simpa using h
  simp only[sn,show ((1:Int)<2) by omega,aU,aB,avq,au,cC,vx,rU,show ((1:Int)==0)=false from rfl,aC,aA,w10,alK,ade (m+2) p q (by omega) (by omega),hn,dI [] q (by simp;omega),jV,dI [p] [q] (by simp),yy,w11]
  show sn (oV (m+4)) (wV (oV (m+4)) (m+1)) (m+1) 2 2 [p,q] [p,q]=_;simp only[sn,show ¬((2:Int)<2) by omega,aX,aC,aA,oV]
 unfold N5 QW;rw[aut,au,aus,au];split
 ·rw[show lJ [y,x].length [x,y].length=some () from yG 2,au];exact fin y x hy hx hne2
 ·rw[show lJ [x,y].length [x,y].length=some () from yG 2,au];exact fin x y hx hy cY
def Kt {a:aR}:H6 a b=true↔a=b:=by
 obtain ⟨k,i,t⟩:=a;obtain ⟨k',i',t'⟩:=b;simp[H6]
def Nf (a b:aR):eT [a] [b]=ll a b:=by
 unfold eT;by_cases h:ll a b=0
 ·rw[aH h,h];rfl
 ·rw[aM h]
def kV (l:gz):Prop:=(∃a,l= [⟨a,a⟩])\/∃a b,H6 a b=false/\l= [⟨a,b⟩,⟨b,a⟩]
def Wz (k:aE->bS->bS->Option Bool) (g:aE) (T:aj) (c:Nat) (x:cJ) (hx:T.ae[c]? =some x) (l:gz) (hl:l.length<=16) (hp:∀p∈l,jw p.f0=true/\p.f0.ax=x.ax):∀(y:gz) (i m:Nat) (uR uQ:bS),l.drop i=y->y.length<m->uR.length+y.length<=100->uQ.length+y.length<=100->
  Fg k m g T (c:Int) l (l.length:Int) (i:Int) uR uQ=k g (uR++y.map λp=> [p.f0]) (uQ++y.map λp=> [p.f1])
 | [],i,m+1,uR,uQ,hd,hm,_,_=>by
  have hi:l.length<=i:=by simpa using hd
  have hq:¬((i:Int)<(l.length:Int)):=by omega
  simp[Fg,Rp,hq]
 |p::y,i,m+1,uR,uQ,hd,hm,h1,h2=>by
  obtain ⟨g1,g2,g3⟩:=bC hd;have hq:(i:Int)<(l.length:Int):=by omega
  simp at hm h1 h2;obtain ⟨p1,p2⟩:=hp p (cN g1);have ih:=Wz k g T c x hx l hl hp y (i+1) m (uR++ [[p.f0]]) (uQ++ [[p.f1]]) g2 (by omega) (by simp;omega) (by simp;omega)
  simp only[Fg,Rp,hq,aU,aB,bO,g1,au,hx,Vy,p1,p2,im,ow,dw,aC,aA,dI uR [[p.f0]] (by simp;omega),dI uQ [[p.f1]] (by simp;omega),bY g3 (by omega),ih]
  simp
 |_,_,0,_,_,_,hm,_,_=>by simp at hm
def Pf {l:gz} (h:wj k l=true):∀p∈l,jw p.f0=true/\p.f0.ax=k:=λp hp=>by
 unfold wj at h;simp only[bF,iT] at h;have:=h.2.2 p hp;exact ⟨this.1,by simpa using this.2.1⟩
def amt (n:Nat) (hn:10<n) (a:aR):uU (oa n) n 1 0 [[a]] [[a]]=some true:=by
 obtain ⟨m,rfl⟩:∃q,n=q+3:=⟨n-3,by omega⟩
 show so (oa (m+3)) (uU (oa (m+3)) (m+2)) (m+2) 1 0 [[a]] [[a]]=_;have e:(a.ax==a.ax&&(a.bX==a.bX&&(decide (a.bB=a.bB)&&true)))=true:=Kt.2 rfl;simp only[so,show ((0:Int)<1) by omega,aU,aB,bl10,au,cC,vx,show idx [a] 0=some a from rfl,im,ow,dw,aC,aA,w01]
 show so (oa (m+3)) (uU (oa (m+3)) (m+1)) (m+1) 1 1 [[a]] [[a]]=_;simp only[so,show ¬((1:Int)<1) by omega,aX,aC,aA,oa]
def Qq (n:Nat) (hn:10<n) (a b:aR):uU (oa n) n 2 0 [[a],[b]] [[a],[b]]=some true:=by
 obtain ⟨m,rfl⟩:∃q,n=q+3:=⟨n-3,by omega⟩
 have e:∀a:aR,(a.ax==a.ax&&(a.bX==a.bX&&(decide (a.bB=a.bB)&&true)))=true:=λa=>Kt.2 rfl
 show so (oa (m+3)) (uU (oa (m+3)) (m+2)) (m+2) 2 0 [[a],[b]] [[a],[b]]=_;simp only[so,show ((0:Int)<2) by omega,aU,aB,alK,au,cC,vx,show idx [a] 0=some a from rfl,im,ow,dw,aC,aA,w01]
 show so (oa (m+3)) (uU (oa (m+3)) (m+1)) (m+1) 2 1 [[a],[b]] [[a],[b]]=_;simp only[so,show ((1:Int)<2) by omega,aU,aB,avq,au,cC,vx,rU,show idx [b] 0=some b from rfl,im,ow,dw,aC,aA,w11]
 show so (oa (m+3)) (uU (oa (m+3)) m) m 2 2 [[a],[b]] [[a],[b]]=_;simp only[so,show ¬((2:Int)<2) by omega,aX,aC,aA,oa]
def aso (n:Nat) (hn:1000<n) (g:aE) (h:kV g.fm.bc):J4 n g (g.fm.bc.map λp=> [p.f0]) (g.fm.bc.map λp=> [p.f1])=some true:=by
 unfold J4;rcases h with ⟨a,h⟩|⟨a,b,cY,h⟩
 ·rw[h];simp only[iZ,uD,avJ n (by omega) [a] (by simp),au]
  exact amt n (by omega) a
 ·rw[h];have hab:a≠b:=λe=>by rw[Kt.2 e] at cY;cases cY
  have n1:eT [a] [b]≠0:=by rw[Nf];exact λe=>hab (D0 e)
  have n2:eT [b] [a]≠0:=by rw[Nf];exact λe=>hab (D0 e).symm
  simp only[iZ,uD,adl n (by omega) [a] [b] (by simp) (by simp) n1 n2,adl n (by omega) [b] [a] (by simp) (by simp) n2 n1,au]
  have hneg:=YF a b;simp only[Nf] at n1 n2 ⊢;by_cases cV:ll b a<0
  ·rw[aH cV,aM (show ¬ll a b<0 by omega)]
   simp only[kq,Ay,jN,aC,aA];exact Qq n (by omega) b a
  ·rw[aM cV,aH (show ll a b<0 by omega)]
   simp only[kq,Ay,jN,aC,aA];exact Qq n (by omega) a b
def aCy {n:Nat} {s:ag} {m:aF} {j:Nat} {T:aj} (hs:SG s) (hj:m.aG=(j:Int)) (hT:s.ai[j]? =some T) (v:Int) (c:Nat) (x:cJ) (hc:m.aO=(c:Int)) (hx:T.ae[c]? =some x) (hk:T.ay<=(c:Int)) (hp:wj x.ax m.bc=true) (hu:zS (c:Int) T=false) (hM:kV m.bc) (hn:100000<n):
  adw n (aE.mk (ag.mk v s.ai) m)=some true:=by
 have fS:=(cf.1 hT).1;have eA:=(cf.1 hx).1;have hG:=hs.cy T (cN hT);have Jj:=Ml n v s.ai m j T hj hT m.aO;rw[hc,rV hk,rV (show (c:Int)<(T.ae.length:Int) by omega)] at Jj
 have abD:=aiM n v s.ai m j T hj hT (by omega) hG.cp (by omega)
 rw[hc,hu] at abD;have hl:1<=m.bc.length/\m.bc.length<=16:=by
  unfold wj at hp;simp only[bF,jW] at hp;exact ⟨hp.1,hp.2.1⟩
 unfold adw aeC;rw[N8 n v s.ai m j T hj hT,au];have q1:¬((m.bc.length:Int)<1):=by omega
 have q2:¬((16:Int)<(m.bc.length:Int)):=by omega
 simp only[hc,Jj,au,ow,dw,aC,aA,abD,q1,q2,aX];have e:=Wz (J4 n) (aE.mk (ag.mk v s.ai) m) T c x hx m.bc hl.2 (Pf hp) m.bc 0 n [] [] rfl (by omega) (by simp;omega) (by simp;omega)
 refine Eq.trans e ?_;simp only[jV];exact aso n (by omega) (aE.mk (ag.mk v s.ai) m) hM
def aIY {n:Nat} {s t:ag} {m:aF} (hs:SG s) (hm:MB m) (hb:pX m=true) (h:ld s m t) (hM:m.bh=8->kV m.bc) (hn:100000<n):F42 n s m=some (t,true):=by
 have hv0:=hs.v0;have pO:=hs.v1;have h8:=hs.len;have h41:F41 n s=some s:=asd n s (by omega) (λT hT=>(hs.cy T hT).cp) (by omega)
 have w:bl (s.aw+1)=s.aw+1:=dv (by omega) (by omega)
 have h18:1<=m.bh/\m.bh<=8:=by
  unfold pX at hb;simp only[bF,jW] at hb;exact ⟨hb.1,hb.2.1⟩
 have h97:F97 n=some [148,149,150,151,152,153,154,155]:=rfl;have wop:bl (m.bh-1)=m.bh-1:=dv (by omega) (by omega)
 have front:(m.bh=6\/∃j:Nat,m.aG=(j:Int)/\j<s.ai.length)->F42 n s m=vf n (m.bh-1) s m (ag.mk 0 []) [148,149,150,151,152,153,154,155]:=λht=>by
  unfold F42 anu;rw[h97,au];have q1:¬(m.bh<1):=by omega
  have q2:(m.bh-1)<(([148,149,150,151,152,153,154,155]:List Nat).length:Int):=by simp;omega
  simp only[q1,aX,aC,aA,wop,q2,aU,dw,aIN n m hb,au];rcases ht with h6|⟨j,hj,fS⟩
  ·simp[h6]
  ·by_cases h6:m.bh=6
   ·simp[h6]
   ·have q3:(m.bh !=6)=true:=by simpa using h6
    have q4:¬(m.aG<0):=by omega
    have q5:m.aG<(s.ai.length:Int):=by omega
    simp only[q3,aB,q4,aX,aC,aA,q5,aU,dw]
 have b42:∀(o:Nat) (t:ag),m.bh-1=(o:Int)->o<8->True->True:=λ_ _ _ _ _=>trivial
 cases h with
 |alY j T eP hj hT hv hk=>
  have fS:=(cf.1 hT).1;rw[front (.inr ⟨j,hj,fS⟩)];unfold vf;rw[h41,au,eP];show (adD n (aE.mk (ag.mk (bl (s.aw+1)) s.ai) m)).bind _=_;rw[w,aCF hs hj hT (s.aw+1) hv hk];rfl
 |Xs j c T x eP hj hT hc hx hk hv Bs hu=>
  have fS:=(cf.1 hT).1;rw[front (.inr ⟨j,hj,fS⟩)];unfold vf;rw[h41,au,eP];show (adC n (aE.mk (ag.mk (bl (s.aw+1)) s.ai) m)).bind _=_;rw[w,aCE hs hj hT (s.aw+1) eP c x hc hx hk hv Bs hu (by omega)]
  rfl
 |move j c d T eP hj hT hc hd h1 h2 hk yT=>
  have fS:=(cf.1 hT).1;rw[front (.inr ⟨j,hj,fS⟩)];unfold vf;rw[h41,au,eP];show (adB n (aE.mk (ag.mk (bl (s.aw+1)) s.ai) m)).bind _=_;rw[w,aCD hs hj hT (s.aw+1) eP c d hc hd h1 h2 hk yT (by omega)]
  rfl
 |aka j c T x eP hj hT hc hx=>
  have fS:=(cf.1 hT).1;rw[front (.inr ⟨j,hj,fS⟩)];unfold vf;rw[h41,au,eP];show (adA n (aE.mk (ag.mk (bl (s.aw+1)) s.ai) m)).bind _=_;rw[w,aCC hs hj hT (s.aw+1) c x hc hx];rfl
 |ajX j T eP hj hT=>
  have fS:=(cf.1 hT).1;rw[front (.inr ⟨j,hj,fS⟩)];unfold vf;rw[h41,au,eP];show (adz n (aE.mk (ag.mk (bl (s.aw+1)) s.ai) m)).bind _=_;rw[w,aCB hj hT (s.aw+1)];rfl
 |alX eP=>
  rw[front (.inl eP)];unfold vf;rw[h41,au,eP];show (ady n (aE.mk (ag.mk (bl (s.aw+1)) s.ai) m)).bind _=_;rw[w,aCA hs hm (s.aw+1) (by omega)]
  rfl
 |Xr j T eP hj hT hr=>
  have fS:=(cf.1 hT).1;rw[front (.inr ⟨j,hj,fS⟩)];unfold vf;rw[h41,au,eP];show (adx n (aE.mk (ag.mk (bl (s.aw+1)) s.ai) m)).bind _=_;rw[w,aCz hs hj fS (s.aw+1) hr (by omega)]
  rfl
 |Ed j c T x eP hj hT hc hx hk hp hu=>
  have fS:=(cf.1 hT).1;rw[front (.inr ⟨j,hj,fS⟩)];unfold vf;rw[h41,au,eP];show (adw n (aE.mk (ag.mk (bl (s.aw+1)) s.ai) m)).bind _=_;rw[w,aCy hs hj hT (s.aw+1) c x hc hx hk hp hu (hM eP) (by omega)]
  rfl
def eu:ag->cG->fO->Prop
 |_,[],[]=>True
 |s,m::ms,t::ts=>pX m=true/\ld s m t/\gy t=0/\eu t ms ts
 |_,_,_=>False
def eu.len:∀{s:ag} {ms:cG} {ts:fO},eu s ms ts->ts.length=ms.length
 |_,[],[],_=>rfl
 |_,_::_,_::_,h=>by simp[eu.len h.2.2.2]
 |_,[],_::_,h=>by cases h
 |_,_::_,[],h=>by cases h
def eu.jH:∀{s:ag} {ms:cG} {ts:fO},eu s ms ts->∀t∈ts,gy t=0
 |_,[],[],_,t,ht=>by cases ht
 |_,_::_,_::_,h,t,ht=>by
  rcases cH.1 ht with rfl|ht
  ·exact h.2.2.1
  ·exact eu.jH h.2.2.2 t ht
 |_,[],_::_,h,_,_=>by cases h
 |_,_::_,[],h,_,_=>by cases h
def ld.ver {s t:ag} {m:aF} (h:ld s m t):t.aw=s.aw+1:=by cases h<;>rfl
def Dx {l:List J} {x:J} (h:l.getLast? =some x):l≠ []/\l[l.length-1]? =some x:=by
 cases l with
 |nil=>cases h
 |cons a l=>exact ⟨by simp,by rw[<-agc];exact h⟩
def acR (n0:Nat) (ms:cG) (hl:ms.length<=8) (hm:∀m∈ms,MB m):∀(x:cG) (i k:Nat) (b:fO) (cur:ag),ms.drop i=x->x.length+1700000<k->k<4294967296->b.length<=100+i->i<=8->b.getLast? =some cur->gy cur=0->
  Ok (Ar (My n0) k (ms.length:Int) (i:Int) ms b) λr=>r.2=0->∃ts,r.1=b++ts/\eu cur x ts
 | [],i,k+1,b,cur,hd,hk,jP,hb,hi8,hc,hs=>by
  have hi:ms.length<=i:=by simpa using hd
  have hq:¬((i:Int)<(ms.length:Int)):=by omega
  simp only[Ar,Mz,hq,aX,aC,aA,My];exact Ok.pure λ_=>⟨[],by simp,trivial⟩
 |mg::x,i,k+1,b,cur,hd,hk,jP,hb,hi8,hc,hs=>by
  obtain ⟨g1,g2,g3⟩:=bC hd;have hq:(i:Int)<(ms.length:Int):=by omega
  simp at hk;obtain ⟨cY,CB⟩:=Dx hc;have uv:0<b.length:=Sv.2 cY;have w:bl ((b.length:Int)-1)=((b.length-1:Nat):Int):=by rw[dv (by omega) (by omega)];omega
  simp only[Ar,Mz,hq,aU,aB,gG g3,au,cC,g1,w,gG (show b.length-1<b.length by omega),CB]
  refine Ok.bind (aIO k (by omega) (by omega) cur (.of hs) mg (hm mg (cN g1))) λr hr=> ?_
  refine Ok.ite (λ_=>Ok.pure λh=>by cases h) λh2=> ?_
  have h2:r.2=true:=by simpa using h2
  obtain ⟨q1,q2,q3⟩:=hr h2;rw[dI b [r.1] (by simp;omega),au,bY g3 (by omega)]
  refine (acR n0 ms hl hm x (i+1) k (b++ [r.1]) r.1 g2 (by omega) (by omega) (by simp;omega) (by omega) (by simp) q3).mono λr' jA h=> ?_
  obtain ⟨ts,e1,e2⟩:=jA h;exact ⟨r.1::ts,by rw[e1];simp,q1,q2,q3,e2⟩
 |_,_,0,_,_,_,hk,_,_,_,_,_=>by simp at hk
def ase (n:Nat) (hn:1800000<n) (fN:n<4294967296) (s:ag) (hs:gy s=0) (ms:cG) (hm:∀m∈ms,MB m) (hl:ms.length<=100000):Ok (F40 n s ms) λr=>r.2=0->ms.length<=8/\s.aw+(ms.length:Int)<=1000/\∃ts,r.1=s::ts/\eu s ms ts:=by
 have hG:=SG.of hs;have hv0:=hG.v0;have pO:=hG.v1;unfold F40 Ye;rw[FD n s (λT hT=>(hG.cy T hT).wa) (by omega) fN,au,hs]
 refine Ok.ite (λh=>by cases h) λ_=>Ok.ite (λ_=>Ok.pure λh=>by cases h) λh8=>Ok.ite (λ_=>Ok.pure λh=>by cases h) λhv=> ?_
 have h8:=FV h8;have hv:=FV hv;rw[dv (by omega) (by omega)] at hv
 have h:=acR n ms (by omega) hm ms 0 n [s] s rfl (by omega) fN (by simp) (by omega) rfl hs
 exact Ok.mono h λr hr h0=>⟨by omega,by omega,hr h0⟩
def acZ (n0:Nat) (ms:cG) (hl:ms.length<=8) (hm:∀m∈ms,MB m/\(m.bh=8->kV m.bc)):∀(x:cG) (i k:Nat) (b ts:fO) (cur:ag),ms.drop i=x->x.length+1700000<k->k<4294967296->b.length<=100+i->i<=8->b.getLast? =some cur->gy cur=0->eu cur x ts->
  Mk (Yu n0) k ms (ms.length:Int) (i:Int) b=some (b++ts,0)
 | [],i,k+1,b,[],cur,hd,hk,jP,hb,hi8,hc,hs,si=>by
  have hi:ms.length<=i:=by simpa using hd
  have hq:¬((i:Int)<(ms.length:Int)):=by omega
  simp only[Mk,Yv,hq,aX,aC,aA,Yu,tM]
 |mg::x,i,k+1,b,t::ts,cur,hd,hk,jP,hb,hi8,hc,hs,si=>by
  obtain ⟨g1,g2,g3⟩:=bC hd;have hq:(i:Int)<(ms.length:Int):=by omega
  simp at hk;obtain ⟨cY,CB⟩:=Dx hc;have uv:0<b.length:=Sv.2 cY;have w:bl ((b.length:Int)-1)=((b.length-1:Nat):Int):=by rw[dv (by omega) (by omega)];omega
  obtain ⟨c1,c2,c3,c4⟩:=si;obtain ⟨m1,m2⟩:=hm mg (cN g1);have h42:=aIY (n:=k) (SG.of hs) m1 c1 c2 m2 (by omega)
  have h15:=adu k t (λT hT=>((SG.of c3).cy T hT).wa) (by omega) (by omega)
  rw[c3] at h15;simp only[Mk,Yv,hq,aU,aB,bO,gG (show b.length-1<b.length by omega),au,cC,g1,w,CB,h42,dw,aC,aA,h15,jN,dI b [t] (by simp;omega),bY g3 (by omega)]
  rw[acZ n0 ms hl hm x (i+1) k (b++ [t]) ts t g2 (by omega) (by omega) (by simp;omega) (by omega) (by simp) c3 c4]
  simp
 |_,_,0,_,_,_,_,hk,_,_,_,_,_,_=>by simp at hk
 | [],_,_+1,_,_::_,_,_,_,_,_,_,_,_,h=>by cases h
 |_::_,_,_+1,_,[],_,_,_,_,_,_,_,_,h=>by cases h
def aJh (n:Nat) (hn:1800000<n) (fN:n<4294967296) (s:ag) (hs:gy s=0) (ms:cG) (hm:∀m∈ms,MB m/\(m.bh=8->kV m.bc)) (hl:ms.length<=8) (hv:s.aw+(ms.length:Int)<=1000) (ts:fO) (hc:eu s ms ts):F14 n s ms=some (s::ts,0):=by
 have hG:=SG.of hs;have hv0:=hG.v0;have h8:=hG.len;have h15:=adu n s (λT hT=>(hG.cy T hT).wa) (by omega) (by omega)
 rw[hs] at h15;unfold F14 anG;have q1:¬((8:Int)<(ms.length:Int)):=by omega
 have w:bl (s.aw+(ms.length:Int))=s.aw+(ms.length:Int):=dv (by omega) (by omega)
 have q2:¬((1000:Int)<s.aw+(ms.length:Int)):=by omega
 simp only[h15,au,jN,aC,aA,q1,aX,w,q2,asd n s (by omega) (λT hT=>(hG.cy T hT).cp) (by omega)]
 exact acZ n ms hl hm ms 0 n [s] ts s rfl (by omega) fN (by simp) (by omega) rfl hs hc
def avO (n:Nat) (m:aF) (h:pX m=true):VD n m=some true:=by
 have key:∀q:aF,BL q=true->qa n q=some true:=λq hq=>by
  unfold BL at hq;simp only[bF,tP,jW] at hq;obtain ⟨a1,a2,a3,a4,a5,a6,a7,a8,a9,a10,a11,a12⟩:=hq;have a1':((q.aD.ax==0)&&((q.aD.bX==0)&&((decide (q.aD.bB=ByteArray.empty))&&true)))=true:=a1;unfold qa;simp only[a1',a2,a3,a4,a5,a6,a7,a8,a9,a10,a11,a12];rfl
 unfold pX at h;simp only[bF,jW] at h;obtain ⟨h1,h8,hb⟩:=h;have hb:=key _ hb;unfold VD RT;unfold On at hb;rcases (by omega:m.bh=1\/m.bh=2\/m.bh=3\/m.bh=4\/m.bh=5\/m.bh=6\/m.bh=7\/m.bh=8) with e|e|e|e|e|e|e|e<;>(simp[e,zv,zT] at hb;simp[e,hb])
def aIP (n:Nat) (hn:1700000<n) (fN:n<4294967296) (s:ag) (hs:SG s) (m:aF) (hm:MB m) {t:ag} (hb:pX m=true) (h:ld s m t) (ht:gy t=0):F95 n s m=some (t,true):=by
 have hl8:=hs.len;have hv0:=hs.v0;have pO:=hs.v1;unfold F95 Qw;rw[avO n m hb,au,dw,aM YE];refine (NZ (zc n) s.ai (by omega) (λT hT=>(hs.cy T hT).cp) s m s.ai 0 n (ag.mk 0 []) (ag.mk (bl (s.aw+1)) []) rfl (by omega)).trans ?_
 rw[dv (by omega) (by omega)]
 have gS:∀U∈s.ai,w6 U:=λU hU=>(hs.cy U hU).wa
 have done:∀(b4:ag) (vv:ag) (ts:br),vv.aw=s.aw+1->(∀U∈ts,w6 U)->t=⟨s.aw+1,ts⟩->l9 n b4 vv ts=some (t,true):=λb4 vv ts h2 h3 h4=>by
  unfold l9;rw[FD n ⟨vv.aw,ts⟩ h3 (by omega) fN,au,h2,<-h4,ht]
  rfl
 have mid:m.bh≠6->∀(j:Nat) (T:aj),m.aG=(j:Int)->s.ai[j]? =some T->(∀b4,uj n j (T.ae.length:Int) (decide (T.ay<=m.aO)&&decide (m.aO<(T.ae.length:Int))) s m b4 ⟨s.aw+1,s.ai⟩ s.ai=some (t,true))->zc n s m (ag.mk 0 []) (ag.mk (s.aw+1) s.ai) s.ai=some (t,true):=λh6 j T hj hT hk=>by
  have fS:=(cf.1 hT).1;have iN:setAt s.ai j T=some s.ai:=by rw[dx _ fS,jB hT]
  have q6:(m.bh==6)=false:=Sw h6;have q1:¬((j:Int)<0):=by omega
  have q2:(j:Int)<(s.ai.length:Int):=by omega
  unfold zc;simp only[q6,aC,aA,hj,q1,aX,q2,aU,dw,gG fS,au,cC,hT];by_cases hc:T.ay<=m.aO
  ·have s8:¬m.aO<T.ay:=by omega
   simp only[s8,aX,gM,aB,iN,au];have:=hk (ag.mk 0 []);rwa[rV hc,hZ] at this
  ·have s8:m.aO<T.ay:=by omega
   simp only[s8,aU,dw,aC,aA,iN,au];have:=hk (ag.mk 0 []);rwa[YD hc,gd] at this
 cases h with
 |alY j T q hj hT hv hk=>
  refine mid (by omega) j T hj hT λb4=> ?_
  have fS:=(cf.1 hT).1;have hG:=hs.cy T (cN hT);have hc8:=hG.cols;simp only[uj,q,Int.reduceBEq,aB,AO,au,hv,dw,aC,aA,hk,jN,hT,dI _ _ (show T.ae.length+ [(cJ.mk m.av m.ax)].length<=1000000 by simp;omega),dx _ fS]
  show l9 _ _ _ _=_;exact done _ _ _ rfl (sw gS hG.wa) rfl
 |Xs j c T x q hj hT hc hx hk hv Bs hu=>
  refine mid (by omega) j T hj hT λb4=> ?_
  have fS:=(cf.1 hT).1;have hG:=hs.cy T (cN hT);have hc8:=hG.cols;have iN:setAt s.ai j T=some s.ai:=by rw[dx _ fS,jB hT]
  have eA:=(cf.1 hx).1;have w:bl ((c:Int)+1)=((c+1:Nat):Int):=bY eA (by omega)
  have ct:tD T.ae.length (c:Int)=some c:=by unfold tD;rw[aH ⟨by omega,by omega⟩];rfl
  have cl:BI T.ae.length ((c+1:Nat):Int)=some (c+1):=by unfold BI;rw[aH ⟨by omega,by omega⟩];rfl
  have an:G1 T.ae c ((T.ae.drop (c+1)).take (T.ae.length-(c+1)))=some (T.ae.take c++T.ae.drop (c+1)):=by
   unfold G1;rw[kn (l:=T.ae.drop (c+1)) (by simp),aH ⟨by omega,by omega,by simp;omega⟩]
  have tok:TOK (T.ae.length:Int) ⟨T.av,T.ae.take c++T.ae.drop (c+1),T.ay,T.af,T.ak⟩:=⟨by rw[ya eA];omega,hG.tok.refs,hG.tok.ref,hG.tok.zu,hG.tok.jH⟩
  have q1:T.ay<=(c:Int):=hk;have q2:(c:Int)<(T.ae.length:Int):=by omega
  simp only[uj,q,Int.reduceBEq,aC,aA,aB,hT,au,hc,q1,q2,aU,ow,dw,AO,hv,gG eA,cC,hx,Bs,jN,Mn n T (c:Int) (by omega) hG.cp (by omega),hu,jB hT,w,ct,cl,an,Mm n _ (T.ae.length:Int) (by omega) tok (c:Int) (-1) ⟨by omega,by omega⟩ (by omega),dx _ fS]
  show l9 _ _ _ _=_;exact done _ _ _ rfl (sw gS (Kv (T:=⟨T.av,T.ae.take c++T.ae.drop (c+1),T.ay,T.af,T.ak⟩) hG.wa)) rfl
 |move j c d T q hj hT hc hd h1 h2 hk yT=>
  refine mid (by omega) j T hj hT λb4=> ?_
  have fS:=(cf.1 hT).1;have hG:=hs.cy T (cN hT);have hc8:=hG.cols;have iN:setAt s.ai j T=some s.ai:=by rw[dx _ fS,jB hT]
  have q1:T.ay<=(c:Int):=hk;have q2:(c:Int)<(T.ae.length:Int):=by omega
  have q3:¬(d:Int)<T.ay:=by omega
  have q4:(d:Int)<(T.ae.length:Int):=by omega
  have abx:rz (T.ae.length:Int) ((cJ.mk ByteArray.empty 0):cJ)=some (List.replicate T.ae.length (cJ.mk ByteArray.empty 0)):=by
   unfold rz;rw[aH ⟨by omega,by omega⟩];rfl
  simp only[uj,q,Int.reduceBEq,aC,aA,aB,hT,au,hc,hd,q1,q2,q3,q4,aU,aX,ow,dw,abx];obtain ⟨y7,e⟩:=NY (Mu (l9 n) n) j m c d hc hd T.ae hc8 h1 h2 s.ai T.ae 0 n (ag.mk b4.aw []) (ag.mk (s.aw+1) s.ai) (List.replicate T.ae.length (cJ.mk ByteArray.empty 0)) (aj.mk T.av [] T.ay T.af T.ak) rfl (by omega) (by simp) (λq hq=>by omega) (by omega)
  refine e.trans ?_;rw[iN,au];unfold Mu;have tok:TOK (T.ae.length:Int) ⟨T.av,uo T.ae c d,T.ay,T.af,T.ak⟩:=⟨by rw[El h1 h2];omega,hG.tok.refs,hG.tok.ref,hG.tok.zu,hG.tok.jH⟩
  rw[hT,au,Mm n _ (T.ae.length:Int) (by omega) tok m.aO m.eJ hm.CM (by omega),au,dx _ fS,au,hc,hd]
  show l9 _ _ _ _=_;exact done _ _ _ rfl (sw gS (Kv (T:=⟨T.av,uo T.ae c d,T.ay,T.af,T.ak⟩) hG.wa)) rfl
 |aka j c T x q hj hT hc hx=>
  refine mid (by omega) j T hj hT λb4=> ?_
  have fS:=(cf.1 hT).1;have hG:=hs.cy T (cN hT);have eA:=(cf.1 hx).1;have q1:¬(c:Int)<0:=by omega
  have q2:(c:Int)<(T.ae.length:Int):=by omega
  simp only[uj,q,Int.reduceBEq,aC,aA,aB,hT,au,hc,q1,q2,aU,aX,dw,gG eA,cC,hx,dx _ eA,dx _ fS];show l9 _ _ _ _=_;exact done _ _ _ rfl (sw gS hG.wa) rfl
 |ajX j T q hj hT=>
  refine mid (by omega) j T hj hT λb4=> ?_
  have fS:=(cf.1 hT).1;have hG:=hs.cy T (cN hT);simp only[uj,q,Int.reduceBEq,aC,aA,aB,hT,au,dx _ fS];show l9 _ _ _ _=_;exact done _ _ _ rfl (sw gS hG.wa) rfl
 |alX q=>
  have hz:∀T∈s.ai++ [m.ar],w6 T:=λT hT=>by
   rcases eO.1 hT with h|h
   ·exact (hs.cy T h).wa
   ·rw[ez.1 h];exact λp hp=>by have:=hm.dfn.jH p hp;omega
  unfold zc;rw[aH (by rw[q];rfl),VC n m.ar hm.dfn.len hm.dfn.ref (by omega),au,dI _ _ (by simp;omega),au,dx _ (by simp),au,jB (by simp)]
  rw[FD n ⟨s.aw+1,s.ai++ [m.ar]⟩ hz (by omega) fN,au,ht]
  rfl
 |Xr j T q hj hT hr=>
  refine mid (by omega) j T hj hT λb4=> ?_
  have fS:=(cf.1 hT).1;have aug:yI j s.ai 0:=λq U h=>by omega
  have uq:yI j s.ai s.ai.length:=λi U _ hi hU=>by
   unfold r8;rw[iT];exact λr h=>by simpa using hr i U hi hU r h
  obtain ⟨r,e,hP⟩:=G6 (P:=λr=>r=(_,true)) (Mr (l9 n) n) s m j hj (by omega) s.ai (by omega) (λU hU=>⟨by have:=(hs.cy U hU).refs;omega,λr hr=>by obtain ⟨_,_,r1,r2⟩:=(hs.cy U hU).ref r hr;exact ⟨by omega,by omega⟩⟩) (s.aw+1) (λh=>absurd uq h) (λy7 iV cur g _=>by
   unfold Mr;exact ⟨_,done _ _ _ rfl (λU hU=>by
    obtain ⟨V,hV,rfl⟩:=cP.1 hU;have hV':V∈s.ai:=by
     rcases eO.1 hV with h|h
     ·exact qC h
     ·exact pE h
    exact gS V hV') rfl,rfl⟩) s.ai 0 n (ag.mk b4.aw []) s.ai s.ai rfl (by omega) rfl (λ_ _=>rfl) aug
  rw[show (pj j (s.ai.take 0)).map (l7 (j:Int))= [] by simp[pj]] at e
  rw[hP] at e;simp only[uj,q,Int.reduceBEq,aC,aA,aB];exact e
 |Ed j c T x q hj hT hc hx hk hp hu=>
  refine mid (by omega) j T hj hT λb4=> ?_
  have fS:=(cf.1 hT).1;have hG:=hs.cy T (cN hT);have hc8:=hG.cols;have iN:setAt s.ai j T=some s.ai:=by rw[dx _ fS,jB hT]
  have eA:=(cf.1 hx).1;have q1:T.ay<=(c:Int):=hk;have q2:(c:Int)<(T.ae.length:Int):=by omega
  simp only[uj,q,Int.reduceBEq,aC,aA,aB,hT,au,hc,q1,q2,aU,ow,dw,gG eA,cC,hx,aiZ n m.bc _ (by omega),hp,Mn n T (c:Int) (by omega) hG.cp (by omega),hu,iN]
  show l9 _ _ _ _=_;exact done _ _ _ rfl gS rfl
def acS (n0:Nat) (ms:cG) (hl:ms.length<=8) (hm:∀m∈ms,MB m):∀(x:cG) (i k:Nat) (b ts:fO) (cur:ag),ms.drop i=x->x.length+1700000<k->k<4294967296->b.length<=100+i->i<=8->b.getLast? =some cur->gy cur=0->eu cur x ts->
  Ar (My n0) k (ms.length:Int) (i:Int) ms b=some (b++ts,0)
 | [],i,k+1,b,[],cur,hd,hk,jP,hb,hi8,hc,hs,si=>by
  have hi:ms.length<=i:=by simpa using hd
  have hq:¬((i:Int)<(ms.length:Int)):=by omega
  simp only[Ar,Mz,hq,aX,aC,aA,My,tM]
 |mg::x,i,k+1,b,t::ts,cur,hd,hk,jP,hb,hi8,hc,hs,si=>by
  obtain ⟨g1,g2,g3⟩:=bC hd;have hq:(i:Int)<(ms.length:Int):=by omega
  simp at hk;obtain ⟨cY,CB⟩:=Dx hc;have uv:0<b.length:=Sv.2 cY;have w:bl ((b.length:Int)-1)=((b.length-1:Nat):Int):=by rw[dv (by omega) (by omega)];omega
  obtain ⟨c1,c2,c3,c4⟩:=si;have e95:=aIP k (by omega) (by omega) cur (.of hs) mg (hm mg (cN g1)) c1 c2 c3
  simp only[Ar,Mz,hq,aU,aB,gG g3,au,cC,g1,w,gG (show b.length-1<b.length by omega),CB,e95,dw,aC,aA,dI b [t] (by simp;omega),bY g3 (by omega)]
  rw[acS n0 ms hl hm x (i+1) k (b++ [t]) ts t g2 (by omega) (by omega) (by simp;omega) (by omega) (by simp) c3 c4]
  simp
 |_,_,0,_,_,_,_,hk,_,_,_,_,_,_=>by simp at hk
 | [],_,_+1,_,_::_,_,_,_,_,_,_,_,_,h=>by cases h
 |_::_,_,_+1,_,[],_,_,_,_,_,_,_,_,h=>by cases h
def aIZ (n:Nat) (hn:1800000<n) (fN:n<4294967296) (s:ag) (hs:gy s=0) (ms:cG) (hm:∀m∈ms,MB m) (hl:ms.length<=8) (hv:s.aw+(ms.length:Int)<=1000) (ts:fO) (hc:eu s ms ts):F40 n s ms=some (s::ts,0):=by
 have hG:=SG.of hs;have hv0:=hG.v0;unfold F40 Ye;have q1:¬((8:Int)<(ms.length:Int)):=by omega
 have w:bl (s.aw+(ms.length:Int))=s.aw+(ms.length:Int):=dv (by omega) (by omega)
 have q2:¬((1000:Int)<s.aw+(ms.length:Int)):=by omega
 rw[FD n s (λT hT=>(hG.cy T hT).wa) (by omega) fN,au,hs]
 simp only[jN,aC,aA,q1,aX,w,q2];exact acS n ms hl hm ms 0 n [s] ts s rfl (by omega) fN (by simp) (by omega) rfl hs hc
end Go.Proofs.YtbnkhmoelnfjoaaGreat
end
