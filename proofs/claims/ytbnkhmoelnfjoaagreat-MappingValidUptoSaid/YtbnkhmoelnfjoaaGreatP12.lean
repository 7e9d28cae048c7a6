/- Part. -/
import Derived.Test.YtbnkhmoelnfjoaaGreatP7
import Derived.Test.YtbnkhmoelnfjoaaGreatP9
import Derived.IntWalk
import Derived.Laws.RangeString
import Derived.Laws.RangeAny
import Derived.Test.YtbnkhmoelnfjoaaGreatP10
set_option linter.all false
set_option maxRecDepth 100000
noncomputable section
namespace Go.Proofs.YtbnkhmoelnfjoaaGreat
open Go.bQ
variable {x k c:Int} {Y:Type} {v:bj} {a cols params:aH} {xs:bJ} {i d p j:Nat} {l o:aL} {f:Int->Int} {m:List (ByteArray×Bool)} {seen:List ByteArray} {q:Int->Bool}
def amD (t:TypeId):Bool:= [5,22].contains t
def aHO (t:TypeId) (h:amD t=true):IW Tryz.prog amD t=true:=by
 have sY:([5,22].all λt=>IW Tryz.prog amD t)=true:=by kernel_rfl
 exact dV.1 sY t (List.contains_iff_mem.1 h)
def ty5 (n:Nat) (xs:List AV) (h:jN Tryz.prog n 5 xs):∃x,xs=acr x:=by
 match n,h with
 |n+1,h=>
  simp only[jN,Tryz.underlying5] at h;obtain ⟨x,rfl,_⟩:=h;exact ⟨x,rfl⟩
def ty22 (n:Nat) (xs:List AV) (h:jN Tryz.prog n 22 xs):∃x,xs= [.iW 5 1 (y5 x)]:=by
 match n,h with
 |n+1,h=>
  simp only[jN,Tryz.underlying22] at h;obtain ⟨rows,rfl,hr⟩:=h;obtain ⟨y,rfl⟩:=aAz λr fY=>ty5 n r (hr r fY)
  exact ⟨y,by rw[VP,show Tryz.prog.cellsOf 5=1 from by kernel_rfl];try rfl⟩
def dI (h1: -9223372036854775808<=x) (h2:x<=9223372036854775807):bh x=x:=IntWalk.i64_in x ⟨h1,h2⟩
def cH (xs:List Y) (i:Nat):idx xs (i:Int)=xs[i]? :=by simp[idx]
mutual
def fj:ag->Nat
 |⟨_,_,_,_,args⟩=>2+kS args
def kS:bJ->Nat
 | []=>0
 |x::xs=>1+fj x+kS xs
end
def pK (xs:bJ):xs.length<=kS xs:=by
 induction xs with
 |nil=>simp[kS]
 |cons x xs ih=>simp[kS];omega
def zv:bj:=bj.mk 0 0 ByteArray.empty
def tJ (v:bj):Bool:=
 if v.aC==1||v.aC==2 then v.dw==0&&decide (v.cP=ByteArray.empty)
 else if v.aC==3 then (v.dw==0||v.dw==1)&&decide (v.cP=ByteArray.empty)
 else if v.aC==4 then decide (v.cP=ByteArray.empty)
 else if v.aC==5 then v.dw==0&&decide ((v.cP.size:Int)<=64)
 else false
def lW (v:bj):Bool:=tJ v&&decide (3<=v.aC)
def aje (n:Nat) (v:bj):ane n v=some (tJ v):=by
 unfold ane aeW tJ;by_cases h1:v.aC=1<;>by_cases h2:v.aC=2<;>by_cases h3:v.aC=3<;>by_cases h4:v.aC=4<;>by_cases h5:v.aC=5<;>by_cases h6:v.dw=0<;>by_cases h7:v.dw=1<;>simp_all<;>simp[<-Int.not_le]
def aCb (n:Nat) (v:bj):avJ n v=some (tJ v):=by
 have:=aje n v;exact this
def afM (h:tJ v=true):1<=v.aC/\v.aC<=5:=by
 unfold tJ at h;split at h
 ·rename_i h1;simp at h1;omega
 ·split at h
  ·rename_i h1;simp at h1;omega
  ·split at h
   ·rename_i h1;simp at h1;omega
   ·split at h
    ·rename_i h1;simp at h1;omega
    ·simp at h
def MW (n:Nat) (v:bj):Ov n v=some (lW v):=by
 unfold Ov afm;rw[aje];simp only[aq,lW];cases tJ v<;>simp<;>simp[<-Int.not_le]
def ajd (n:Nat) (v:bj):adQ n v=some (lW v):=by
 unfold adQ aeR;rw[aCb];simp only[aq,lW];cases h:tJ v with
 |false=>simp
 |true=>
  have:=afM h;by_cases h1:v.aC=1
  ·simp[h1]
  ·by_cases h2:v.aC=2
   ·simp[h2]
   ·have:3<=v.aC:=by omega
    simp[h1,h2,this]
def Wo:∀a b:List UInt8,Lib.compareBytes a b=if Op.bytesLess a b then -1 else if a=b then 0 else 1
 | [],[]=>by simp[Lib.compareBytes,Op.bytesLess]
 | [],_::_=>by simp[Lib.compareBytes,Op.bytesLess]
 |_::_,[]=>by simp[Lib.compareBytes,Op.bytesLess]
 |a::l,b::m=>by
  rw[Lib.compareBytes,Op.bytesLess,Wo l m];by_cases h:a<b
  ·simp[h]
  ·by_cases h2:b<a
   ·have bY:a≠b:=λe=>by subst e;exact absurd h2 (yk _)
    simp[h,h2,bY]
   ·have he:a=b:=UInt8.le_antisymm (Lw.1 h2) (Lw.1 h);subst he;simp[yk]
def uO (a b:bj):Int:=
 if a.aC<b.aC then -1 else if b.aC<a.aC then 1
 else if a.dw<b.dw then -1 else if b.dw<a.dw then 1
 else if Op.bytesLess a.cP.toList b.cP.toList then -1 else if a.cP=b.cP then 0 else 1
def r8:∀a:List UInt8,Op.bytesLess a a=false
 | []=>by simp[Op.bytesLess]
 |a::l=>by simp[Op.bytesLess,r8 l,yk]
def ID {a b:ByteArray} (h:a.data.toList=b.data.toList):a=b:=by
 cases a;cases b;simp at h;simp[h]
def DW (a:ByteArray):a.toList=a.data.toList:=by
 exact ByteArray.toList_eq a
def avC (n:Nat) (a b:ByteArray):amT n a b=some (if Op.bytesLess a.toList b.toList then -1 else if a=b then 0 else 1):=by
 unfold amT;rw[Wo,DW,DW];by_cases h:a=b
 ·subst h;simp
 ·have:a.data.toList≠b.data.toList:=λe=>h (ID e)
  simp[h,this]
def aBJ (n:Nat) (a b:Int):ana n a b=some (if a<b then -1 else if b<a then 1 else 0):=by
 unfold ana aeU amW aeB;by_cases h1:a<b
 ·simp[h1]
 ·by_cases h2:b<a<;>simp[h1,h2]
def aBI (n:Nat) (a b:Int):amZ n a b=some (if a<b then -1 else if b<a then 1 else 0):=by
 unfold amZ aeT amV aeA;by_cases h1:a<b
 ·simp[h1]
 ·by_cases h2:b<a<;>simp[h1,h2]
def aCa (n:Nat) (a b:bj):anl n a b=some (uO a b):=by
 unfold anl afv avH aeS avD aez;rw[aBJ,aBI,avC];let ⟨k,i,t⟩:=a;let ⟨k',i',t'⟩:=b;unfold uO;simp only[aq];by_cases h1:k<k'
 ·have:k≠k':=by omega
  simp[h1,this]
 ·by_cases h2:k'<k
  ·have:k≠k':=by omega
   simp[h1,h2,this]
  ·have hk:k=k':=by omega
   subst hk;by_cases h3:i<i'
   ·have:i≠i':=by omega
    simp[h3,this]
   ·by_cases h4:i'<i
    ·have:i≠i':=by omega
     simp[h3,h4,this]
    ·have hi:i=i':=by omega
     subst hi;by_cases h5:t=t'
     ·subst h5;simp[r8]
     ·simp[h5]
def bN {xs:List Y} {x:Y} {l:List Y} (h:xs.drop i=x::l):xs[i]? =some x/\xs.drop (i+1)=l/\i<xs.length:=by
 have h1:i<xs.length:=by
  by_cases hl:i<xs.length
  ·exact hl
  ·rw[qY (by omega)] at h;simp at h
 rw[se h1] at h;let ⟨q1,q2⟩:=OE h;exact ⟨by simp[h1,q1],q2,h1⟩
def sK {x:ag} (h:x∈xs):fj x+xs.length<=kS xs:=by
 induction xs with
 |nil=>simp at h
 |cons y ys ih=>
  have hl:=pK ys;simp only[kS,mM];rcases bB.1 h with rfl|h
  ·omega
  ·have:=ih h;omega
def Ok {Y:Type} (x:Option Y) (P:Y->Prop):Prop:=∃a,x=some a/\P a
def Ok.pure {a:Y} {P:Y->Prop} (h:P a):Ok (some a) P:=⟨a,rfl,h⟩
def Ok.bind {O:Type} {x:Option Y} {f:Y->Option O} {P:Y->Prop} {Q:O->Prop} (h:Ok x P) (k:∀a,P a->Ok (f a) Q):Ok (x.bind f) Q:=by
 obtain ⟨a,rfl,ha⟩:=h;exact k a ha
def Ok.mono {x:Option Y} {P Q:Y->Prop} (h:Ok x P) (k:∀a,P a->Q a):Ok x Q:=by
 let ⟨a,h1,h2⟩:=h;exact ⟨a,h1,k a h2⟩
def Ok.ite {b:Bool} {x y:Option Y} {P:Y->Prop} (h1:b=true->Ok x P) (h2:b=false->Ok y P):Ok (if b=true then x else y) P:=by
 cases b with
 |true=>simpa using h1 rfl
 |false=>simpa using h2 rfl
structure dL (c:aQ):Prop where
 lo:0<=c.AO
 hi:c.AO<=c.oY.length
 len:c.oY.length<=1000
 byte:∀x∈c.oY,0<=x/\x<=255
def eE (xs ys:List Y) (h:xs.length+ys.length<=1000000):app xs ys=some (xs++ys):=by unfold app;rw[ax (by omega)]
def aHK (n:Nat) (cU:aH) (m:Int) (hb:∀x∈cU,0<=x/\x<=255) (h0:0<=m) (h1:m<=1000):Ok (F13 n cU m) dL:=by
 unfold F13 anM;have hc:∃k:Nat,(if m<(cU.length:Int) then m else (cU.length:Int))=(k:Int)/\k<=cU.length/\k<=1000:=by
  by_cases h:m<(cU.length:Int)
  ·exact ⟨m.toNat,by rw[ax h];omega,by omega,by omega⟩
  ·exact ⟨cU.length,by rw[aA h],cF _,by omega⟩
 let ⟨k,e,k1,k2⟩:=hc;rw[e];have h2:cut cU none (some (k:Int))=some (cU.take k):=by simp[cut,k1]
 rw[h2,aq,eE _ _ (by simp;omega),aq]
 refine Ok.pure ⟨Int.le_refl _,by simp,by simp;omega,λx hx=> ?_⟩
 exact hb x (oH (by simpa using hx))
def kq (n:Nat) (c:aQ) (m:Int) (h:dL c):Ok (sE n c m) λr=>dL r.2/\0<=r.1/\(1<=m->r.1<m)/\(m<1->r.1=0)/\r.1<=255:=by
 unfold sE anJ;refine Ok.ite (λh1=>Ok.pure ⟨h,Int.le_refl _,λh=>by omega,λ_=>rfl,by omega⟩) λh1=> ?_
 simp at h1;refine Ok.ite (λh2=>Ok.pure ⟨h,Int.le_refl _,λh=>by omega,λ_=>rfl,by omega⟩) λh2=> ?_
 simp at h2;have h3:=h.lo;have h4:=h.len;rw[dI (x:=c.AO+1) (by omega) (by omega),dI (by omega) (by omega)]
 have e:c.AO+1-1=(c.AO.toNat:Int):=by omega
 have bD:c.AO.toNat<c.oY.length:=by omega
 rw[e,cH,dW bD,aq];have hb:=h.byte (c.oY[c.AO.toNat]) (xc _);rw[dI (by omega) (by omega)]
 have hm:m≠0:=by omega
 simp only[rem,hm,aG,aq];have q1:=Int.tmod_nonneg m hb.1;have q2:=Int.tmod_lt_of_pos c.oY[c.AO.toNat] (by omega:0<m)
 have q3:c.oY[c.AO.toNat].tmod m<=c.oY[c.AO.toNat]:=by
  rw[Int.tmod_eq_emod_of_nonneg hb.1];have:=Int.emod_add_mul_ediv c.oY[c.AO.toNat] m;have h5:0<=m*(c.oY[c.AO.toNat] / m):=Int.mul_nonneg (by omega) (Int.ediv_nonneg hb.1 (by omega))
  omega
 exact Ok.pure ⟨⟨by simp;omega,by simp;omega,h4,h.byte⟩,q1,λ_=>q2,λh=>by omega,by simp;omega⟩
def Al (n:Nat) (c:aQ) (m:Int) (h:dL c):Ok (KK n c m) λr=>dL r.2:=by
 unfold KK anx;refine Ok.bind (kq n c m h) λr hr=> ?_
 exact Ok.pure hr.1
def aBZ (n:Nat) (c:aQ) (h:dL c):Ok (ank n c) λr=>dL r.2/\ -9223372036854775808<=r.1/\r.1<=9223372036854775807:=by
 unfold ank afs;refine Ok.bind (kq n c 12 h) λr ⟨hr,h0,_,_,h2⟩=> ?_
 refine Ok.ite (λ_=>Ok.pure ⟨hr,by simp,by simp⟩) λ_=> ?_
 refine Ok.ite (λ_=>Ok.pure ⟨hr,by simp,by simp⟩) λ_=> ?_
 refine Ok.ite (λ_=>Ok.pure ⟨hr,by simp,by simp⟩) λ_=> ?_
 have q1:=Int.tmod_nonneg 4 h0;have q2:=Int.tmod_lt_of_pos r.1 (by omega:(0:Int)<4)
 exact Ok.pure ⟨hr,by simp;omega,by simp;omega⟩
def W3 (c:aQ):∀(k n:Nat) (s:ByteArray) (i:Int),i=64-k->k<=64->s.size=64-k->k<n->Ok (Gp (λl b=>some (l,b)) n s i c) λr=>r.2=c/\r.1.size<=64
 |0,n+1,s,i,hi,_,hs,_=>by
  have h:¬i<64:=by omega
  simp only[Gp,R9,h,bg,aK,aG];exact Ok.pure ⟨rfl,by simp;omega⟩
 |k+1,n+1,s,i,hi,hk,hs,hn=>by
  have h:i<64:=by omega
  simp only[Gp,R9,h,aW,aF];have hc:cat s (ByteArray.mk #[255])=some (s++ByteArray.mk #[255]):=by
   have:(ByteArray.mk #[255]).size=1:=rfl;unfold cat;rw[ax (by omega)]
  rw[hc,aq,dI (by omega) (by omega)]
  have mD:(s++ByteArray.mk #[255]).size=s.size+1:=by rw[Sp];rfl
  exact W3 c k n _ _ (by omega) (by omega) (by omega) (by omega)
 |_,0,_,_,_,_,_,hn=>by simp at hn
def W0 (c:aQ):∀(k n:Nat) (s:ByteArray) (i:Int),i=64-k->k<=64->s.size=64-k->k<n->Ok (Gn (λl b=>some (l,b)) n s i c) λr=>r.2=c/\r.1.size<=64
 |0,n+1,s,i,hi,_,hs,_=>by
  have h:¬i<64:=by omega
  simp only[Gn,R8,h,bg,aK,aG];exact Ok.pure ⟨rfl,by simp;omega⟩
 |k+1,n+1,s,i,hi,hk,hs,hn=>by
  have h:i<64:=by omega
  simp only[Gn,R8,h,aW,aF];have hc:cat s (ByteArray.mk #[98])=some (s++ByteArray.mk #[98]):=by
   have:(ByteArray.mk #[98]).size=1:=rfl;unfold cat;rw[ax (by omega)]
  rw[hc,aq,dI (by omega) (by omega)]
  have mD:(s++ByteArray.mk #[98]).size=s.size+1:=by rw[Sp];rfl
  exact W0 c k n _ _ (by omega) (by omega) (by omega) (by omega)
 |_,0,_,_,_,_,_,hn=>by simp at hn
def aBY (n:Nat) (hn:100<=n) (c:aQ) (h:dL c):Ok (anj n c) λr=>dL r.2/\r.1.size<=64:=by
 unfold anj afr;refine Ok.bind (kq n c 10 h) λr ⟨hr,_⟩=> ?_
 refine Ok.ite (λ_=>Ok.pure ⟨hr,fU rfl⟩) λ_=> ?_
 refine Ok.ite (λ_=>Ok.pure ⟨hr,fU rfl⟩) λ_=> ?_
 refine Ok.ite (λ_=>Ok.pure ⟨hr,fU rfl⟩) λ_=> ?_
 refine Ok.ite (λ_=>Ok.pure ⟨hr,fU rfl⟩) λ_=> ?_
 refine Ok.ite (λ_=>Ok.pure ⟨hr,fU rfl⟩) λ_=> ?_
 refine Ok.ite (λ_=>Ok.pure ⟨hr,fU rfl⟩) λ_=> ?_
 refine Ok.ite (λ_=>Ok.pure ⟨hr,fU rfl⟩) λ_=> ?_
 refine Ok.ite (λ_=>Ok.pure ⟨hr,fU rfl⟩) λ_=> ?_
 refine Ok.ite (λ_=> ?_) λ_=> ?_
 ·exact (W3 r.2 64 n ByteArray.empty 0 (by omega) (by omega) rfl (by omega)).mono λx ⟨e,hx⟩=>⟨by rw[e];exact hr,hx⟩
 ·exact (W0 r.2 64 n ByteArray.empty 0 (by omega) (by omega) rfl (by omega)).mono λx ⟨e,hx⟩=>⟨by rw[e];exact hr,hx⟩
def Gt (n:Nat) (hn:100<=n) (c:aQ) (k:Int) (h:dL c) (hk:3<=k) (gO:k<=5):Ok (F93 n c k) λr=>dL r.2/\r.1.aC=k/\lW r.1=true:=by
 unfold F93 anu;refine Ok.ite (λh3=> ?_) λh3=> ?_
 ·simp at h3;refine Ok.bind (kq n c 2 h) λr ⟨hr,h0,h1,_⟩=>Ok.pure ⟨hr,rfl,?_⟩
  have h1:=h1 (by omega)
  have:r.1=0\/r.1=1:=by omega
  rcases this with e|e<;>simp[lW,tJ,h3,e]
 ·simp at h3;refine Ok.ite (λh4=> ?_) λh4=> ?_
  ·simp at h4;refine Ok.bind (aBZ n c h) λr ⟨hr,_⟩=>Ok.pure ⟨hr,rfl,by simp[lW,tJ,h4]⟩
  ·simp at h4;refine Ok.bind (aBY n hn c h) λr ⟨hr,hs⟩=>Ok.pure ⟨hr,by simp;omega,?_⟩
   have:(r.1.size:Int)<=64:=by omega
   simp[lW,tJ,this]
def AF (k:Int):Bool:=k==3||k==4||k==5
def nS (l:aH):Bool:=l.all AF
def cD {L:Nat} (h:i<L) (hl:L<4294967296):bh ((i:Int)+1)=((i+1:Nat):Int):=by rw[dI (by omega) (by omega)];rfl
def aiW (n:Nat) (k:Int):adM n k=some (AF k):=by
 unfold adM aeJ AF;by_cases h3:k=3
 ·simp[h3]
 ·by_cases h4:k=4
  ·simp[h4]
  ·simp[h3,h4]
def aiK (xs:aH) (hl:xs.length<4294967296):∀(l:aH) (i n:Nat),xs.drop i=l->l.length<n->F6 (some true) n xs (xs.length:Int) (i:Int)=some (nS l)
 | [],i,n+1,hd,hn=>by
  have:xs.length<=i:=by simpa using hd
  have h:¬((i:Int)<(xs.length:Int)):=by omega
  simp[F6,Rn,h,nS]
 |x::l,i,n+1,hd,hn=>by
  let ⟨h1,h2,h3⟩:=bN hd;have h:((i:Int)<(xs.length:Int)):=by omega
  have ih:=aiK xs hl l (i+1) n h2 (by simp at hn;omega)
  simp only[F6,Rn,h,aW,aF,cH,h1,aq,aiW,cD h3 hl,ih];simp only[nS,uq];cases AF x<;>simp
 |_,_,0,_,hn=>by simp at hn
def ajb (n:Nat) (xs:aH) (hl:xs.length<4294967296) (hn:xs.length<n):adO n xs=some (nS xs):=by
 have:=aiK xs hl xs 0 n rfl hn;simpa[adO,aeP,aeQ] using this
def aiM (xs:aH) (hl:xs.length<4294967296):∀(l:aH) (i n:Nat),xs.drop i=l->l.length<n->Gs (some true) n xs (xs.length:Int) (i:Int)=some (nS l)
 | [],i,n+1,hd,hn=>by
  have:xs.length<=i:=by simpa using hd
  have h:¬((i:Int)<(xs.length:Int)):=by omega
  simp[Gs,Sk,h,nS]
 |x::l,i,n+1,hd,hn=>by
  let ⟨h1,h2,h3⟩:=bN hd;have h:((i:Int)<(xs.length:Int)):=by omega
  have ih:=aiM xs hl l (i+1) n h2 (by simp at hn;omega)
  simp only[Gs,Sk,h,aW,aF,cH,h1,aq,cD h3 hl,ih];simp only[nS,uq,AF];by_cases q3:x=3
  ·simp[q3]
  ·by_cases q4:x=4
   ·simp[q4]
   ·by_cases q5:x=5<;>simp[q3,q4,q5]
 |_,_,0,_,hn=>by simp at hn
def ajl (n:Nat) (xs:aH) (hl:xs.length<4294967296) (hn:xs.length<n):aeh n xs=some (nS xs):=by
 have:=aiM xs hl xs 0 n rfl hn;simpa[aeh,afA,afB] using this
mutual
def rm:ag->Nat
 |⟨_,_,_,_,args⟩=>1+qh args
def qh:bJ->Nat
 | []=>0
 |x::xs=>rm x+qh xs
end
mutual
def uN:ag->Nat
 |⟨_,_,_,_,args⟩=>1+ud args
def ud:bJ->Nat
 | []=>0
 |x::xs=>max (uN x) (ud xs)
end
def aif (p:ag):1<=rm p:=by let ⟨_,_,_,_,_⟩:=p;simp[rm]
def aja:∀(n:Nat) (p:ag) (m:Int),fj p<=n->fj p<4294967296->0<=m->m<=24->Ok (Vu n p m) λr=>r<=25/\(m+rm p<=24->r=m+rm p)/\(24<m+rm p->24<r)
 |0,⟨_,_,_,_,_⟩,_,h,_,_,_=>by simp[fj] at h
 |n+1,⟨op,c,l,r,args⟩,m,h,hb,h0,h1=>by
  simp only[fj] at h hb;have hlen:=pK args;have loop:∀(xs:bJ) (i k:Nat) (m:Int),args.drop i=xs->xs.length<k->0<=m->m<=25->
    Ok (F5 (Vu n) (λr=>some r) k m (i:Int) ⟨op,c,l,r,args⟩) λr=>r<=25/\(m+qh xs<=24->r=m+qh xs)/\(24<m+qh xs->24<r):=by
   intro xs;induction xs with
   |nil=>
    intro i k m hd hk m0 m1;have:args.length<=i:=by simpa using hd
    have hq:¬((i:Int)<(args.length:Int)):=by omega
    cases k with
    |zero=>simp at hk
    |succ k=>
     simp only[F5,Rm,hq,bg,aK,aG];exact Ok.pure ⟨m1,λ_=>by simp[qh],λh=>by simp[qh] at h;exact h⟩
   |cons x xs ih=>
    intro i k m hd hk m0 m1;let ⟨g1,g2,g3⟩:=bN hd;have hq:((i:Int)<(args.length:Int)):=by omega
    cases k with
    |zero=>simp at hk
    |succ k=>
     simp only[F5,Rm,hq,aW,aF];have hx:x∈args:=cX g1;have hs:=sK hx;have yc:=aif x;refine Ok.ite (λhm=> ?_) λhm=> ?_
     ·simp at hm;rw[cH,g1,aq];refine Ok.bind (aja n x m (by omega) (by omega) m0 hm) λr ⟨r1,r2,r3⟩=> ?_
      rw[cD g3 (by omega)]
      have JR:0<=r:=by
       by_cases hz:m+rm x<=24
       ·have:=r2 hz;omega
       ·have:=r3 (by omega);omega
      refine (ih (i+1) k r g2 (by simp at hk;omega) JR r1).mono λr' ⟨q1,q2,q3⟩=>⟨q1,λhle=> ?_,λbD=> ?_⟩
      ·simp only[qh] at hle ⊢;have e:=r2 (by omega)
       have:=q2 (by omega)
       omega
      ·simp only[qh] at bD;by_cases hz:m+rm x<=24
       ·have e:=r2 hz;exact q3 (by omega)
       ·have e:=r3 (by omega)
        exact q3 (by omega)
     ·simp at hm;exact Ok.pure ⟨m1,λhle=>by simp only[qh] at hle;omega,λ_=>hm⟩
  unfold Vu aeO;rw[dI (by omega) (by omega)]
  refine (loop args 0 n (m+1) rfl (by omega) (by omega) (by omega)).mono λr' ⟨q1,q2,q3⟩=>⟨q1,λhle=> ?_,λbD=> ?_⟩
  ·simp only[rm] at hle ⊢;have:=q2 (by omega)
   omega
  ·simp only[rm] at bD;exact q3 (by omega)
def aiZ:∀(n:Nat) (p:ag) (m:Nat),fj p<=n->fj p<4294967296->m<=1000->KM n p (m:Int)=some (decide (m<uN p))
 |0,⟨_,_,_,_,_⟩,_,h,_,_=>by simp[fj] at h
 |n+1,⟨op,c,l,r,args⟩,0,h,hb,hm=>by
  have:0<uN ⟨op,c,l,r,args⟩:=by simp only[uN];omega
  simp[KM,Rk,this]
 |n+1,⟨op,c,l,r,args⟩,m+1,h,hb,hm=>by
  simp only[fj] at h hb;have hlen:=pK args;have loop:∀(xs:bJ) (i k:Nat),args.drop i=xs->xs.length<k->
    F4 (KM n) (some false) k ((m+1:Nat):Int) (args.length:Int) (i:Int) ⟨op,c,l,r,args⟩=some (decide (m<ud xs)):=by
   intro xs;induction xs with
   |nil=>
    intro i k hd hk;have:args.length<=i:=by simpa using hd
    have hq:¬((i:Int)<(args.length:Int)):=by omega
    cases k with
    |zero=>simp at hk
    |succ k=>simp[F4,Rl,hq,ud]
   |cons x xs ih=>
    intro i k hd hk;let ⟨g1,g2,g3⟩:=bN hd;have hq:((i:Int)<(args.length:Int)):=by omega
    cases k with
    |zero=>simp at hk
    |succ k=>
     have hx:x∈args:=cX g1;have hs:=sK hx;have hw:bh (((m+1:Nat):Int)-1)=(m:Int):=by rw[dI (by omega) (by omega)];omega
     simp only[F4,Rl,hq,aW,aF,cH,g1,aq,hw,aiZ n x m (by omega) (by omega) (by omega),cD g3 (by omega:args.length<4294967296),
      ih (i+1) k g2 (by simp at hk;omega)]
     by_cases ye:m<uN x
     ·have:m<ud (x::xs):=by simp only[ud];omega
      simp[ye,this]
     ·have:(m<ud (x::xs))↔m<ud xs:=by simp only[ud];omega
      simp[ye,this]
  have bY:¬(((m+1:Nat):Int)=0):=by omega
  have hl:=loop args 0 n rfl (by omega)
  have e:(m+1<uN ⟨op,c,l,r,args⟩)↔m<ud args:=by simp only[uN];omega
  simp only[KM,Rk,wE,bY,aG,aeN];rw[show ((0:Int))=((0:Nat):Int) from rfl,hl];simp[e]
def ajk:∀(n:Nat) (p:ag) (v b:Int),fj p<=n->fj p<4294967296->1<=v->v<=9->0<=b->b<=24->
  Ok (Vx n p v b) λr=>(r.1=true↔((rm p:Int)<=b/\v+uN p<=9))/\(r.1=true->r.2=b-rm p)
 |0,⟨_,_,_,_,_⟩,_,_,h,_,_,_,_,_=>by simp[fj] at h
 |n+1,⟨op,c,l,r,args⟩,v,b,h,hb,v1,v2,b1,b2=>by
  simp only[fj] at h hb;have hlen:=pK args;have loop:∀(xs:bJ) (i k:Nat) (b:Int),args.drop i=xs->xs.length<k->v<=8->0<=b->b<=24->
    Ok (Gr (Vx n) (λb=>some (true,b)) k v args (args.length:Int) (i:Int) b) λr=>(r.1=true↔((qh xs:Int)<=b/\v+ud xs<=8))/\(r.1=true->r.2=b-qh xs):=by
   intro xs;induction xs with
   |nil=>
    intro i k b hd hk hv b1 b2;have:args.length<=i:=by simpa using hd
    have hq:¬((i:Int)<(args.length:Int)):=by omega
    cases k with
    |zero=>simp at hk
    |succ k=>
     simp only[Gr,Sj,hq,bg,aK,aG];exact Ok.pure ⟨by simp[qh,ud];omega,by simp[qh]⟩
   |cons x xs ih=>
    intro i k b hd hk hv b1 b2;let ⟨g1,g2,g3⟩:=bN hd;have hq:((i:Int)<(args.length:Int)):=by omega
    cases k with
    |zero=>simp at hk
    |succ k=>
     have hx:x∈args:=cX g1;have hs:=sK hx;simp only[Gr,Sj,hq,aW,aF,cH,g1,aq];rw[dI (x:=v+1) (by omega) (by omega)]
     refine Ok.bind (ajk n x (v+1) b (by omega) (by omega) (by omega) (by omega) b1 b2) λr ⟨r1,r2⟩=> ?_
     refine Ok.ite (λhr=> ?_) λhr=> ?_
     ·simp at hr;refine Ok.pure ⟨⟨λh=>by simp at h,λ⟨h1,h2⟩=> ?_⟩,λh=>by simp at h⟩
      simp only[qh,ud] at h1 h2;have:=r1.2 ⟨by omega,by omega⟩
      rw[hr] at this;exact absurd this (by simp)
     ·simp at hr;have e:=r2 hr;have q:=r1.1 hr;rw[cD g3 (by omega)]
      have yc:=aif x;refine (ih (i+1) k r.2 g2 (by simp at hk;omega) hv (by omega) (by omega)).mono λr' ⟨q1,q2⟩=>⟨⟨λh=> ?_,λ⟨h1,h2⟩=> ?_⟩,λh=> ?_⟩
      ·have:=q1.1 h;simp only[qh,ud];omega
      ·simp only[qh,ud] at h1 h2;exact q1.2 ⟨by omega,by omega⟩
      ·have:=q2 h;simp only[qh];omega
  unfold Vx afz;rw[dI (by omega) (by omega)]
  simp only[rm,uN];refine Ok.ite (λfT=> ?_) λfT=> ?_
  ·simp at fT;refine Ok.pure ⟨⟨λh=>by simp at h,λh=> ?_⟩,λh=>by simp at h⟩
   omega
  ·simp at fT;refine Ok.ite (λhv=> ?_) λhv=> ?_
   ·simp at hv;refine Ok.pure ⟨⟨λh=>by simp at h,λh=> ?_⟩,λh=>by simp at h⟩
    omega
   ·simp at hv;refine (loop args 0 n (b-1) rfl (by omega) hv (by omega) (by omega)).mono λr' ⟨q1,q2⟩=>⟨⟨λh=> ?_,λ⟨h1,h2⟩=> ?_⟩,λh=> ?_⟩
    ·have:=q1.1 h;omega
    ·exact q1.2 ⟨by omega,by omega⟩
    ·have:=q2 h;omega
def y7 (v:bj):Bool:=v.aC==0&&(v.dw==0&&(decide (v.cP=ByteArray.empty)&&true))
def A7 (o:aL):Bool:=o.aC==0&&(o.cJ==0&&(y7 o.aV&&true))
def kAt (l:aH) (o:aL):Int:=if 0<=o.cJ/\o.cJ<l.length/\y7 o.aV=true then (l[o.cJ.toNat]?).getD 0 else 0
def lp (cols params:aH) (o:aL):Int:=
 if o.aC==3 then (if o.cJ==0&&lW o.aV then o.aV.aC else 0) else if o.aC==2 then kAt params o else if o.aC==1 then kAt cols o else 0
def KS (n:Nat) (l:aH) (o:aL):KT n l o=some (kAt l o):=by
 unfold KT kAt;by_cases h1:o.cJ<0
 ·have:¬0<=o.cJ:=by omega
  simp[h1,this]
 ·by_cases h2:(l.length:Int)<=o.cJ
  ·have:¬o.cJ<l.length:=by omega
   simp[h1,h2,this]
  ·have e1:0<=o.cJ:=by omega
   have e2:o.cJ<l.length:=by omega
   have e3:o.cJ.toNat<l.length:=by omega
   have cK:idx l o.cJ=some (l[o.cJ.toNat]):=by simp[idx,e1,e3]
   cases h3:y7 o.aV with
   |false=>
    simp only[y7] at h3;simp only[h1,h2,bg,aK,aG,ge_iff_le,h3,kJ,aF,and_false,e2,aW,fA]
   |true=>
    simp only[y7] at h3;simp only[h1,h2,bg,aK,aG,ge_iff_le,h3,fA,cK,aq,e1,e2,and_self,aF,aW,fA];simp[e3]
def aBG (n:Nat) (cols params:aH) (o:aL):adH n cols params o=some (lp cols params o):=by
 unfold adH aex lp;rw[KS,KS,MW];simp only[aq];by_cases h3:o.aC=3
 ·by_cases hi:o.cJ=0<;>cases lW o.aV<;>simp[h3,hi]
 ·by_cases h2:o.aC=2
  ·simp[h2]
  ·by_cases h1:o.aC=1<;>simp[h1,h2,h3]
def aBL (n:Nat) (k:iF) (o:aL):adS n k o=some (lp k.my k.nP o):=by
 have h0:∀l,Rt n l o=some (kAt l o):=λl=>by rw[<-KS n l o];rfl
 unfold adS aeX lp;rw[h0,h0,ajd];simp only[aq];by_cases h3:o.aC=3
 ·by_cases hi:o.cJ=0<;>cases lW o.aV<;>simp[h3,hi]
 ·by_cases h2:o.aC=2
  ·simp[h2]
  ·by_cases h1:o.aC=1<;>simp[h1,h2,h3]
def kU (c:Int) (l r:aL):Bool:=c==0&&A7 l&&A7 r
mutual
def pV (cols params:aH):ag->Bool
 |⟨op,c,l,r,args⟩=>
  if op==1||op==2 then kU c l r&&args.length==0
  else if op==3 then args.length==0&&decide (1<=c)&&decide (c<=6)&&lp cols params l !=0&&lp cols params l==lp cols params r
  else if op==4||op==5 then kU c l r&&qf cols params args
  else if op==6 then args.length==1&&(kU c l r&&qf cols params args)
  else false
def qf (cols params:aH):bJ->Bool
 | []=>true
 |x::xs=>pV cols params x&&qf cols params xs
end
def aiS (n:Nat) (p:ag):Vq n p=some (kU p.eC p.bW p.bF):=by
 unfold Vq aey kU A7 y7;by_cases h:p.eC=0
 ·simp only[h,gX,aF,iP];split
  ·rename_i h1;simp only[h1,iP]
  ·rename_i h1;rw[Bool.not_eq_true] at h1;simp only[h1,gj]
 ·simp[h]
def aiY (cols params:aH):∀(n:Nat) (p:ag),fj p<=n->fj p<4294967296->KL n cols params p=some (pV cols params p)
 |0,⟨_,_,_,_,_⟩,h,_=>by simp[fj] at h
 |n+1,⟨op,c,l,r,args⟩,h,hb=>by
  simp only[fj] at h hb;have hlen:=pK args;have loop:∀(xs:bJ) (i k:Nat),args.drop i=xs->xs.length<k->
    CP (KL n) (some true) k cols params (args.length:Int) (i:Int) ⟨op,c,l,r,args⟩=some (qf cols params xs):=by
   intro xs;induction xs with
   |nil=>
    intro i k hd hk;have:args.length<=i:=by simpa using hd
    have hq:¬((i:Int)<(args.length:Int)):=by omega
    cases k with
    |zero=>simp at hk
    |succ k=>simp[CP,Rj,hq,qf]
   |cons x xs ih=>
    intro i k hd hk;let ⟨g1,g2,g3⟩:=bN hd;have hq:((i:Int)<(args.length:Int)):=by omega
    cases k with
    |zero=>simp at hk
    |succ k=>
     have hx:x∈args:=cX g1;have hs:=sK hx;simp only[CP,Rj,hq,aW,aF,cH,g1,aq,aiY cols params n x (by omega) (by omega),cD g3 (by omega:args.length<4294967296),
      ih (i+1) k g2 (by simp at hk;omega),qf]
     cases pV cols params x<;>simp
  have hl:=loop args 0 n rfl (by omega)
  have hl:CP (KL n) (some true) n cols params (args.length:Int) 0 ⟨op,c,l,r,args⟩=some (qf cols params args):=hl;have hB:GD (KL n) n cols params ⟨op,c,l,r,args⟩=some (kU c l r&&qf cols params args):=by
   unfold GD aeM;rw[aiS,aq,hl];cases kU c l r<;>simp
  unfold KL aeL;simp only[aiS,aBG,aq,hB];unfold pV;have hz:((args.length:Int)==0)=(args.length==0):=by
   rw[lG];simp
  have ho:((args.length:Int) !=1)= !(args.length==1):=by
   rw[lG];simp;omega
  simp only[hz,ho];by_cases h1:op=1
  ·cases hp:kU c l r<;>simp[h1]
  ·by_cases h2:op=2
   ·cases hp:kU c l r<;>simp[h2]
   ·by_cases h3:op=3
    ·cases ha:(args.length==0) with
     |false=>simp[h3]
     |true=>
      by_cases c1:1<=c
      ·by_cases c2:c<=6
       ·by_cases c3:lp cols params l=0<;>simp[h3,c1,c2,c3]
       ·simp[h3,c1,c2]
      ·simp[h3,c1]
    ·by_cases h4:op=4
     ·simp[h4]
     ·by_cases h5:op=5
      ·simp[h5]
      ·by_cases h6:op=6
       ·cases ha:(args.length==1)<;>simp[h6]
       ·simp[h1,h2,h3,h4,h5,h6]
def Vw (k:iF):∀(n:Nat) (p:ag),fj p<=n->fj p<4294967296->wx n k p=some (pV k.my k.nP p)
 |0,⟨_,_,_,_,_⟩,h,_=>by simp[fj] at h
 |n+1,⟨op,c,l,r,args⟩,h,hb=>by
  simp only[fj] at h hb;have hlen:=pK args;have aHZ:∀(xs:bJ) (i m:Nat),args.drop i=xs->xs.length<m->
    Ak (wx n) (some true) m args (args.length:Int) (i:Int) k=some (qf k.my k.nP xs):=by
   intro xs;induction xs with
   |nil=>
    intro i m hd hk;have:args.length<=i:=by simpa using hd
    have hq:¬((i:Int)<(args.length:Int)):=by omega
    cases m with
    |zero=>simp at hk
    |succ m=>simp[Ak,Si,hq,qf]
   |cons x xs ih=>
    intro i m hd hk;let ⟨g1,g2,g3⟩:=bN hd;have hq:((i:Int)<(args.length:Int)):=by omega
    cases m with
    |zero=>simp at hk
    |succ m=>
     have hx:x∈args:=cX g1;have hs:=sK hx;simp only[Ak,Si,hq,aW,aF,cH,g1,aq,Vw k n x (by omega) (by omega),cD g3 (by omega:args.length<4294967296),
      ih (i+1) m g2 (by simp at hk;omega),qf]
     cases pV k.my k.nP x<;>simp
  have aHY:∀(xs:bJ) (i m:Nat),args.drop i=xs->xs.length<m->
    Aj (wx n) (some true) m args (args.length:Int) (i:Int) k=some (qf k.my k.nP xs):=by
   intro xs;induction xs with
   |nil=>
    intro i m hd hk;have:args.length<=i:=by simpa using hd
    have hq:¬((i:Int)<(args.length:Int)):=by omega
    cases m with
    |zero=>simp at hk
    |succ m=>simp[Aj,Sf,hq,qf]
   |cons x xs ih=>
    intro i m hd hk;let ⟨g1,g2,g3⟩:=bN hd;have hq:((i:Int)<(args.length:Int)):=by omega
    cases m with
    |zero=>simp at hk
    |succ m=>
     have hx:x∈args:=cX g1;have hs:=sK hx;simp only[Aj,Sf,hq,aW,aF,cH,g1,aq,Vw k n x (by omega) (by omega),cD g3 (by omega:args.length<4294967296),
      ih (i+1) m g2 (by simp at hk;omega),qf]
     cases pV k.my k.nP x<;>simp
  have uL:Ak (wx n) (some true) n args (args.length:Int) 0 k=some (qf k.my k.nP args):=aHZ args 0 n rfl (by omega)
  have hl3:Aj (wx n) (some true) n args (args.length:Int) 0 k=some (qf k.my k.nP args):=aHY args 0 n rfl (by omega)
  have aqP:∀X:Option Bool,(if c !=0 then some false else if !(A7 l) then some false else if !(A7 r) then some false else X)=if kU c l r then X else some false:=by
   intro X;unfold kU;by_cases hc:c=0
   ·cases A7 l<;>cases A7 r<;>simp[hc]
   ·simp[hc]
  have hB5:GJ (wx n) n k ⟨op,c,l,r,args⟩=some (kU c l r&&qf k.my k.nP args):=by
   have:=aqP (Aj (wx n) (Se (wx n) n) n args (args.length:Int) 0 k);unfold GJ;refine Eq.trans this ?_;unfold Se;rw[hl3];cases kU c l r<;>simp
  have hB2:∀b,Lh (wx n) n b k ⟨op,c,l,r,args⟩=some (!b&&(kU c l r&&qf k.my k.nP args)):=by
   intro b;have:=aqP (Ak (wx n) (Sg (wx n) n) n args (args.length:Int) 0 k);unfold Lh;cases b with
   |true=>simp
   |false=>
    simp only[aK,aG,kJ,iP];refine Eq.trans this ?_;unfold Sg;rw[uL];cases kU c l r<;>simp
  unfold wx afy;simp only[aBL,aq,hB5,hB2];unfold pV;have hz:((args.length:Int)==0)=(args.length==0):=by
   rw[lG];simp
  have hz':((args.length:Int) !=0)= !(args.length==0):=by
   rw[lG];simp
  have ho:((args.length:Int) !=1)= !(args.length==1):=by
   rw[lG];simp;omega
  simp only[hz,hz',ho];have he:(args.length==0)=true->qf k.my k.nP args=true:=by
   intro h;have:args= []:=by simpa using h
   simp[this,qf]
  by_cases h3:op=3
  ·cases ha:(args.length==0) with
   |false=>simp[h3]
   |true=>
    by_cases c1:1<=c
    ·by_cases c2:c<=6
     ·by_cases c3:lp k.my k.nP l=0<;>simp[h3,c1,c2,c3]
     ·simp[h3,c1,c2]
    ·simp[h3,c1]
  ·by_cases h1:op=1
   ·cases ha:(args.length==0) with
    |false=>simp[h1]
    |true=>simp[h1,he ha]
   ·by_cases h2:op=2
    ·cases ha:(args.length==0) with
     |false=>simp[h2]
     |true=>simp[h2,he ha]
    ·by_cases h6:op=6
     ·cases ha:(args.length==1)<;>simp[h6]
     ·by_cases h4:op=4
      ·simp[h4]
      ·by_cases h5:op=5
       ·simp[h5]
       ·simp[h1,h2,h3,h4,h5,h6]
def sW (cols params:aH) (p:ag):Int:=
 if !nS cols then 1 else if !nS params then 1 else if decide (24<rm p)||decide (8<uN p) then 2 else if !pV cols params p then 50 else 0
def ajj (n:Nat) (cols params:aH) (p:ag) (h1:cols.length<n) (h2:params.length<n) (h3:fj p<=n) (h4:n<4294967296):aef n cols params p=some (sW cols params p):=by
 let ⟨r,e,r1,r2,r3⟩:=aja n p 0 h3 (by omega) (by omega) (by omega)
 have hd:=aiZ n p 8 h3 (by omega) (by omega)
 have hd:KM n p 8=some (decide (8<uN p)):=hd;unfold aef aft sW;simp only[ajb n cols (by omega) h1,ajb n params (by omega) h2,e,hd,aiY cols params n p h3 (by omega),aq]
 cases nS cols<;>cases nS params<;>simp
 by_cases hn:24<rm p
 ·have:=r3 (by omega)
  simp[hn,this]
 ·have:=r2 (by omega)
  have h24:¬24<r:=by omega
  by_cases h8:8<uN p<;>cases pV cols params p<;>simp[hn,h24,h8]
def aHA (n:Nat) (cols params:aH) (p:ag) (h1:cols.length<n) (h2:params.length<n) (h3:fj p<=n) (h4:n<4294967296):F46 n cols params p=some (sW cols params p):=by
 let ⟨r,e,r1,r2⟩:=ajk n p 1 24 h3 (by omega) (by omega) (by omega) (by omega) (by omega)
 unfold F46 anA sW;simp only[ajl n cols (by omega) h1,ajl n params (by omega) h2,e,Vw ⟨cols,params⟩ n p h3 (by omega),aq]
 cases nS cols<;>cases nS params<;>simp
 cases hr:r.1 with
 |true=>
  have:=r1.1 hr;have e1:¬24<rm p:=by omega
  have e2:¬8<uN p:=by omega
  cases pV cols params p<;>simp[e1,e2]
 |false=>
  have:¬((rm p:Int)<=24/\(1:Int)+uN p<=9):=λh=>by rw[r1.2 h] at hr;simp at hr
  have e1:24<rm p\/8<uN p:=by omega
  rcases e1 with h|h<;>simp[h]
def JH (h:AF k=true):3<=k/\k<=5:=by simp[AF] at h;omega
def atm {l:aH} (h:nS l=true) (hx:l[i]? =some x):AF x=true:=by
 simp only[nS,dV] at h;exact h x (cX hx)
def asV (cols params:aH) (k:Int) (l:tC):Prop:=∀o∈l,lp cols params o=k
def apu (h:cols[i]? =some k):lp cols params ⟨1,(i:Int),⟨0,0,ByteArray.empty⟩⟩=k:=by
 have hi:i<cols.length:=(cg.1 h).1;have:(i:Int)<(cols.length:Int):=by omega
 simp[lp,kAt,y7,this,h]
def apt (h:params[i]? =some k):lp cols params ⟨2,(i:Int),⟨0,0,ByteArray.empty⟩⟩=k:=by
 have hi:i<params.length:=(cg.1 h).1;have:(i:Int)<(params.length:Int):=by omega
 simp[lp,kAt,y7,this,h]
def arZ (n:Nat) (hn:300<=n) (cols params:aH) (k:Int) (hk:AF k=true) (l:tC) (c:aQ) (hc:dL c) (hl:l.length<=300) (ho:asV cols params k l) (z:aL):
  Ok (KV n k c z l) λr=>dL r.2/\lp cols params r.1=k:=by
 have hkr:=JH hk;unfold KV;rw[dI (by omega) (by omega)]
 refine Ok.bind (kq n c ((l.length:Int)+1) hc) λr ⟨hr,r0,r1,_⟩=> ?_
 have r1:=r1 (by omega)
 refine Ok.ite (λh=> ?_) λh=> ?_
 ·simp at h;have bD:r.1.toNat<l.length:=by omega
  have:fE l.length r.1=some r.1.toNat:=by simp[fE,r0,bD]
  rw[this,aq,cE,dW bD,aq];exact Ok.pure ⟨hr,ho _ (xc _)⟩
 ·refine Ok.bind (Gt n (by omega) r.2 k hr hkr.1 hkr.2) λx ⟨hx,kx,rx⟩=>Ok.pure ⟨hx,?_⟩
  simp[lp,rx,kx]
def KG (n:Nat) (hn:300<=n) (cols params:aH) (k:Int) (hk:AF k=true) (hp:params.length<=100) (z:aL):∀(xs:aH) (i m:Nat) (l:tC) (c:aQ),params.drop i=xs->xs.length<m->dL c->l.length+xs.length<=300->asV cols params k l->
  Ok (F7 (KV n) m k params (params.length:Int) (i:Int) c z l) λr=>dL r.2/\lp cols params r.1=k
 | [],i,m+1,l,c,hd,hm,hc,hl,ho=>by
  have:params.length<=i:=by simpa using hd
  have hq:¬((i:Int)<(params.length:Int)):=by omega
  simp only[F7,Rp,hq,bg,aK,aG];exact arZ n hn cols params k hk l c hc (by simp at hl;omega) ho z
 |x::xs,i,m+1,l,c,hd,hm,hc,hl,ho=>by
  let ⟨g1,g2,g3⟩:=bN hd;have hq:((i:Int)<(params.length:Int)):=by omega
  simp only[F7,Rp,hq,aW,aF,cH,g1,aq];simp at hm hl;refine Ok.ite (λh=> ?_) λh=> ?_
  ·simp at h;subst h;rw[eE _ _ (by simp;omega),aq,cD g3 (by omega)]
   refine KG n hn cols params x hk hp z xs (i+1) m _ c g2 (by omega) hc (by simp;omega) λo hx=> ?_
   rcases ee.1 hx with hx|hx
   ·exact ho o hx
   ·simp at hx;subst hx;exact apt g1
  ·rw[cD g3 (by omega)]
   exact KG n hn cols params k hk hp z xs (i+1) m l c g2 (by omega) hc (by omega) ho
 |_,_,0,_,_,_,hm,_,_,_=>by simp at hm
def KH (n:Nat) (hn:300<=n) (cols params:aH) (k:Int) (hk:AF k=true) (hp:params.length<=100) (gD:cols.length<=100) (z:aL):∀(xs:aH) (i m:Nat) (l:tC) (c:aQ),cols.drop i=xs->xs.length<m->dL c->l.length+xs.length<=100->asV cols params k l->
  Ok (F8 (Ro n) m params k cols (cols.length:Int) (i:Int) c z l) λr=>dL r.2/\lp cols params r.1=k
 | [],i,m+1,l,c,hd,hm,hc,hl,ho=>by
  have:cols.length<=i:=by simpa using hd
  have hq:¬((i:Int)<(cols.length:Int)):=by omega
  simp only[F8,Rq,hq,bg,aK,aG,Ro];exact KG n hn cols params k hk hp z params 0 n l c rfl (by omega) hc (by simp at hl;omega) ho
 |x::xs,i,m+1,l,c,hd,hm,hc,hl,ho=>by
  let ⟨g1,g2,g3⟩:=bN hd;have hq:((i:Int)<(cols.length:Int)):=by omega
  simp only[F8,Rq,hq,aW,aF,cH,g1,aq];simp at hm hl;refine Ok.ite (λh=> ?_) λh=> ?_
  ·simp at h;subst h;rw[eE _ _ (by simp;omega),aq,cD g3 (by omega)]
   refine KH n hn cols params x hk hp gD z xs (i+1) m _ c g2 (by omega) hc (by simp;omega) λo hx=> ?_
   rcases ee.1 hx with hx|hx
   ·exact ho o hx
   ·simp at hx;subst hx;exact apu g1
  ·rw[cD g3 (by omega)]
   exact KH n hn cols params k hk hp gD z xs (i+1) m l c g2 (by omega) hc (by omega) ho
 |_,_,0,_,_,_,hm,_,_,_=>by simp at hm
def ajc (n:Nat) (hn:300<=n) (c:aQ) (cols params:aH) (k:Int) (hk:AF k=true) (hc:dL c) (gD:cols.length<=100) (hp:params.length<=100):Ok (amY n c cols params k) λr=>dL r.2/\lp cols params r.1=k:=
 KH n hn cols params k hk hp gD _ cols 0 n [] c rfl (by omega) hc (by simp;omega) (λo h=>by simp at h)
def nB:Nat->Nat
 |0=>1
 |d+1=>1+3*nB d
def sB:Nat->Nat
 |0=>2
 |d+1=>2+3*(1+sB d)
def aDI (d:Nat):1<=nB d:=by cases d<;>simp[nB]
def aDo (d:Nat):2<=sB d:=by cases d<;>simp[sB]
structure uj (cols params:aH) (d:Nat) (r:ag×aQ):Prop where
 case:dL r.2
 val:pV cols params r.1=true
 dp:uN r.1<=d+1
 nd:rm r.1<=nB d
 sz:fj r.1<=sB d
def abi {op:Int} {r:aL} {x:aQ} (hx:dL x) (hv:pV cols params ⟨op,c,l,r,[]⟩=true):uj cols params d (⟨op,c,l,r,[]⟩,x):=
 ⟨hx,hv,by simp[uN,ud],by simp[rm,qh];exact aDI d,by simp[fj,kS];exact aDo d⟩
def zo:aL:=⟨0,0,⟨0,0,ByteArray.empty⟩⟩
def NP:kU 0 zo zo=true:=by decide
def W6 (s:aQ->aH->aH->Int->Option (ag×aQ)) (n:Nat) (cols params:aH) (d:Nat) (x:aQ) (hx:dL x) (c:Int) (l r:aL) (h1:1<=c) (h2:c<=6) (h3:lp cols params l≠0) (h4:lp cols params l=lp cols params r) (z:ag):
  Ok (Le s n x z ⟨3,c,l,r,[]⟩) (uj cols params d):=by
 unfold Le;refine Ok.bind (Al n x 6 hx) λb hb=> ?_
 refine Ok.ite (λ_=>Ok.pure (abi hb ?_)) λ_=>Ok.pure (abi hb ?_)
 ·simp[pV,h1,h2,<-h4,h3]
 ·simp[pV,h1,h2,<-h4,h3]
def W5 (s:aQ->aH->aH->Int->Option (ag×aQ)) (n:Nat) (hn:300<=n) (cols params:aH) (gD:cols.length<=100) (hp:params.length<=100) (d:Nat) (k:Int) (hk:AF k=true) (x:aQ) (hx:dL x) (z:ag):
  Ok (Ld s n cols params k x z) (uj cols params d):=by
 have hkr:=JH hk;unfold Ld;refine Ok.bind (kq n x 6 hx) λr ⟨hr,r0,r1,_⟩=> ?_
 have r1:=r1 (by omega)
 rw[dI (by omega) (by omega)]
 refine Ok.bind (ajc n hn r.2 cols params k hk hr gD hp) λl ⟨hl,kl⟩=> ?_
 refine Ok.bind (Gt n (by omega) l.2 k hl hkr.1 hkr.2) λv ⟨hv,kv,rv⟩=> ?_
 refine Ok.bind (Al n v.2 3 hv) λb hb=> ?_
 refine Ok.ite (λ_=> ?_) λ_=> ?_
 ·refine Ok.bind (ajc n hn b.2 cols params k hk hb gD hp) λo ⟨ho,ko⟩=> ?_
  exact W6 s n cols params d o.2 ho _ _ _ (by omega) (by omega) (by omega) (by omega) _
 ·refine W6 s n cols params d b.2 hb _ _ _ (by omega) (by omega) (by omega) ?_ _
  simp[lp,rv,kv] at kl ⊢;exact kl
def W4 (s:aQ->aH->aH->Int->Option (ag×aQ)) (cols params:aH) (d:Nat) (hd:d<=1000)
  (hs:∀c,dL c->Ok (s c cols params (d:Int)) (uj cols params d)) (n0:Nat):∀(j n:Nat) (op:Int) (args:bJ) (c:aQ) (z:ag) (a0:bJ),dL c->j<n->args.length+j<=3->qf cols params args=true->ud args<=d+1->qh args<=args.length*nB d->kS args<=args.length*(1+sB d)->(op=4\/op=5)->
  Ok (Gq s (Sa s n0) n cols params ((d+1:Nat):Int) ((j:Int)-1) c z ⟨op,0,zo,zo,a0⟩ args) (uj cols params (d+1))
 |0,n+1,op,args,c,z,a0,hc,_,hj,h1,h2,h3,h4,dN=>by
  have:((0:Nat):Int)-1<0:=by omega
  simp only[Gq,Sb,Sa,this,aW,fA,aK,aG];have e3:args.length*nB d<=3*nB d:=gz _ (by omega)
  have e4:args.length*(1+sB d)<=3*(1+sB d):=gz _ (by omega)
  refine Ok.pure ⟨hc,?_,by simp only[uN];omega,by simp only[rm,nB];omega,by simp only[fj,sB];omega⟩
  rcases dN with rfl|rfl<;>simp[pV,NP,h1]
 |j+1,n+1,op,args,c,z,a0,hc,hn,hj,h1,h2,h3,h4,dN=>by
  have:¬(((j+1:Nat):Int)-1<0):=by omega
  simp only[Gq,Sb,this,bg,kJ,aF];have hw:bh (((d+1:Nat):Int)-1)=(d:Int):=by rw[dI (by omega) (by omega)];omega
  have hw2:bh (((j+1:Nat):Int)-1-1)=(j:Int)-1:=by rw[dI (by omega) (by omega)];omega
  rw[hw,hw2];refine Ok.bind (hs c hc) λx hx=> ?_
  rw[eE _ _ (by simp;omega),aq]
  have key:∀(l:bJ) (y:ag),qf cols params (l++ [y])=(qf cols params l&&pV cols params y)/\ud (l++ [y])=max (ud l) (uN y)/\qh (l++ [y])=qh l+rm y/\kS (l++ [y])=kS l+(1+fj y):=by
   intro l y;induction l with
   |nil=>simp[qf,ud,qh,kS]
   |cons a l ih=>
    let ⟨i1,i2,i3,i4⟩:=ih;simp only[Lz,qf,ud,qh,kS,i1,i2,i3,i4];refine ⟨by rw[Bool.and_assoc],by omega,by omega,by omega⟩
  let ⟨k1,k2,k3,k4⟩:=key args x.1;refine W4 s cols params d hd hs n0 j n op _ x.2 _ _ hx.case (by omega) (by simp;omega) (by rw[k1,h1,hx.val];rfl) (by rw[k2];have:=hx.dp;omega) ?_ ?_ dN
  ·rw[k3,eQ];have:=hx.nd;simp only[mM,EM,eK];omega
  ·rw[k4,eQ];have:=hx.sz;simp only[mM,EM,eK];omega
 |_,0,_,_,_,_,_,_,hn,_,_,_,_,_,_=>by simp at hn
def uj.up {r:ag×aQ} {e:Nat} (h:uj cols params d r) (hd:d<=e):uj cols params e r:=by
 have hn:∀k,nB d<=nB (d+k):=by
  intro k;induction k with
  |zero=>simp
  |succ k ih=>rw[<-fV];simp only[nB];omega
 have hs:∀k,sB d<=sB (d+k):=by
  intro k;induction k with
  |zero=>simp
  |succ k ih=>rw[<-fV];simp only[sB];omega
 have e1:d+(e-d)=e:=by omega
 have a:=hn (e-d);have b:=hs (e-d);rw[e1] at a b;exact ⟨h.case,h.val,by have:=h.dp;omega,by have:=h.nd;omega,by have:=h.sz;omega⟩
def Vv (cols params:aH) (hk:nS cols=true) (gD:cols.length<=100) (hp:params.length<=100):∀(d n:Nat) (c:aQ),dL c->300+d<n->d<=100->Ok (C5 n c cols params (d:Int)) (uj cols params d)
 |d,0,c,hc,hn,_=>by omega
 |d,n+1,c,hc,hn,hd=>by
  have leaf:∀(op:Int) (x:aQ) (z:ag),dL x->Ok (xZ (C5 n) n cols params (d:Int) op true x z) (uj cols params d):=by
   intro op x z hx;unfold xZ;simp only[aF];refine Ok.ite (λh=> ?_) λh=> ?_
   ·simp at h;refine Ok.bind (kq n x (cols.length:Int) hx) λr ⟨hr,r0,r1,_⟩=> ?_
    have r1:=r1 (by omega)
    have bD:r.1.toNat<cols.length:=by omega
    have cK:idx cols r.1=some (cols[r.1.toNat]):=by simp[idx,r0,bD]
    rw[cK,aq];exact W5 (C5 n) n (by omega) cols params gD hp d _ (atm hk (i:=r.1.toNat) (by simp[bD])) r.2 hr _
   ·exact W5 (C5 n) n (by omega) cols params gD hp d 4 rfl x hx _
  have inner:∀(op:Int) (x:aQ) (z:ag),6<=op->op<=8->dL x->Ok (xZ (C5 n) n cols params (d:Int) op (decide ((d:Int)<1)) x z) (uj cols params d):=by
   intro op x z o1 o2 hx;cases d with
   |zero=>simpa using leaf op x z hx
   |succ d=>
    have yc:¬(((d+1:Nat):Int)<1):=by omega
    have hw:bh (((d+1:Nat):Int)-1)=(d:Int):=by rw[dI (by omega) (by omega)];omega
    have ih:=λc hc=>Vv cols params hk gD hp d n c hc (by omega) (by omega)
    unfold xZ;simp only[yc,bg,aK,aG];refine Ok.ite (λh6=> ?_) λh6=> ?_
    ·rw[hw];refine Ok.bind (ih x hx) λr hr=>Ok.pure ⟨hr.case,?_,?_,?_,?_⟩
     ·have:kU 0 ⟨0,0,⟨0,0,ByteArray.empty⟩⟩ ⟨0,0,⟨0,0,ByteArray.empty⟩⟩=true:=NP;simp[pV,this,qf,hr.val]
     ·simp only[uN,ud];have:=hr.dp;omega
     ·simp only[rm,qh,nB];have:=hr.nd;omega
     ·simp only[fj,kS,sB];have:=hr.sz;omega
    ·simp at h6;refine Ok.bind (kq n x 3 hx) λr ⟨hr,r0,r1,_⟩=> ?_
     have r1:=r1 (by omega)
     rw[dI (x:=4+op) (by omega) (by omega),dI (by omega) (by omega)]
     have e:r.1=((r.1.toNat+1:Nat):Int)-1:=by omega
     rw[e];exact W4 (C5 n) cols params d (by omega) ih n (r.1.toNat+1) n (4+op-7) [] r.2 _ _ hr (by omega) (by simp;omega) rfl (by simp[ud]) (by simp[qh]) (by simp[kS]) (by omega)
  unfold C5 afu;refine Ok.bind (kq n c 9 hc) λr ⟨hr,r0,r1,_⟩=> ?_
  have r1:=r1 (by omega)
  refine Ok.ite (λh0=> ?_) λh0=> ?_
  ·simp at h0;refine Ok.bind (Al n r.2 2 hr) λb hb=> ?_
   refine Ok.ite (λ_=> ?_) λ_=> ?_
   ·refine Ok.bind (kq n b.2 2 hb) λq ⟨hq,q0,q1,_⟩=> ?_
    have q1:=q1 (by omega)
    rw[dI (by omega) (by omega)]
    refine Ok.pure (abi hq ?_);have hz:kU 0 ⟨0,0,⟨0,0,ByteArray.empty⟩⟩ ⟨0,0,⟨0,0,ByteArray.empty⟩⟩=true:=NP;have:q.1=0\/q.1=1:=by omega
    rcases this with e|e<;>simp[pV,e,hz]
   ·refine Ok.ite (λ_=>leaf _ _ _ hb) λh6=> ?_
    simp at h6;omega
  ·refine Ok.ite (λ_=>leaf _ _ _ hr) λh6=> ?_
   simp at h6;exact inner r.1 r.2 _ h6 (by omega) hr
def aHz (cols params:aH) (hk:nS cols=true) (gO:nS params=true) (gD:cols.length<=100) (hp:params.length<=100) (d n:Nat) (c:aQ) (hc:dL c) (hn:1000<=n) (gC:n<4294967296) (ye:1<=d) (hd:d<=3):
  Ok (F92 n c cols params (d:Int)) λr=>dL r.2/\sW cols params r.1=0/\fj r.1<=119:=by
 unfold F92 anv;refine Ok.bind (Vv cols params hk gD hp d n c hc (by omega) (by omega)) λr hr=> ?_
 have hs:fj r.1<=119:=(hr.up hd).sz;rw[ajj n cols params r.1 (by omega) (by omega) (by omega) gC,aq]
 refine Ok.ite (λh2=> ?_) λh2=> ?_
 ·refine Ok.bind (Vv cols params hk gD hp 1 n r.2 hr.case (by omega) (by omega)) λq hq=>Ok.pure ⟨hq.case,?_,(hq.up (by omega:1<=3)).sz⟩
  have h1:=hq.nd;have h2:=hq.dp;have e1:¬24<rm q.1:=by simp[nB] at h1;omega
  have e2:¬8<uN q.1:=by omega
  simp[sW,hk,gO,e1,e2,hq.val]
 ·refine Ok.pure ⟨hr.case,?_,hs⟩;have:sW cols params r.1=2\/sW cols params r.1=0:=by
   unfold sW;cases decide (24<rm r.1)||decide (8<uN r.1)<;>simp[hk,gO,hr.val]
  simp at h2;exact this.resolve_left h2
section
def aiC (x y:UInt8) (a b:List UInt8):Op.bytesLess (x::a) (y::b)=(decide (x<y)||(x==y&&Op.bytesLess a b)):=by simp[Op.bytesLess]
def DU:∀{a b:List UInt8},Op.bytesLess a b=true->Op.bytesLess b a=false
 | [],[],h=>by simp[Op.bytesLess] at h
 | [],_::_,_=>by simp[Op.bytesLess]
 |_::_,[],h=>by simp[Op.bytesLess] at h
 |x::a,y::b,h=>by
  rw[aiC] at h ⊢;by_cases h1:x<y
  ·have h2:¬y<x:=λh2=>yk x (UInt8.lt_trans h1 h2)
   have h3:¬y=x:=λe=>by subst e;exact yk _ h1
   simp[h2,h3]
  ·by_cases h3:x=y
   ·subst h3;simp[yk] at h ⊢;exact DU h
   ·simp[h1,h3] at h
def DQ:∀{a b:List UInt8},Op.bytesLess a b=false->a≠b->Op.bytesLess b a=true
 | [],[],_,h=>absurd rfl h
 | [],_::_,h,_=>by simp[Op.bytesLess] at h
 |_::_,[],_,_=>by simp[Op.bytesLess]
 |x::a,y::b,h,bY=>by
  rw[aiC] at h ⊢;by_cases h1:x<y
  ·simp[h1] at h
  ·by_cases h2:y<x
   ·simp[h2]
   ·have:x=y:=UInt8.le_antisymm (Lw.1 h2) (Lw.1 h1);subst this;simp[yk] at h ⊢;exact DQ h (λe=>bY (by rw[e]))
def asl (a b:bj):uO b a= - uO a b:=by
 unfold uO;by_cases h1:a.aC<b.aC
 ·have:¬b.aC<a.aC:=by omega
  simp[h1,this]
 ·by_cases h2:b.aC<a.aC
  ·simp[h1,h2]
  ·by_cases h3:a.dw<b.dw
   ·have:¬b.dw<a.dw:=by omega
    simp[h1,h2,h3,this]
   ·by_cases h4:b.dw<a.dw
    ·simp[h1,h2,h3,h4]
    ·cases h5:Op.bytesLess a.cP.toList b.cP.toList with
     |true=>
      have h6:=DU h5;have h7:¬b.cP=a.cP:=λe=>by rw[e,r8] at h5;cases h5
      simp[h1,h2,h3,h4,h6,h7]
     |false=>
      by_cases h6:a.cP=b.cP
      ·simp[h1,h2,h3,h4,h6,r8]
      ·have h7:Op.bytesLess b.cP.toList a.cP.toList=true:=DQ h5 (λe=>h6 (ID (by rw[DW,DW] at e;exact e)))
       simp[h1,h2,h3,h4,h6,h7]
def rf:qu->qu->Int
 | [],[]=>0
 | [],_::_=> -1
 |_::_,[]=>1
 |a::x,b::y=>if uO a b=0 then rf x y else uO a b
def aiL (n0:Nat) (a b:qu) (ha:a.length<4294967296):∀(x:qu) (i m:Nat),a.drop i=x->i<=a.length->i<=b.length->x.length<m->C0 (Lg n0) m a b a (a.length:Int) (i:Int)=some (rf (a.drop i) (b.drop i))
 | [],i,m+1,hd,h1,h2,hm=>by
  have hl:a.length<=i:=by simpa using hd
  have hq:¬((i:Int)<(a.length:Int)):=by omega
  simp only[C0,Sd,Lg,hq,bg,aK,aG];rw[hd];cases hb:b.drop i with
  |nil=>
   have:b.length<=i:=by simpa using hb
   have e1:¬(a.length:Int)<b.length:=by omega
   simp[e1,rf]
  |cons y l=>
   let ⟨_,_,g3⟩:=bN hb;have e1:(a.length:Int)<b.length:=by omega
   simp[e1,rf]
 |x::xs,i,m+1,hd,h1,h2,hm=>by
  let ⟨g1,g2,g3⟩:=bN hd;have hq:(i:Int)<(a.length:Int):=by omega
  simp only[C0,Sd,hq,aW,aF,cH,g1,aq];cases hb:b.drop i with
  |nil=>
   have hl:b.length<=i:=by simpa using hb
   have e0:¬(i:Int)<b.length:=by omega
   simp[e0,hd,rf]
  |cons y l=>
   let ⟨k1,k2,k3⟩:=bN hb;have e0:(i:Int)<b.length:=by omega
   simp only[e0,aW,fA,aK,aG,k1,aq,aCa];rw[hd,cD g3 ha];simp only[rf];by_cases h:uO x y=0
   ·simp only[h,sJ,aK,aG,aF];rw[aiL n0 a b ha xs (i+1) m g2 (by omega) (by omega) (by simp at hm;omega),g2,k2]
   ·have:(uO x y !=0)=true:=by simpa using h
    simp only[this,h,aF,aG]
 |_,_,0,_,_,_,hm=>by simp at hm
def arP (n:Nat) (a b:qu) (ha:a.length<4294967296) (hn:a.length<n):F67 n a b=some (rf a b):=by
 have:=aiL n a b ha a 0 n rfl (by omega) (by omega) hn
 simp only[pJ] at this;show (C0 (Lg n) n a b a (a.length:Int) 0).bind (λx=>some x)=_
 rw[show (0:Int)=((0:Nat):Int) from rfl,this];rfl
def lN (T:ah):aH:=T.ae.map (·.aC)
def JM {xs:List Y} {i:Int} {x:Y} (h:idx xs i=some x):0<=i/\i.toNat<xs.length/\xs[i.toNat]? =some x:=by
 unfold idx at h;split at h
 ·exact ⟨by assumption,(cg.1 h).1,h⟩
 ·cases h
def arI (n0:Nat) (cs:cG) (hl:cs.length<=1000):∀(x:cG) (i m:Nat) (out:aH),cs.drop i=x->x.length<m->out=(cs.take i).map (·.aC)->ML (Yd n0) m cs (cs.length:Int) (i:Int) out=some (cs.map (·.aC))
 | [],i,m+1,out,hd,hm,ho=>by
  have hl:cs.length<=i:=by simpa using hd
  have hq:¬((i:Int)<(cs.length:Int)):=by omega
  simp only[ML,Ye,Yd,hq,bg,aK,aG];rw[ho,lF hl]
 |x::xs,i,m+1,out,hd,hm,ho=>by
  let ⟨g1,g2,g3⟩:=bN hd;have hq:(i:Int)<(cs.length:Int):=by omega
  simp only[ML,Ye,hq,aW,aF,cH,g1,aq];rw[eE _ _ (by rw[ho];simp;omega),aq,cD g3 (by omega)]
  refine arI n0 cs hl xs (i+1) m _ g2 (by simp at hm;omega) ?_
  rw[ho,Lv,g1];simp
 |_,_,0,_,_,hm,_=>by simp at hm
def arJ (n0:Nat) (cs:cG) (hl:cs.length<=1000):∀(x:cG) (i m:Nat) (out:aH),cs.drop i=x->x.length<m->out=(cs.take i).map (·.aC)->MM (Yf n0) m cs (cs.length:Int) (i:Int) out=some (cs.map (·.aC))
 | [],i,m+1,out,hd,hm,ho=>by
  have hl:cs.length<=i:=by simpa using hd
  have hq:¬((i:Int)<(cs.length:Int)):=by omega
  simp only[MM,Yg,Yf,hq,bg,aK,aG];rw[ho,lF hl]
 |x::xs,i,m+1,out,hd,hm,ho=>by
  let ⟨g1,g2,g3⟩:=bN hd;have hq:(i:Int)<(cs.length:Int):=by omega
  simp only[MM,Yg,hq,aW,aF,cH,g1,aq];rw[eE _ _ (by rw[ho];simp;omega),aq,cD g3 (by omega)]
  refine arJ n0 cs hl xs (i+1) m _ g2 (by simp at hm;omega) ?_
  rw[ho,Lv,g1];simp
 |_,_,0,_,_,hm,_=>by simp at hm
section
variable {s:af} {t:Int} {T:ah} {n:Nat}
def aBh {xs:List Y} {i:Int} (h0:0<=i) (h:¬i<(xs.length:Int)):idx xs i=none:=by
 unfold idx;rw[ax h0,ym (by omega)]
def aCc (hT:idx s.ai t=some T):anm n s t=some true:=by
 let ⟨h0,h1,_⟩:=JM hT;have e1:¬t<0:=by omega
 have e2:t<(s.ai.length:Int):=by omega
 simp[anm,afC,e1,e2]
def arQ (hT:idx s.ai t=some T) (hl:T.ae.length<=1000) (hn:1000<n):F50 n s t=some (lN T):=by
 let ⟨h0,h1,_⟩:=JM hT;have e1:¬t<0:=by omega
 have e2:t<(s.ai.length:Int):=by omega
 simp only[F50,anz,e1,e2,bg,aW,fA,aK,aG,hT,aq];exact arI n T.ae hl T.ae 0 n [] rfl (by omega) rfl
def aHB (hT:idx s.ai t=some T) (hl:T.ae.length<=1000) (hn:1000<n):F45 n s t=some (lN T):=by
 simp only[F45,anB,aCc hT,aq,fA,aK,aG,hT];have:B0 (T.ae.length:Int) (0:Int)=some (List.replicate T.ae.length 0):=by simp[B0];omega
 rw[this,aq];exact arJ n T.ae hl T.ae 0 n [] rfl (by omega) rfl
structure vD (T:ah):Prop where
 abl:1<=T.aP
 G9:T.aP<=(T.ae.length:Int)
 cols:T.ae.length<=8
 ks:nS (lN T)=true
def PE (T:ah):(lN T).length=T.ae.length:=by simp[lN]
end
end
def AE (b:UInt8):Bool:=decide (97<=b.toNat)&&decide (b.toNat<=122)
def Dn (b:UInt8):Bool:=AE b||((decide (48<=b.toNat)&&decide (b.toNat<=57))||decide (b.toNat=95))
def Ps:List UInt8->Bool
 | []=>false
 |b::l=>AE b&&l.all Dn
def y8 (s:ByteArray):Bool:=decide (s.size<=32)&&Ps s.data.toList
def vA (s:ByteArray):s.data.toList.length=s.size:=by simp
def aEb {s:ByteArray} {b:UInt8} (h:s.data.toList[p]? =some b):∃hp:p<s.size,s[p]'hp=b:=by
 have h1:=(cg.1 h);let ⟨q1,q2⟩:=h1;have hp:p<s.size:=by simpa using q1
 have q3:s.data[p]=b:=by simpa using q2
 exact ⟨hp,q3⟩
def aei (k:ByteArray->Nat->Option Bool) (m:Nat) (s:ByteArray) (p:Nat) (q:Nat) (c:Int) (l:Bool):QH k m (p:Int) c l s q=if l=true then k s q else if p=0 then some false else if c=95\/(48<=c/\c<=57) then k s q else some false:=by
 unfold QH;cases l with
 |true=>simp
 |false=>
  by_cases hp:p=0
  ·simp[hp]
  ·have gy:¬(p:Int)=0:=by omega
   by_cases h1:c=95
   ·simp[hp,h1]
   ·by_cases h2:c<48
    ·have:¬48<=c:=by omega
     simp[hp,h1,h2,this]
    ·by_cases h3:57<c
     ·have:¬c<=57:=by omega
      simp[hp,h1,h2,h3,this]
     ·have J3:48<=c:=by omega
      have J2:c<=57:=by omega
      simp[hp,h1,h2,h3,J3,J2]
def ada (n0:Nat) (m:Nat) (s:ByteArray) (p:Nat) (b:UInt8) (hb:s.data.toList[p]? =some b):Bm (H9 n0) (m+1) s p=if AE b=true then Bm (H9 n0) m s (p+1) else if p=0 then some false else if Dn b=true then Bm (H9 n0) m s (p+1) else some false:=by
 let ⟨hp,he⟩:=aEb hb;simp only[Bm,XV,hp,aW,aF];rw[aei,aei];by_cases ha:b.toNat<128
 ·have hd:=decode_ascii s p hp (by rw[he];exact ha)
  rw[he] at hd;rw[hd];simp only[AE,Dn];by_cases h1:97<=b.toNat
  ·have wY:¬((b.toNat:Int)<97):=by omega
   by_cases h2:b.toNat<=122
   ·have J3:¬(122<(b.toNat:Int)):=by omega
    simp[h1,wY,h2,J3]
   ·have J3:(122<(b.toNat:Int)):=by omega
    have e1:¬(b.toNat:Int)=95:=by omega
    have e2:¬(b.toNat:Int)<=57:=by omega
    have e3:¬b.toNat<=57:=by omega
    have e4:¬b.toNat=95:=by omega
    simp[h1,wY,h2,J3,e1,e2,e3,e4]
  ·have wY:((b.toNat:Int)<97):=by omega
   by_cases e1:b.toNat=95
   ·simp[h1,wY,e1]
   ·have e1':¬(b.toNat:Int)=95:=by omega
    by_cases e2:48<=b.toNat
    ·have Cz:48<=(b.toNat:Int):=by omega
     by_cases e3:b.toNat<=57
     ·have AP:(b.toNat:Int)<=57:=by omega
      simp[h1,wY,e1,e1',e2,Cz,e3,AP]
     ·have AP:¬(b.toNat:Int)<=57:=by omega
      simp[h1,wY,e1,e1',e2,Cz,e3,AP]
    ·have Cz:¬48<=(b.toNat:Int):=by omega
     simp[h1,wY,e1,e1',e2,Cz]
 ·have hd:=(decode_high s p hp (by rw[he];omega)).1
  generalize (Utf8.decode s p)=d at hd;let ⟨c,q⟩:=d;simp only at hd;have a1:¬((c:Int)<97):=by omega
  have a2:122<(c:Int):=by omega
  have a3:¬((c:Int)=95\/(48<=(c:Int)/\(c:Int)<=57)):=by omega
  have b1:AE b=false:=by simp[AE];omega
  have b2:Dn b=false:=by simp[Dn,b1];omega
  simp[a1,a2,a3,b1,b2]
def arH (n0:Nat) (s:ByteArray):∀(x:List UInt8) (p m:Nat),s.data.toList.drop p=x->0<p->x.length<m->Bm (H9 n0) m s p=some (x.all Dn)
 | [],p,m+1,hd,hp,hm=>by
  have:s.data.toList.length<=p:=by simpa using hd
  have hq:¬p<s.size:=by rw[vA] at this;omega
  simp only[Bm,XV,H9,hq,bg,aK,aG];rfl
 |b::x,p,m+1,hd,hp,hm=>by
  let ⟨g1,g2,g3⟩:=bN hd;have ih:=arH n0 s x (p+1) m g2 (by omega) (by simp at hm;omega)
  rw[ada n0 m s p b g1,aA (by omega:¬p=0),ih]
  simp only[uq];have:AE b=true->Dn b=true:=λh=>by simp[Dn,h]
  cases hl:AE b with
  |true=>simp[this hl]
  |false=>cases hc:Dn b<;>simp
 |_,_,0,_,_,hm=>by simp at hm
def arN (n:Nat) (s:ByteArray) (hn:100<n):F99 n s=some (y8 s):=by
 unfold F99 anq y8;by_cases h0:s.size=0
 ·have:s.data.toList= []:=by
   have:=vA s;exact ur (by omega)
  simp[h0,this,Ps]
 ·have e1:¬(s.size:Int)<1:=by omega
  by_cases h1:s.size<=32
  ·have e2:¬32<(s.size:Int):=by omega
   simp only[e1,e2,bg,aK,aG,h1,aW,iP];obtain ⟨m,rfl⟩:∃m,n=m+1:=⟨n-1,by omega⟩
   cases hx:s.data.toList with
   |nil=>have:=vA s;rw[hx] at this;simp at this;omega
   |cons b l=>
    have hl:l.length<32:=by have:=vA s;rw[hx] at this;simp at this;omega
    rw[ada (m+1) m s 0 b (by rw[hx];rfl)]
    simp only[aF,Ps];cases hb:AE b with
    |false=>simp
    |true=>
     simp only[aF,iP];exact arH (m+1) s l 1 m (by rw[hx];rfl) (by omega) (by omega)
  ·have e2:32<(s.size:Int):=by omega
   simp only[e1,e2,bg,aW,aK,aG,aF,h1,gj]
def arM (n0:Nat) (m:Nat) (s:ByteArray) (p:Nat) (hs:s.size<4294967296) (b:UInt8) (hb:s.data.toList[p]? =some b):Ai (GC n0) (m+1) s (p:Int)=if Dn b=true then Ai (GC n0) m s ((p+1:Nat):Int) else some false:=by
 have hp:p<s.size:=by have:=(cg.1 hb).1;rwa[vA] at this
 have hq:(p:Int)<(s.size:Int):=by omega
 have hi:Hb s (p:Int)=some b:=by simp[Hb];simpa using hb
 simp only[Ai,Ri,xY,hq,aW,aF,hi,aq,cD hp hs];simp only[Dn,AE];by_cases h1:97<=b.toNat
 ·have wY:¬((b.toNat:Int)<97):=by omega
  by_cases h2:b.toNat<=122
  ·have J3:¬(122<(b.toNat:Int)):=by omega
   simp[h1,wY,h2,J3]
  ·have J3:(122<(b.toNat:Int)):=by omega
   have e1:¬(b.toNat:Int)=95:=by omega
   have e2:¬(b.toNat:Int)<48:=by omega
   have e5:57<(b.toNat:Int):=by omega
   have e3:¬b.toNat<=57:=by omega
   have e4:¬b.toNat=95:=by omega
   simp[h1,wY,h2,J3,e1,e2,e3,e4,e5]
 ·have wY:((b.toNat:Int)<97):=by omega
  by_cases e2:48<=b.toNat
  ·have Cz:¬(b.toNat:Int)<48:=by omega
   by_cases e3:b.toNat<=57
   ·have AP:¬57<(b.toNat:Int):=by omega
    simp[h1,wY,e2,Cz,e3,AP]
   ·have AP:57<(b.toNat:Int):=by omega
    by_cases e1:b.toNat=95
    ·simp[e1]
    ·have e1':¬(b.toNat:Int)=95:=by omega
     simp[h1,wY,e2,Cz,e3,AP,e1,e1']
  ·have Cz:(b.toNat:Int)<48:=by omega
   have e1:¬b.toNat=95:=by omega
   have e1':¬(b.toNat:Int)=95:=by omega
   simp[h1,wY,e2,Cz,e1,e1']
def aiJ (n0:Nat) (s:ByteArray) (hs:s.size<4294967296):∀(x:List UInt8) (p m:Nat),s.data.toList.drop p=x->x.length<m->Ai (GC n0) m s (p:Int)=some (x.all Dn)
 | [],p,m+1,hd,hm=>by
  have:s.data.toList.length<=p:=by simpa using hd
  have hq:¬(p:Int)<(s.size:Int):=by rw[vA] at this;omega
  simp only[Ai,Ri,GC,hq,bg,aK,aG];rfl
 |b::x,p,m+1,hd,hm=>by
  let ⟨g1,g2,g3⟩:=bN hd;have ih:=aiJ n0 s hs x (p+1) m g2 (by simp at hm;omega)
  rw[arM n0 m s p hs b g1,ih];simp only[uq];cases hc:Dn b<;>simp
 |_,_,0,_,hm=>by simp at hm
def aiX (n:Nat) (s:ByteArray) (hn:100<n):adN n s=some (y8 s):=by
 unfold adN aeK y8;by_cases h0:s.size=0
 ·have:s.data.toList= []:=by
   have:=vA s;exact ur (by omega)
  simp[h0,this,Ps]
 ·have e1:((s.size:Int)==0)=false:=by rw[beq_eq_false_iff_ne];omega
  by_cases h1:s.size<=32
  ·have e2:¬32<(s.size:Int):=by omega
   simp only[e1,e2,bg,aK,aG,h1,aW,iP];cases hx:s.data.toList with
   |nil=>have:=vA s;rw[hx] at this;simp at this;omega
   |cons b l=>
    have hi:Hb s 0=some b:=by simp only[Hb,hx];rfl
    have hl:l.length<32:=by have:=vA s;rw[hx] at this;simp at this;omega
    simp only[hi,aq,Ps];have:=aiJ n s (by omega) s.data.toList 0 n rfl (by rw[vA];omega)
    rw[show ((0:Nat):Int)=0 from rfl,hx,uq] at this;rw[this];by_cases h3:97<=b.toNat
    ·have J2:¬((b.toNat:Int)<97):=by omega
     by_cases h4:b.toNat<=122
     ·have h4':¬(122<(b.toNat:Int)):=by omega
      have hb:AE b=true:=by simp[AE,h3,h4]
      simp[J2,h4',hb,Dn]
     ·have h4':(122<(b.toNat:Int)):=by omega
      have hb:AE b=false:=by simp[AE];omega
      simp[J2,h4',hb]
    ·have J2:((b.toNat:Int)<97):=by omega
     have hb:AE b=false:=by simp[AE];omega
     simp[J2,hb]
  ·have e2:32<(s.size:Int):=by omega
   simp only[e1,e2,bg,aW,aK,aG,aF,h1,gj]
def Py {O:Type} (d:O) (k:ByteArray) (v:O) (x:ByteArray):∀m:List (ByteArray×O),mO (ny m k v) x d=if x=k then v else mO m x d
 | []=>by simp[ny,mO]
 |p::m=>by
  simp only[ny];by_cases h:k=p.1
  ·simp only[h,aF,mO];by_cases h2:x=p.1
   ·simp[h2]
   ·simp[h2]
  ·simp only[h,aG,mO];by_cases h2:x=p.1
   ·have:¬x=k:=λe=>h (e.symm.trans h2)
    simp[h2];intro e;exact absurd e.symm h
   ·simp only[h2,aG];exact Py d k v x m
def oR (x:ByteArray):List ByteArray->Bool
 | []=>false
 |y::l=>decide (x=y)||oR x l
def abc (x:ByteArray):∀(a b:List ByteArray),oR x (a++b)=(oR x a||oR x b)
 | [],b=>by simp[oR]
 |y::a,b=>by simp[oR,abc x a b,Bool.or_assoc]
def xG:List ByteArray->cG->Bool
 |_,[]=>true
 |seen,c::cs=>y8 c.ar&&(!oR c.ar seen&&(AF c.aC&&xG (seen++ [c.ar]) cs))
def NF (seen:List ByteArray) (T:ah):Bool:=y8 T.ar&&(!oR T.ar seen&&(decide (1<=T.aP)&&(decide (T.aP<=(T.ae.length:Int))&&xG [] T.ae)))
def qO:List ByteArray->bl->Bool
 |_,[]=>true
 |seen,T::Ts=>NF seen T&&qO (seen++ [T.ar]) Ts
def O5 (m:List (ByteArray×Bool)) (seen:List ByteArray):Prop:=∀x,mO m x false=oR x seen
def O5.put (h:O5 m seen) (k:ByteArray):O5 (ny m k true) (seen++ [k]):=λx=>by
 rw[Py,h x,abc];by_cases hx:x=k
 ·simp[hx,oR]
 ·simp[hx,oR]
def adr (k:bl->Int->Int->ByteArray->Int->Int->cG->Int->List (ByteArray×Bool)->ah->Option Bool) (cs:cG) (hl:cs.length<=8) (a1:bl) (a2 a3:Int) (a4:ByteArray) (a5 a6:Int) (a7:cG) (a8:Int) (a9:List (ByteArray×Bool)) (T:ah):∀(x:cG) (i m:Nat) (mp:List (ByteArray×Bool)) (seen:List ByteArray),cs.drop i=x->x.length+200<m->O5 mp seen->
  MO k m a1 a2 a3 a4 a5 a6 a7 a8 cs (cs.length:Int) (i:Int) a9 mp T=if xG seen x=true then k a1 a2 a3 a4 a5 a6 a7 a8 a9 T else some false
 | [],i,m+1,mp,seen,hd,hm,hs=>by
  have:cs.length<=i:=by simpa using hd
  have hq:¬((i:Int)<(cs.length:Int)):=by omega
  simp only[MO,Yo,hq,bg,aK,aG,xG,aF]
 |c::x,i,m+1,mp,seen,hd,hm,hs=>by
  let ⟨g1,g2,g3⟩:=bN hd;have hq:(i:Int)<(cs.length:Int):=by omega
  simp at hm;have ih:=adr k cs hl a1 a2 a3 a4 a5 a6 a7 a8 a9 T x (i+1) m _ _ g2 (by omega) (hs.put c.ar)
  simp only[MO,Yo,hq,aW,aF,cH,g1,aq,arN m c.ar (by omega),hs c.ar,cD g3 (by omega),ih,xG]
  rcases lH (y8 c.ar) with hv|hv<;>rcases lH (oR c.ar seen) with h2|h2<;>by_cases h3:c.aC=3<;>by_cases h4:c.aC=4<;>by_cases h5:c.aC=5<;>simp[hv,h2,h3,h4,h5,AF]
 |_,_,0,_,_,_,hm,_=>by simp at hm
def adq (n0:Nat) (ts:bl) (hl:ts.length<=8) (hc:∀T∈ts,T.ae.length<=8):∀(x:bl) (i m:Nat) (mp:List (ByteArray×Bool)) (seen:List ByteArray),ts.drop i=x->x.length+1000<m->O5 mp seen->
  H5 (QO n0) m ts (ts.length:Int) (i:Int) mp=some (qO seen x)
 | [],i,m+1,mp,seen,hd,hm,hs=>by
  have:ts.length<=i:=by simpa using hd
  have hq:¬((i:Int)<(ts.length:Int)):=by omega
  simp only[H5,Ym,QO,hq,bg,aK,aG,qO]
 |T::x,i,m+1,mp,seen,hd,hm,hs=>by
  let ⟨g1,g2,g3⟩:=bN hd;have hq:(i:Int)<(ts.length:Int):=by omega
  simp at hm;have hT:=hc T (cX g1);have ih:=adq n0 ts hl hc x (i+1) m _ _ g2 (by omega) (hs.put T.ar)
  have JZ:=adr (Yn (H5 (QO n0) m) m) T.ae hT ts (ts.length:Int) (i:Int) T.ar T.aP T.aP T.ae (T.ae.length:Int) (ny mp T.ar true) T T.ae 0 m [] [] rfl (by omega) (λx=>by simp[mO,oR])
  rw[show ((0:Nat):Int)=0 from rfl] at JZ;simp only[H5,Ym,hq,aW,aF,cH,g1,aq,arN m T.ar (by omega),hs T.ar,JZ,Yn,cD g3 (by omega),ih,qO,NF]
  have q1:decide (T.aP<1)= !decide (1<=T.aP):=by rw[<-decide_not];exact Lt.2 (by omega)
  have q2:decide ((T.ae.length:Int)<T.aP)= !decide (T.aP<=(T.ae.length:Int)):=by rw[<-decide_not];exact Lt.2 (by omega)
  rw[q1,q2];rcases lH (y8 T.ar) with hv|hv<;>rcases lH (oR T.ar seen) with h2|h2<;>rcases lH (decide (1<=T.aP)) with h3|h3<;>rcases lH (decide (T.aP<=(T.ae.length:Int))) with h4|h4<;>rcases lH (xG [] T.ae) with h5|h5<;>simp only[hv,h2,h3,h4,h5,fA,kJ,aK,aG,aF,iP,gj]
 |_,_,0,_,_,_,hm,_=>by simp at hm
def aHD (n:Nat) (s:af) (hl:s.ai.length<=8) (hc:∀T∈s.ai,T.ae.length<=8) (hn:2000<n):F43 n s=some (qO [] s.ai):=
 adq n s.ai hl hc s.ai 0 n [] [] rfl (by omega) (λx=>by simp[mO,oR])
def WZ (k:ah->Option Bool) (s:af) (hl:s.ai.length<=8) (i:Nat) (hi:i<=s.ai.length) (T:ah):∀(x:bl) (j m:Nat),(s.ai.take i).drop j=x->x.length<m->j<=i->Gm k m (i:Int) (j:Int) s T=if oR T.ar (x.map (·.ar))=true then some false else k T
 | [],j,m+1,hd,hm,hj=>by
  have:(s.ai.take i).length<=j:=by simpa using hd
  rw[dx] at this;have hq:¬((j:Int)<(i:Int)):=by omega
  simp only[Gm,R7,hq,bg,aK,aG,xb,oR]
 |G::x,j,m+1,hd,hm,hj=>by
  let ⟨g1,g2,g3⟩:=bN hd;rw[dx] at g3;have hq:(j:Int)<(i:Int):=by omega
  have hg:s.ai[j]? =some G:=by rw[eR,ax (by omega)] at g1;exact g1
  have ih:=WZ k s hl i hi T x (j+1) m g2 (by simp at hm;omega) (by omega)
  have hw:bh ((j:Int)+1)=((j+1:Nat):Int):=by rw[dI (by omega) (by omega)];rfl
  simp only[Gm,R7,hq,aW,aF,cH,hg,aq,hw,ih,fM,oR];by_cases h:G.ar=T.ar
  ·simp[h]
  ·have h':¬T.ar=G.ar:=λe=>h e.symm
   simp[h,h']
 |_,_,0,_,hm,_=>by simp at hm
def WY (k:Int->Int->cG->Int->cO->cO->Int->Bool->ah->Option Bool) (T:ah) (hl:T.ae.length<=8) (i:Nat) (c:cO) (hc:T.ae[i]? =some c) (a1 a2:Int) (a3:cG) (a4:Int) (a5 a6:cO) (a7:Int) (a8:Bool):∀(x:cG) (j m:Nat),(T.ae.take i).drop j=x->x.length<m->j<=i->
  Gl k m (i:Int) (j:Int) a1 a2 a3 a4 a5 a6 a7 a8 T=if oR c.ar (x.map (·.ar))=true then some false else k a1 a2 a3 a4 a5 a6 a7 a8 T
 | [],j,m+1,hd,hm,hj=>by
  have:(T.ae.take i).length<=j:=by simpa using hd
  have hi:=(cg.1 hc).1;rw[dx] at this;have hq:¬((j:Int)<(i:Int)):=by omega
  simp only[Gl,R6,hq,bg,aK,aG,xb,oR]
 |G::x,j,m+1,hd,hm,hj=>by
  let ⟨g1,g2,g3⟩:=bN hd;have hi:=(cg.1 hc).1;rw[dx] at g3;have hq:(j:Int)<(i:Int):=by omega
  have hg:T.ae[j]? =some G:=by rw[eR,ax (by omega)] at g1;exact g1
  have ih:=WY k T hl i c hc a1 a2 a3 a4 a5 a6 a7 a8 x (j+1) m g2 (by simp at hm;omega) (by omega)
  have hw:bh ((j:Int)+1)=((j+1:Nat):Int):=by rw[dI (by omega) (by omega)];rfl
  simp only[Gl,R6,hq,aW,aF,cH,hg,hc,aq,hw,ih,fM,oR];by_cases h:G.ar=c.ar
  ·simp[h]
  ·have h':¬c.ar=G.ar:=λe=>h e.symm
   simp[h,h']
 |_,_,0,_,hm,_=>by simp at hm
def WX (n0:Nat) (T:ah) (hl:T.ae.length<=8):∀(x:cG) (i m:Nat),T.ae.drop i=x->x.length+200<m->CZ (Lc n0) m (T.ae.length:Int) (i:Int) T=some (xG ((T.ae.take i).map (·.ar)) x)
 | [],i,m+1,hd,hm=>by
  have:T.ae.length<=i:=by simpa using hd
  have hq:¬((i:Int)<(T.ae.length:Int)):=by omega
  simp only[CZ,R2,Lc,hq,bg,aK,aG,xG]
 |c::x,i,m+1,hd,hm=>by
  let ⟨g1,g2,g3⟩:=bN hd;have hq:(i:Int)<(T.ae.length:Int):=by omega
  simp at hm;have ih:=WX n0 T hl x (i+1) m g2 (by omega)
  have ju:=λb=>WY (R4 (CZ (Lc n0) m) m) T hl i c g1 (T.ae.length:Int) (i:Int) T.ae (i:Int) c c c.aC b (T.ae.take i) 0 m rfl (by simp;omega) (by omega)
  rw[show ((0:Nat):Int)=0 from rfl] at ju;rw[Lv,g1] at ih;simp only[Lu,pT,fM,xb] at ih;simp only[CZ,R2,hq,aW,aF,cH,g1,aq,aiX m c.ar (by omega),aiW,ju,R4,cD g3 (by omega),ih,xG]
  rcases lH (y8 c.ar) with hv|hv<;>rcases lH (AF c.aC) with h3|h3<;>rcases lH (oR c.ar ((T.ae.take i).map (·.ar))) with h2|h2<;>simp only[hv,h2,h3,fA,kJ,aK,aG,aF,iP,gj]
 |_,_,0,_,hm=>by simp at hm
def aBX (n:Nat) (s:af) (hl:s.ai.length<=8) (i:Nat) (T:ah) (hT:s.ai[i]? =some T) (hc:T.ae.length<=8) (hn:1000<n):ani n s (i:Int)=some (NF ((s.ai.take i).map (·.ar)) T):=by
 have hi:=(cg.1 hT).1;unfold ani afq NF;simp only[cH,hT,aq,aiX n T.ar (by omega)]
 rcases lH (y8 T.ar) with alB|alB
 rotate_left
 ·simp[alB]
 ·simp only[alB,fA,aK,aG,iP];have h0:=WZ (R1 n) s hl i (by omega) T (s.ai.take i) 0 n rfl (by simp;omega) (by omega)
  rw[show ((0:Nat):Int)=0 from rfl] at h0;have h1:=WX n T hc T.ae 0 n rfl (by omega)
  rw[show ((0:Nat):Int)=0 from rfl,EF,xb] at h1;simp only[h0,R1,h1];by_cases e0:T.ae.length=0
  ·have e1:((T.ae.length:Int)==0)=true:=by simp[e0]
   by_cases h3:1<=T.aP
   ·have:¬T.aP<=(T.ae.length:Int):=by omega
    simp only[e1,aF,this,bg,gj,Bt]
   ·simp only[e1,aF,h3,bg,gj,Bt]
  ·have e1:((T.ae.length:Int)==0)=false:=by rw[beq_eq_false_iff_ne];omega
   simp only[e1,aK,aG];by_cases h3:T.aP<1
   ·have:¬1<=T.aP:=by omega
    simp[h3,this]
   ·have J2:1<=T.aP:=by omega
    by_cases h4:(T.ae.length:Int)<T.aP
    ·have:¬T.aP<=(T.ae.length:Int):=by omega
     simp[h3,J2,h4,this]
    ·have h4':T.aP<=(T.ae.length:Int):=by omega
     rcases lH (oR T.ar ((s.ai.take i).map (·.ar))) with h2|h2<;>simp only[h2,h3,J2,h4,h4',aW,bg,fA,kJ,aK,aG,aF,iP,gj]
def acC:∀{cs:cG} {seen:List ByteArray},xG seen cs=true->nS (cs.map (·.aC))=true
 | [],_,_=>rfl
 |c::cs,seen,h=>by
  simp only[xG,aY] at h;simp only[fM,nS,uq,aY];exact ⟨h.2.2.1,acC h.2.2.2⟩
def ayu {T:ah} (hc:T.ae.length<=8) (h:NF seen T=true):vD T:=by
 simp only[NF,aY,lI] at h;exact ⟨h.2.2.1,h.2.2.2.1,hc,acC h.2.2.2.2⟩
def ND:∀{ts:bl} {seen:List ByteArray},(∀T∈ts,T.ae.length<=8)->qO seen ts=true->∀T∈ts,vD T
 | [],_,_,_,T,hT=>by simp at hT
 |G::ts,seen,hc,h,T,hT=>by
  simp only[qO,aY] at h;rcases bB.1 hT with rfl|hT
  ·exact ayu (hc _ (by simp)) h.1
  ·exact ND (λT hT=>hc T (by simp[hT])) h.2 T hT
def pO (tc:cG):cG->aH->Bool
 |_,[]=>true
 | [],_::_=>false
 |g::gs,c::cs=>match idx tc c with|none=>false|some x=>x.aC==g.aC&&pO tc gs cs
def aal (s:af) (T:ah) (r:bf):Bool:=match idx s.ai r.aO with|none=>false|some G=>((r.ae.length:Int)==G.aP)&&pO T.ae G.ae r.ae
def td (s:af) (T:ah):cf->Bool
 | []=>true
 |r::rs=>aal s T r&&td s T rs
def allRefs (s:af):bl->Bool
 | []=>true
 |T::ts=>td s T T.ak&&allRefs s ts
def Du (xs:List Y) (i:Int):(i<0/\idx xs i=none)\/(¬i<0/\¬i<(xs.length:Int)/\idx xs i=none)\/(¬i<0/\i<(xs.length:Int)/\∃x,idx xs i=some x):=by
 by_cases h:i<0
 ·exact .inl ⟨h,by unfold idx;rw[aA (by omega)]⟩
 ·by_cases h2:i<(xs.length:Int)
  ·refine .inr (.inr ⟨h,h2,xs[i.toNat]'(by omega),?_⟩)
   unfold idx;rw[ax (by omega),dW (by omega)]
  ·exact .inr (.inl ⟨h,h2,aBh (by omega) h2⟩)
def adp (k:bl->Int->Int->cf->Int->Int->Int->bl->Int->af->ah->bf->Option Bool) (T G:ah) (cs:aH) (hc:cs.length<=G.ae.length) (hg:G.ae.length<=8) (a1:bl) (a2 a3:Int) (a4:cf) (a5 a6 a7:Int) (a8:bl) (a9:Int) (s:af) (r:bf):∀(x:aH) (i m:Nat),cs.drop i=x->x.length<m->
  MN k m a1 a2 a3 a4 a5 a6 a7 a8 a9 cs (cs.length:Int) (i:Int) s T G r=if pO T.ae (G.ae.drop i) x=true then k a1 a2 a3 a4 a5 a6 a7 a8 a9 s T r else some false
 | [],i,m+1,hd,hm=>by
  have:cs.length<=i:=by simpa using hd
  have hq:¬((i:Int)<(cs.length:Int)):=by omega
  simp only[MN,Yl,hq,bg,aK,aG,pO,aF]
 |c::x,i,m+1,hd,hm=>by
  let ⟨g1,g2,g3⟩:=bN hd;have hq:(i:Int)<(cs.length:Int):=by omega
  have bD:i<G.ae.length:=by omega
  have hgi:G.ae[i]? =some G.ae[i]:=dW bD;have hdr:G.ae.drop i=G.ae[i]::G.ae.drop (i+1):=se bD;generalize G.ae[i]=g at hgi hdr;have ih:=adp k T G cs hc hg a1 a2 a3 a4 a5 a6 a7 a8 a9 s r x (i+1) m g2 (by simp at hm;omega)
  simp only[MN,Yl,hq,aW,aF,cH,g1,hgi,aq,cD g3 (by omega),ih]
  rw[hdr];simp only[pO];rcases Du T.ae c with ⟨h1,h2⟩|⟨h1,h3,h2⟩|⟨h1,h3,y,h2⟩
  ·simp only[h1,h2,aW,aF,aK,aG]
  ·simp only[h1,h2,h3,bg,kJ,aF,aK,aG]
  ·simp only[h1,h2,h3,bg,aW,fA,aK,aG,aq];by_cases h4:y.aC=g.aC
   ·simp[h4]
   ·simp[h4]
 |_,_,0,_,hm=>by simp at hm
def ado (k:bl->Int->Int->af->Option Bool) (s:af) (hs:∀t G,idx s.ai t=some G->vD G) (T:ah) (rs:cf) (hl:rs.length<=8) (a1:bl) (a2 a3:Int):∀(x:cf) (i m:Nat),rs.drop i=x->x.length+100<m->
  H4 k m a1 a2 a3 rs (rs.length:Int) (i:Int) s T=if td s T x=true then k a1 a2 a3 s else some false
 | [],i,m+1,hd,hm=>by
  have:rs.length<=i:=by simpa using hd
  have hq:¬((i:Int)<(rs.length:Int)):=by omega
  simp only[H4,Yj,hq,bg,aK,aG,td,aF]
 |r::x,i,m+1,hd,hm=>by
  let ⟨g1,g2,g3⟩:=bN hd;have hq:(i:Int)<(rs.length:Int):=by omega
  simp at hm;have ih:=ado k s hs T rs hl a1 a2 a3 x (i+1) m g2 (by omega)
  simp only[H4,Yj,hq,aW,aF,cH,g1,aq,td,aal];rcases Du s.ai r.aO with ⟨h1,h2⟩|⟨h1,h3,h2⟩|⟨h1,h3,G,h2⟩
  ·simp only[h1,h2,aW,aF,gj,aK,aG]
  ·simp only[h1,h2,h3,bg,kJ,aF,gj,aK,aG]
  ·have hG:=hs _ _ h2;have k2:=hG.G9;have k3:=hG.cols;simp only[h1,h2,h3,bg,aW,fA,aK,aG,aq];by_cases h4:(r.ae.length:Int)=G.aP
   ·have e:((r.ae.length:Int) !=G.aP)=false:=by simp[h4]
    have e':((r.ae.length:Int)==G.aP)=true:=by simp[h4]
    have ju:=adp (Yk (H4 k m) m) T G r.ae (by omega) k3 a1 a2 a3 rs (rs.length:Int) (i:Int) r.aO s.ai (s.ai.length:Int) s r r.ae 0 m rfl (by omega)
    rw[show ((0:Nat):Int)=0 from rfl,pJ] at ju;simp only[e,e',aK,aG,ju,Yk,cD g3 (by omega),ih,iP]
    rcases lH (pO T.ae G.ae r.ae) with hv|hv<;>simp only[hv,aF,iP,gj,aK,aG]
   ·have e:((r.ae.length:Int) !=G.aP)=true:=by simpa using h4
    have e':((r.ae.length:Int)==G.aP)=false:=by simpa using h4
    simp only[e,e',aF,gj,aK,aG]
 |_,_,0,_,hm=>by simp at hm
def adn (n0:Nat) (s:af) (hs:∀t G,idx s.ai t=some G->vD G) (ts:bl) (hl:ts.length<=8) (hr:∀T∈ts,T.ak.length<=4):∀(x:bl) (i m:Nat),ts.drop i=x->x.length+200<m->
  H3 (QN n0) m ts (ts.length:Int) (i:Int) s=some (allRefs s x)
 | [],i,m+1,hd,hm=>by
  have:ts.length<=i:=by simpa using hd
  have hq:¬((i:Int)<(ts.length:Int)):=by omega
  simp only[H3,Yh,QN,hq,bg,aK,aG,allRefs]
 |T::x,i,m+1,hd,hm=>by
  let ⟨g1,g2,g3⟩:=bN hd;have hq:(i:Int)<(ts.length:Int):=by omega
  simp at hm;have hT:=hr T (cX g1);have ih:=adn n0 s hs ts hl hr x (i+1) m g2 (by omega)
  have ju:=ado (Yi (H3 (QN n0) m) m) s hs T T.ak (by omega) ts (ts.length:Int) (i:Int) T.ak 0 m rfl (by omega)
  rw[show ((0:Nat):Int)=0 from rfl] at ju;simp only[H3,Yh,hq,aW,aF,cH,g1,aq,ju,Yi,cD g3 (by omega),ih,allRefs]
  rcases lH (td s T T.ak) with hv|hv<;>simp only[hv,aF,iP,gj,aK,aG]
 |_,_,0,_,hm=>by simp at hm
def aHC (n:Nat) (s:af) (hs:∀t G,idx s.ai t=some G->vD G) (hl:s.ai.length<=8) (hr:∀T∈s.ai,T.ak.length<=4) (hn:1000<n):F44 n s=some (allRefs s s.ai):=
 adn n s hs s.ai hl hr s.ai 0 n rfl (by omega)
def WW (k:cf->Int->Int->Int->bl->Int->aH->Int->bl->Int->ah->ah->Int->af->ah->bf->Option Bool) (s:af) (T G:ah) (r:bf) (hG:idx s.ai r.aO=some G) (cs:aH) (hc:cs.length<=G.ae.length) (hg:G.ae.length<=8) (a1:cf) (a2 a3 a4:Int) (a5:bl) (a6:Int) (a7:aH) (a8:Int) (a9:bl) (a10:Int) (a11 a12:ah) (a13:Int):∀(x:aH) (i m:Nat),cs.drop i=x->x.length<m->
  Gk k m a1 a2 a3 a4 a5 a6 a7 a8 a9 a10 a11 a12 a13 cs (cs.length:Int) (i:Int) s T r=if pO T.ae (G.ae.drop i) x=true then k a1 a2 a3 a4 a5 a6 a7 a8 a9 a10 a11 a12 a13 s T r else some false
 | [],i,m+1,hd,hm=>by
  have:cs.length<=i:=by simpa using hd
  have hq:¬((i:Int)<(cs.length:Int)):=by omega
  simp only[Gk,RZ,hq,bg,aK,aG,pO,aF]
 |c::x,i,m+1,hd,hm=>by
  let ⟨g1,g2,g3⟩:=bN hd;have hq:(i:Int)<(cs.length:Int):=by omega
  have bD:i<G.ae.length:=by omega
  have hgi:G.ae[i]? =some G.ae[i]:=dW bD;have hdr:G.ae.drop i=G.ae[i]::G.ae.drop (i+1):=se bD;generalize G.ae[i]=g at hgi hdr;have ih:=WW k s T G r hG cs hc hg a1 a2 a3 a4 a5 a6 a7 a8 a9 a10 a11 a12 a13 x (i+1) m g2 (by simp at hm;omega)
  simp only[Gk,RZ,hq,aW,aF,cH,g1,hG,hgi,aq,cD g3 (by omega),ih]
  rw[hdr];simp only[pO];rcases Du T.ae c with ⟨h1,h2⟩|⟨h1,h3,h2⟩|⟨h1,h3,y,h2⟩
  ·simp only[h1,h2,aW,aF,aK,aG]
  ·simp only[h1,h2,h3,bg,kJ,aF,aK,aG]
  ·simp only[h1,h2,h3,bg,aW,fA,aK,aG,aq];by_cases h4:y.aC=g.aC
   ·simp[h4]
   ·simp[h4]
 |_,_,0,_,hm=>by simp at hm
def WU (n0:Nat) (s:af) (hs:∀t G,idx s.ai t=some G->vD G) (T:ah) (rs:cf) (hl:rs.length<=8):∀(x:cf) (i m:Nat),rs.drop i=x->x.length+100<m->
  CY (Lb n0) m rs (rs.length:Int) (i:Int) s T=some (td s T x)
 | [],i,m+1,hd,hm=>by
  have:rs.length<=i:=by simpa using hd
  have hq:¬((i:Int)<(rs.length:Int)):=by omega
  simp only[CY,RX,Lb,hq,bg,aK,aG,td]
 |r::x,i,m+1,hd,hm=>by
  let ⟨g1,g2,g3⟩:=bN hd;have hq:(i:Int)<(rs.length:Int):=by omega
  simp at hm;have ih:=WU n0 s hs T rs hl x (i+1) m g2 (by omega)
  simp only[CY,RX,hq,aW,aF,cH,g1,aq,td,aal];rcases Du s.ai r.aO with ⟨h1,h2⟩|⟨h1,h3,h2⟩|⟨h1,h3,G,h2⟩
  ·simp only[h1,h2,aW,aF,gj]
  ·simp only[h1,h2,h3,bg,kJ,aF,gj,aK,aG]
  ·have hG:=hs _ _ h2;have k2:=hG.G9;have k3:=hG.cols;simp only[h1,h2,h3,bg,aW,fA,aK,aG,aq];by_cases h4:(r.ae.length:Int)=G.aP
   ·have e:((r.ae.length:Int) !=G.aP)=false:=by simp[h4]
    have e':((r.ae.length:Int)==G.aP)=true:=by simp[h4]
    have ju:=WW (RY (CY (Lb n0) m) m) s T G r h2 r.ae (by omega) k3 rs (rs.length:Int) (i:Int) r.aO s.ai (s.ai.length:Int) r.ae (r.ae.length:Int) s.ai r.aO G G G.aP r.ae 0 m rfl (by omega)
    rw[show ((0:Nat):Int)=0 from rfl,pJ] at ju;simp only[e,e',aK,aG,ju,RY,cD g3 (by omega),ih,iP]
    rcases lH (pO T.ae G.ae r.ae) with hv|hv<;>simp only[hv,aF,iP,gj,aK,aG]
   ·have e:((r.ae.length:Int) !=G.aP)=true:=by simpa using h4
    have e':((r.ae.length:Int)==G.aP)=false:=by simpa using h4
    simp only[e,e',aF,gj]
 |_,_,0,_,hm=>by simp at hm
def aBW (n:Nat) (s:af) (hs:∀t G,idx s.ai t=some G->vD G) (i:Nat) (T:ah) (hT:s.ai[i]? =some T) (hr:T.ak.length<=4) (hn:1000<n):anh n s (i:Int)=some (td s T T.ak):=by
 unfold anh afp;simp only[cH,hT,aq];exact WU n s hs T T.ak (by omega) T.ak 0 n rfl (by omega)
def r7 (ks:aH):bJ->Int
 | []=>0
 |p::ps=>if sW ks [] p=0 then r7 ks ps else sW ks [] p
def Az:bl->Int
 | []=>0
 |T::ts=>if r7 (lN T) T.aD=0 then Az ts else r7 (lN T) T.aD
def adx (k:bl->Int->Int->af->Option Int) (ks:aH) (hk:ks.length<=8) (s:af) (ps:bJ) (hl:ps.length<=4) (hp:∀p∈ps,fj p<=1500000) (a1:bl) (a2 a3:Int):∀(x:bJ) (i m:Nat),ps.drop i=x->x.length+1500000<m->m<4294967296->
  MS k m ks a1 a2 a3 ps (ps.length:Int) (i:Int) s=if r7 ks x=0 then k a1 a2 a3 s else some (r7 ks x)
 | [],i,m+1,hd,hm,hm'=>by
  have:ps.length<=i:=by simpa using hd
  have hq:¬((i:Int)<(ps.length:Int)):=by omega
  simp only[MS,Yy,hq,bg,aK,aG,r7,aF]
 |p::x,i,m+1,hd,hm,hm'=>by
  let ⟨g1,g2,g3⟩:=bN hd;have hq:(i:Int)<(ps.length:Int):=by omega
  simp at hm;have ih:=adx k ks hk s ps hl hp a1 a2 a3 x (i+1) m g2 (by omega) (by omega)
  have hpp:=hp p (cX g1);simp only[MS,Yy,hq,aW,aF,cH,g1,aq,aHA m ks [] p (by omega) (by simp;omega) (by omega) (by omega),cD g3 (by omega),ih,r7]
  by_cases h:sW ks [] p=0
  ·simp only[h,sJ,aK,aG,aF]
  ·have:(sW ks [] p !=0)=true:=by simpa using h
   simp only[h,this,aF,aG]
 |_,_,0,_,hm,_=>by simp at hm
def adj (k:Int->Int->af->Option Int) (T:ah) (s:af) (t:Int) (hT:idx s.ai t=some T) (hk:T.ae.length<=8) (ps:bJ) (hl:ps.length<=4) (hp:∀p∈ps,fj p<=1500000) (a1 a2:Int):∀(x:bJ) (i m:Nat),ps.drop i=x->x.length+1500000<m->m<4294967296->
  MH k m t a1 a2 ps (ps.length:Int) (i:Int) s=if r7 (lN T) x=0 then k a1 a2 s else some (r7 (lN T) x)
 | [],i,m+1,hd,hm,hm'=>by
  have:ps.length<=i:=by simpa using hd
  have hq:¬((i:Int)<(ps.length:Int)):=by omega
  simp only[MH,X9,hq,bg,aK,aG,r7,aF]
 |p::x,i,m+1,hd,hm,hm'=>by
  let ⟨g1,g2,g3⟩:=bN hd;have hq:(i:Int)<(ps.length:Int):=by omega
  simp at hm;have ih:=adj k T s t hT hk ps hl hp a1 a2 x (i+1) m g2 (by omega) (by omega)
  have hpp:=hp p (cX g1);have hkl:=PE T;simp only[MH,X9,hq,aW,aF,cH,g1,aq,arQ hT (by omega) (by omega:1000<m),ajj m (lN T) [] p (by omega) (by simp;omega) (by omega) (by omega),cD g3 (by omega),ih,r7]
  by_cases h:sW (lN T) [] p=0
  ·simp only[h,sJ,aK,aG,aF]
  ·have:(sW (lN T) [] p !=0)=true:=by simpa using h
   simp only[h,this,aF,aG]
 |_,_,0,_,hm,_=>by simp at hm
def uT (T:ah):Bool:=decide (T.ae.length<=8)&&(decide (T.ak.length<=4)&&decide (T.aD.length<=4))
def qy {T:ah} (h:uT T=true):T.ae.length<=8/\T.ak.length<=4/\T.aD.length<=4:=by simpa[uT] using h
def BQ (T:ah):Prop:=∀p∈T.aD,fj p<=1500000
def adw (n0:Nat) (s:af) (hl:s.ai.length<=8) (hb:∀T∈s.ai,uT T=true) (hz:∀T∈s.ai,BQ T):∀(x:bl) (i m:Nat),s.ai.drop i=x->x.length+1500010<m->m<4294967296->
  H6 (Rr n0) m s.ai (s.ai.length:Int) (i:Int) s=some (Az x)
 | [],i,m+1,hd,hm,hm'=>by
  have:s.ai.length<=i:=by simpa using hd
  have hq:¬((i:Int)<(s.ai.length:Int)):=by omega
  simp only[H6,Yw,Rr,hq,bg,aK,aG,Az]
 |T::x,i,m+1,hd,hm,hm'=>by
  let ⟨g1,g2,g3⟩:=bN hd;have hq:(i:Int)<(s.ai.length:Int):=by omega
  simp at hm;have yR:=cX g1;let ⟨b1,b2,b3⟩:=qy (hb T yR);have hT:idx s.ai (i:Int)=some T:=by rw[cH];exact g1
  have hkl:=PE T;have ih:=adw n0 s hl hb hz x (i+1) m g2 (by omega) (by omega)
  have ju:=adx (Yx (H6 (Rr n0) m) m) (lN T) (by omega) s T.aD b3 (hz T yR) s.ai (s.ai.length:Int) (i:Int) T.aD 0 m rfl (by omega) (by omega)
  rw[show ((0:Nat):Int)=0 from rfl] at ju;simp only[H6,Yw,hq,aW,aF,hT,aq,aHB hT (by omega) (by omega:1000<m),ju,Yx,cD g3 (by omega),ih,Az]
  by_cases h:r7 (lN T) T.aD=0
  ·simp only[h,aF]
  ·simp only[h,aG]
 |_,_,0,_,hm,_=>by simp at hm
def adi (n0:Nat) (s:af) (hl:s.ai.length<=8) (hb:∀T∈s.ai,uT T=true) (hz:∀T∈s.ai,BQ T):∀(x:bl) (i m:Nat),s.ai.drop i=x->x.length+1500010<m->m<4294967296->
  H0 (QM n0) m (s.ai.length:Int) (i:Int) s=some (Az x)
 | [],i,m+1,hd,hm,hm'=>by
  have:s.ai.length<=i:=by simpa using hd
  have hq:¬((i:Int)<(s.ai.length:Int)):=by omega
  simp only[H0,X7,QM,hq,bg,aK,aG,Az]
 |T::x,i,m+1,hd,hm,hm'=>by
  let ⟨g1,g2,g3⟩:=bN hd;have hq:(i:Int)<(s.ai.length:Int):=by omega
  simp at hm;have yR:=cX g1;let ⟨b1,b2,b3⟩:=qy (hb T yR);have hT:idx s.ai (i:Int)=some T:=by rw[cH];exact g1
  have ih:=adi n0 s hl hb hz x (i+1) m g2 (by omega) (by omega)
  have ju:=adj (X8 (H0 (QM n0) m) m) T s (i:Int) hT b1 T.aD b3 (hz T yR) (s.ai.length:Int) (i:Int) T.aD 0 m rfl (by omega) (by omega)
  rw[show ((0:Nat):Int)=0 from rfl] at ju;simp only[H0,X7,hq,aW,aF,hT,aq,ju,X8,cD g3 (by omega),ih,Az]
  by_cases h:r7 (lN T) T.aD=0
  ·simp only[h,aF]
  ·simp only[h,aG]
 |_,_,0,_,hm,_=>by simp at hm
def ady (k:af->Option Int) (s:af) (ts:bl) (hl:ts.length<=8):∀(x:bl) (i m:Nat),ts.drop i=x->x.length<m->MT k m ts (ts.length:Int) (i:Int) s=if x.all uT=true then k s else some 2
 | [],i,m+1,hd,hm=>by
  have:ts.length<=i:=by simpa using hd
  have hq:¬((i:Int)<(ts.length:Int)):=by omega
  simp only[MT,Yz,hq,bg,aK,aG,List.all_nil,aF]
 |T::x,i,m+1,hd,hm=>by
  let ⟨g1,g2,g3⟩:=bN hd;have hq:(i:Int)<(ts.length:Int):=by omega
  have ih:=ady k s ts hl x (i+1) m g2 (by simp at hm;omega)
  simp only[MT,Yz,hq,aW,aF,cH,g1,aq,cD g3 (by omega),ih,uq,uT]
  by_cases h1:T.ae.length<=8
  ·have e1:¬(8:Int)<(T.ae.length:Int):=by omega
   by_cases h2:T.ak.length<=4
   ·have e2:¬(4:Int)<(T.ak.length:Int):=by omega
    by_cases h3:T.aD.length<=4
    ·have e3:¬(4:Int)<(T.aD.length:Int):=by omega
     simp only[h1,h2,h3,e1,e2,e3,aW,bg,aK,aG,sI,iP]
    ·have e3:(4:Int)<(T.aD.length:Int):=by omega
     simp only[h1,h2,h3,e1,e2,e3,aW,bg,aK,aG,aF,Bt,gj]
   ·have e2:(4:Int)<(T.ak.length:Int):=by omega
    simp only[h1,h2,e1,e2,aW,bg,aK,aG,aF,Bt,gj]
  ·have e1:(8:Int)<(T.ae.length:Int):=by omega
   simp only[h1,e1,aW,bg,aK,aG,aF,gj]
 |_,_,0,_,hm=>by simp at hm
def adm (k:af->Option Int) (s:af) (ts:bl) (hl:ts.length<=8):∀(x:bl) (i m:Nat),ts.drop i=x->x.length<m->MK k m ts (ts.length:Int) (i:Int) s=if x.all uT=true then k s else some 2
 | [],i,m+1,hd,hm=>by
  have:ts.length<=i:=by simpa using hd
  have hq:¬((i:Int)<(ts.length:Int)):=by omega
  simp only[MK,Yc,hq,bg,aK,aG,List.all_nil,aF]
 |T::x,i,m+1,hd,hm=>by
  let ⟨g1,g2,g3⟩:=bN hd;have hq:(i:Int)<(ts.length:Int):=by omega
  have ih:=adm k s ts hl x (i+1) m g2 (by simp at hm;omega)
  simp only[MK,Yc,hq,aW,aF,cH,g1,aq,cD g3 (by omega),ih,uq,uT]
  by_cases h1:T.ae.length<=8
  ·have e1:¬(8:Int)<(T.ae.length:Int):=by omega
   by_cases h2:T.ak.length<=4
   ·have e2:¬(4:Int)<(T.ak.length:Int):=by omega
    by_cases h3:T.aD.length<=4
    ·have e3:¬(4:Int)<(T.aD.length:Int):=by omega
     simp only[h1,h2,h3,e1,e2,e3,aW,bg,aK,aG,sI,iP]
    ·have e3:(4:Int)<(T.aD.length:Int):=by omega
     simp only[h1,h2,h3,e1,e2,e3,aW,bg,aK,aG,aF,Bt,gj]
   ·have e2:(4:Int)<(T.ak.length:Int):=by omega
    simp only[h1,h2,e1,e2,aW,bg,aK,aG,aF,Bt,gj]
  ·have e1:(8:Int)<(T.ae.length:Int):=by omega
   simp only[h1,e1,aW,bg,aK,aG,aF,gj]
 |_,_,0,_,hm=>by simp at hm
def adl (k:af->Option Int) (s:af) (hl:s.ai.length<=8) (hc:∀T∈s.ai,uT T=true):∀(x:bl) (i m:Nat),s.ai.drop i=x->x.length+2000<m->MJ k m (s.ai.length:Int) (i:Int) s=if qO ((s.ai.take i).map (·.ar)) x=true then k s else some 70
 | [],i,m+1,hd,hm=>by
  have:s.ai.length<=i:=by simpa using hd
  have hq:¬((i:Int)<(s.ai.length:Int)):=by omega
  simp only[MJ,Yb,hq,bg,aK,aG,qO,aF]
 |T::x,i,m+1,hd,hm=>by
  let ⟨g1,g2,g3⟩:=bN hd;have hq:(i:Int)<(s.ai.length:Int):=by omega
  simp at hm;have ih:=adl k s hl hc x (i+1) m g2 (by omega)
  rw[Lv,g1] at ih;simp only[Lu,pT,fM,xb] at ih;simp only[MJ,Yb,hq,aW,aF,aBX m s hl i T g1 (qy (hc T (cX g1))).1 (by omega),aq,cD g3 (by omega),ih,qO]
  rcases lH (NF ((s.ai.take i).map (·.ar)) T) with hv|hv<;>simp only[hv,fA,kJ,aK,aF,aG,iP,gj]
 |_,_,0,_,hm=>by simp at hm
def adk (k:af->Option Int) (s:af) (hs:∀t G,idx s.ai t=some G->vD G) (hl:s.ai.length<=8) (hc:∀T∈s.ai,uT T=true):∀(x:bl) (i m:Nat),s.ai.drop i=x->x.length+2000<m->MI k m (s.ai.length:Int) (i:Int) s=if allRefs s x=true then k s else some 70
 | [],i,m+1,hd,hm=>by
  have:s.ai.length<=i:=by simpa using hd
  have hq:¬((i:Int)<(s.ai.length:Int)):=by omega
  simp only[MI,Ya,hq,bg,aK,aG,allRefs,aF]
 |T::x,i,m+1,hd,hm=>by
  let ⟨g1,g2,g3⟩:=bN hd;have hq:(i:Int)<(s.ai.length:Int):=by omega
  simp at hm;have ih:=adk k s hs hl hc x (i+1) m g2 (by omega)
  simp only[MI,Ya,hq,aW,aF,aBW m s hs i T g1 (qy (hc T (cX g1))).2.1 (by omega),aq,cD g3 (by omega),ih,allRefs]
  rcases lH (td s T T.ak) with hv|hv<;>simp only[hv,fA,kJ,aK,aF,aG,iP,gj]
 |_,_,0,_,hm=>by simp at hm
def kr (s:af):Int:=
 if 8<s.ai.length then 2
 else if s.ai.all uT=true then
  (if s.av<0 then 70 else if 1000<s.av then 70
   else if qO [] s.ai=true then (if allRefs s s.ai=true then Az s.ai else 70) else 70)
 else 2
def SF {s:af} (hb:∀T∈s.ai,uT T=true) (h:qO [] s.ai=true):∀t G,idx s.ai t=some G->vD G:=λt G hG=>
 ND (λT hT=>(qy (hb T hT)).1) h G (cX (JM hG).2.2)
structure SOK (s:af):Prop where
 len:s.ai.length<=8
 sj:∀t T,idx s.ai t=some T->vD T
def NJ {s:af} (h:kr s=0):SOK s:=by
 unfold kr at h;split at h
 ·cases h
 ·rename_i h8;split at h
  ·rename_i hb;rw[dV] at hb;split at h
   ·cases h
   ·split at h
    ·cases h
    ·split at h
     ·rename_i ht;exact ⟨by omega,SF hb ht⟩
     ·cases h
  ·cases h
def adR (n:Nat) (s:af) (hz:∀T∈s.ai,BQ T) (hn:1600000<n) (gC:n<4294967296):F15 n s=some (kr s):=by
 unfold F15 anK kr;by_cases h8:8<s.ai.length
 ·have:(8:Int)<(s.ai.length:Int):=by omega
  simp only[h8,this,aW,aF]
 ·have h8':¬(8:Int)<(s.ai.length:Int):=by omega
  have h0:=ady (Yv n) s s.ai (by omega) s.ai 0 n rfl (by omega)
  rw[show ((0:Nat):Int)=0 from rfl] at h0;simp only[h8,h8',bg,aK,aG,h0];by_cases hb:s.ai.all uT=true
  ·simp only[hb,aF,Yv];have cn:=dV.1 hb;by_cases v1:s.av<0
   ·simp only[v1,aW,aF]
   ·by_cases v2:1000<s.av
    ·simp only[v1,v2,aW,bg,aK,aG,aF]
    ·simp only[v1,v2,bg,aK,aG,aHD n s (by omega) (λT hT=>(qy (cn T hT)).1) (by omega),aq]
     by_cases ht:qO [] s.ai=true
     ·simp only[ht,fA,aK,aG,aF,aHC n s (SF cn ht) (by omega) (λT hT=>(qy (cn T hT)).2.1) (by omega),aq]
      by_cases hr:allRefs s s.ai=true
      ·have h3:=adw n s (by omega) cn hz s.ai 0 n rfl (by omega) gC
       rw[show ((0:Nat):Int)=0 from rfl] at h3;simp only[hr,fA,aK,aG,aF,h3]
      ·simp only[hr,Bool.not_eq_true] at hr ⊢;simp[hr]
     ·have ht':qO [] s.ai=false:=by simpa using ht
      simp[ht']
  ·simp only[hb,aG,aK]
def adD (n:Nat) (s:af) (hz:∀T∈s.ai,BQ T) (hn:1600000<n) (gC:n<4294967296):F94 n s=some (kr s):=by
 unfold F94 aek kr;by_cases h8:8<s.ai.length
 ·have:(8:Int)<(s.ai.length:Int):=by omega
  simp only[h8,this,aW,aF]
 ·have h8':¬(8:Int)<(s.ai.length:Int):=by omega
  have h0:=adm (X4 n) s s.ai (by omega) s.ai 0 n rfl (by omega)
  rw[show ((0:Nat):Int)=0 from rfl] at h0;simp only[h8,h8',bg,aK,aG,h0];by_cases hb:s.ai.all uT=true
  ·simp only[hb,aF,X4];have cn:=dV.1 hb;by_cases v1:s.av<0
   ·simp only[v1,aW,aF]
   ·by_cases v2:1000<s.av
    ·simp only[v1,v2,aW,bg,aK,aG,aF]
    ·have h1:=adl (X5 n) s (by omega) cn s.ai 0 n rfl (by omega)
     rw[show ((0:Nat):Int)=0 from rfl,EF,xb] at h1;simp only[v1,v2,bg,aK,aG,h1];by_cases ht:qO [] s.ai=true
     ·have h2:=adk (X6 n) s (SF cn ht) (by omega) cn s.ai 0 n rfl (by omega)
      rw[show ((0:Nat):Int)=0 from rfl] at h2;simp only[ht,aF,X5,h2];by_cases hr:allRefs s s.ai=true
      ·have h3:=adi n s (by omega) cn hz s.ai 0 n rfl (by omega) gC
       rw[show ((0:Nat):Int)=0 from rfl] at h3;simp only[hr,aF,X6,h3]
      ·simp only[hr,aG,aK]
     ·simp only[ht,aG,aK]
  ·simp only[hb,aG,aK]
def kF (id : Int) (r1 r2 r3 : cf) (ch : bJ) : bl :=
  [⟨ByteArray.mk #[112, 114, 111, 106, 101, 99, 116, 115], [⟨ByteArray.mk #[105, 100], 4⟩, ⟨ByteArray.mk #[111, 119, 110, 101, 114], 4⟩], 1, [], []⟩,
   ⟨ByteArray.mk #[116, 97, 115, 107, 115], [⟨ByteArray.mk #[105, 100], id⟩, ⟨ByteArray.mk #[112, 114, 111, 106, 101, 99, 116], 4⟩, ⟨ByteArray.mk #[116, 105, 116, 108, 101], 5⟩, ⟨ByteArray.mk #[100, 111, 110, 101], 3⟩], 1, r1, ch⟩,
   ⟨ByteArray.mk #[109, 101, 109, 98, 101, 114, 115], [⟨ByteArray.mk #[112, 114, 111, 106, 101, 99, 116], 4⟩, ⟨ByteArray.mk #[112, 101, 114, 115, 111, 110], 4⟩], 2, r2, []⟩,
   ⟨ByteArray.mk #[97, 114, 99, 104, 105, 118, 101, 100], [⟨ByteArray.mk #[116, 97, 115, 107], id⟩], 1, r3, []⟩]
structure adB (v id:Int) (k:Nat) (r1 r2 r3:cf) (ch:bJ):Prop where
 v0:0<=v
 v1:v<=2
 cK:id=4\/id=5
 hk:k=2\/k=3\/k=4
 h1:r1= []\/r1= [⟨[1],0⟩]
 h2:r2= []\/r2= [⟨[0],0⟩]
 h3:r3= []\/r3= [⟨[0],1⟩]
 hc:ch.length<=1/\r7 [id,4,5,3] ch=0/\∀p∈ch,fj p<=119
def xT (s:af):Prop:=∃v id k r1 r2 r3 ch,adB v id k r1 r2 r3 ch/\s=⟨v,(kF id r1 r2 r3 ch).take k⟩
def xT.nD {s:af} (h:xT s):kr s=0:=by
 obtain ⟨v,id,k,r1,r2,r3,ch,⟨v0,v1,cK,hk,h1,h2,h3,FE,hc,_⟩,rfl⟩:=h;have e1:¬8<((kF id r1 r2 r3 ch).take k).length:=by rw[dx];simp[kF];omega
 have e2:((kF id r1 r2 r3 ch).take k).all uT=true:=by
  have JQ:r1.length<=4:=by rcases h1 with rfl|rfl<;>simp
  have hr2:r2.length<=4:=by rcases h2 with rfl|rfl<;>simp
  have hr3:r3.length<=4:=by rcases h3 with rfl|rfl<;>simp
  have AN:ch.length<=4:=by omega
  rcases hk with rfl|rfl|rfl<;>simp[kF,uT,JQ,hr2,hr3,AN]
 have e3:qO [] ((kF id r1 r2 r3 ch).take k)=true:=by
  rcases cK with rfl|rfl<;>rcases hk with rfl|rfl|rfl<;>kernel_rfl
 have e4:allRefs ⟨v,(kF id r1 r2 r3 ch).take k⟩ ((kF id r1 r2 r3 ch).take k)=true:=by
  rcases cK with rfl|rfl<;>rcases hk with rfl|rfl|rfl<;>rcases h1 with rfl|rfl<;>rcases h2 with rfl|rfl<;>rcases h3 with rfl|rfl<;>kernel_rfl
 have e5:Az ((kF id r1 r2 r3 ch).take k)=0:=by
  rcases hk with rfl|rfl|rfl<;>simp[kF,Az,r7,lN,hc]
 unfold kr;simp only[e1,e2,e3,e4,e5,aG,aF,show ¬v<0 by omega,show ¬1000<v by omega]
def xT.ok {s:af} (h:xT s):SOK s:=NJ h.nD
def xT.sz {s:af} (h:xT s):∀T∈s.ai,BQ T:=by
 obtain ⟨v,id,k,r1,r2,r3,ch,⟨_,_,_,_,_,_,_,_,_,hz⟩,rfl⟩:=h;intro T hT p hp;have hT:=oH hT;simp only[kF,bB,List.not_mem_nil,or_false] at hT;rcases hT with rfl|rfl|rfl|rfl
 ·simp at hp
 ·have:=hz p hp;omega
 ·simp at hp
 ·simp at hp
def xT.pos {s:af} (h:xT s):2<=s.ai.length:=by
 obtain ⟨v,id,k,r1,r2,r3,ch,⟨_,_,_,hk,_⟩,rfl⟩:=h;rw[dx];simp[kF];omega
def Ox (n:Nat) (hn:2000<=n) (gC:n<4294967296) (c:aQ) (hc:dL c) (z:af) (v id:Int) (k:Nat) (r1 r2 r3:cf) (h:adB v id k r1 r2 r3 []) (ts:bl) (yb:ts=(kF id r1 r2 r3 []).take k) (b5:af) (J0:b5.av=v):
  Ok (Ie n c z b5 ts) λr=>dL r.2/\xT r.1:=by
 unfold Ie;refine Ok.bind (Al n c 3 hc) λb hb=> ?_
 refine Ok.ite (λ_=> ?_) λ_=>Ok.pure ⟨hb,v,id,k,r1,r2,r3,[],h,by rw[J0,yb]⟩
 have hT:idx (af.mk b5.av ts).ai 1=some ⟨ByteArray.mk #[116,97,115,107,115],[⟨ByteArray.mk #[105,100],id⟩,⟨ByteArray.mk #[112,114,111,106,101,99,116],4⟩,⟨ByteArray.mk #[116,105,116,108,101],5⟩,⟨ByteArray.mk #[100,111,110,101],3⟩],1,r1,[]⟩:=by
  rw[yb];rcases h.hk with rfl|rfl|rfl<;>rfl
 rw[arQ hT (by simp) (by omega),aq]
 have oC:nS [id,4,5,3]=true:=by rcases h.cK with rfl|rfl<;>rfl
 refine Ok.bind (aHz [id,4,5,3] [] oC rfl (by simp) (by simp) 1 n b.2 hb (by omega) gC (by omega) (by omega)) λp ⟨hp,p0,pz⟩=> ?_
 have e1:fE ts.length 1=some 1:=by rw[yb];rcases h.hk with rfl|rfl|rfl<;>rfl
 have e2:ts[0+1]? =some ⟨ByteArray.mk #[116,97,115,107,115],[⟨ByteArray.mk #[105,100],id⟩,⟨ByteArray.mk #[112,114,111,106,101,99,116],4⟩,⟨ByteArray.mk #[116,105,116,108,101],5⟩,⟨ByteArray.mk #[100,111,110,101],3⟩],1,r1,[]⟩:=by
  rw[yb];rcases h.hk with rfl|rfl|rfl<;>rfl
 rw[e1,aq,e2,aq];have e3:setAt ts (0+1) ⟨ByteArray.mk #[116,97,115,107,115],[⟨ByteArray.mk #[105,100],id⟩,⟨ByteArray.mk #[112,114,111,106,101,99,116],4⟩,⟨ByteArray.mk #[116,105,116,108,101],5⟩,⟨ByteArray.mk #[100,111,110,101],3⟩],1,r1,[p.1]⟩=some ((kF id r1 r2 r3 [p.1]).take k):=by
  rw[yb];rcases h.hk with rfl|rfl|rfl<;>rfl
 rw[e3,aq];exact Ok.pure ⟨hp,v,id,k,r1,r2,r3,[p.1],⟨h.v0,h.v1,h.cK,h.hk,h.h1,h.h2,h.h3,by simp,by simp[r7,p0],by simpa using pz⟩,by rw[J0]⟩
def Ic (n:Nat) (hn:2000<=n) (gC:n<4294967296) (c:aQ) (hc:dL c) (z:af) (v id:Int) (k:Nat) (r1 r2:cf) (h:adB v id k r1 r2 [] []) (ts:bl) (yb:ts=(kF id r1 r2 [] []).take k) (b5:af) (J0:b5.av=v):
  Ok (Ec n (k:Int) c z b5 ts) λr=>dL r.2/\xT r.1:=by
 unfold Ec;refine Ok.ite (λhk=> ?_) λ_=>Ox n hn gC c hc _ v id k r1 r2 [] h ts yb _ J0
 have hk:k=4:=by have:=h.hk;simp at hk;omega
 subst hk;refine Ok.bind (Al n c 3 hc) λb hb=> ?_
 refine Ok.ite (λ_=> ?_) λ_=>Ox n hn gC b.2 hb _ v id 4 r1 r2 [] h ts yb _ J0
 subst yb;show Ok (Ie n b.2 ⟨0,[]⟩ ⟨b5.av,(kF id r1 r2 [⟨[0],1⟩] []).take 4⟩ ((kF id r1 r2 [⟨[0],1⟩] []).take 4)) _;exact Ox n hn gC b.2 hb _ v id 4 r1 r2 [⟨[0],1⟩] {h with h3:=.inr rfl} _ rfl _ J0
def aep (n:Nat) (hn:2000<=n) (gC:n<4294967296) (c:aQ) (hc:dL c) (z:af) (v id:Int) (k:Nat) (r1:cf) (h:adB v id k r1 [] [] []) (ts:bl) (yb:ts=(kF id r1 [] [] []).take k) (b5:af) (J0:b5.av=v):
  Ok (Ib n (k:Int) c z b5 ts) λr=>dL r.2/\xT r.1:=by
 unfold Ib;refine Ok.ite (λhk=> ?_) λ_=>Ic n hn gC c hc _ v id k r1 [] h ts yb _ J0
 refine Ok.bind (Al n c 3 hc) λb hb=> ?_
 refine Ok.ite (λ_=> ?_) λ_=>Ic n hn gC b.2 hb _ v id k r1 [] h ts yb _ J0
 subst yb;have hk:k=3\/k=4:=by have:=h.hk;simp at hk;omega
 rcases hk with rfl|rfl
 ·show Ok (Ec n (3:Nat) b.2 ⟨0,[]⟩ ⟨b5.av,(kF id r1 [⟨[0],0⟩] [] []).take 3⟩ ((kF id r1 [⟨[0],0⟩] [] []).take 3)) _;exact Ic n hn gC b.2 hb _ v id 3 r1 [⟨[0],0⟩] {h with h2:=.inr rfl} _ rfl _ J0
 ·show Ok (Ec n (4:Nat) b.2 ⟨0,[]⟩ ⟨b5.av,(kF id r1 [⟨[0],0⟩] [] []).take 4⟩ ((kF id r1 [⟨[0],0⟩] [] []).take 4)) _;exact Ic n hn gC b.2 hb _ v id 4 r1 [⟨[0],0⟩] {h with h2:=.inr rfl} _ rfl _ J0
def aeo (n:Nat) (hn:2000<=n) (gC:n<4294967296) (c:aQ) (hc:dL c) (z:af) (id:Int) (cK:id=4\/id=5) (k:Nat) (hk:k=2\/k=3\/k=4):
  Ok (QS n (k:Int) id c z) λr=>dL r.2/\xT r.1:=by
 unfold QS;refine Ok.bind (kq n c 3 hc) λv ⟨hv,v0,v1,_⟩=> ?_
 have v1:=v1 (by omega)
 simp only[C3,anw,aq];have h:∀r1,(r1= []\/r1= [⟨[1],0⟩])->adB v.1 id k r1 [] [] []:=λr1 h1=>⟨v0,by omega,cK,hk,h1,.inl rfl,.inl rfl,by simp,rfl,by simp⟩
 have e0:wo 4 (k:Int)=some k:=by unfold wo;rw[ax (by omega)];rfl
 rw[e0,aq];refine Ok.bind (Al n v.2 2 hv) λb hb=> ?_
 refine Ok.ite (λ_=> ?_) λ_=> ?_
 rotate_left
 ·show Ok (Ib n (k:Int) b.2 ⟨0,[]⟩ ⟨v.1,(kF id [] [] [] []).take k⟩ ((kF id [] [] [] []).take k)) _;exact aep n hn gC b.2 hb _ v.1 id k [] (h [] (.inl rfl)) _ rfl _ rfl
 have e1:fE k 1=some 1:=by rcases hk with rfl|rfl|rfl<;>rfl
 rw[e1,aq];show Ok (Ib n (k:Int) b.2 ⟨0,[]⟩ ⟨v.1,(kF id [⟨[1],0⟩] [] [] []).take k⟩ ((kF id [⟨[1],0⟩] [] [] []).take k)) _;exact aep n hn gC b.2 hb _ v.1 id k [⟨[1],0⟩] (h _ (.inr rfl)) _ rfl _ rfl
def aHG (n:Nat) (hn:2000<=n) (gC:n<4294967296) (c:aQ) (hc:dL c):Ok (F38 n c) λr=>dL r.2/\xT r.1:=by
 unfold F38 anI;refine Ok.bind (kq n c 3 hc) λv ⟨hv,v0,v1,_⟩=> ?_
 have v1:=v1 (by omega)
 have e:bh (2+v.1)=((2+v.1.toNat:Nat):Int):=by rw[dI (by omega) (by omega)];omega
 rw[e];refine Ok.bind (Al n v.2 5 hv) λb hb=> ?_
 exact Ok.ite (λ_=>aeo n hn gC b.2 hb _ 5 (.inr rfl) _ (by omega)) λ_=>aeo n hn gC b.2 hb _ 4 (.inl rfl) _ (by omega)
def eM (a b i:Int):Int:=if b<0 then (if a<i then i-1 else i) else if i=a then b else if a<b/\a<i/\i<=b then i-1 else if b<a/\b<=i/\i<a then i+1 else i
def MX (n:Nat) (i a b:Int) (h1: -9223372036854775808<=i) (h2:i<=9223372036854775807) (h3: -9223372036854775808<=a) (h4:a<=9223372036854775807):H8 n i a b=some (eM a b i):=by
 have w1:a<i->bh (i-1)=i-1:=λh=>dI (by omega) (by omega)
 have w2:i<a->bh (i+1)=i+1:=λh=>dI (by omega) (by omega)
 unfold H8 afx uo eM;by_cases c1:b<0
 ·by_cases c2:a<i<;>simp[c1,c2,w1]
 ·by_cases c2:i=a
  ·subst c2;simp[c1]
  ·by_cases c3:a<i
   ·have n1:¬i<a:=by omega
    by_cases c4:b<i
    ·have n2:¬i<=b:=by omega
     by_cases c5:a<b<;>by_cases c6:b<a<;>by_cases c7:i<b<;>simp[c1,c2,c3,c4,n1,n2,c5,c6,c7]
    ·have c4':i<=b:=by omega
     have c5:a<b:=by omega
     simp[c1,c2,c3,c4,c4',c5,w1]
   ·have c3':i<a:=by omega
    by_cases c4:i<b
    ·have n2:¬b<=i:=by omega
     by_cases c5:a<b<;>by_cases c6:b<a<;>simp[c1,c2,c3,c4,n2,c5,c6]
    ·have c4':b<=i:=by omega
     have c6:b<a:=by omega
     have c5:¬a<b:=by omega
     simp[c1,c2,c3,c4,c4',c5,c6,c3',w2]
def kf (f:Int->Int) (o:aL):aL:=if o.aC==1 then ⟨o.aC,f o.cJ,o.aV⟩ else o
mutual
def mj (f:Int->Int):ag->ag
 |⟨op,c,l,r,args⟩=>⟨op,c,kf f l,kf f r,iN f args⟩
def iN (f:Int->Int):bJ->bJ
 | []=> []
 |x::xs=>mj f x::iN f xs
end
def JB (f:Int->Int):∀xs:bJ,(iN f xs).length=xs.length
 | []=>by simp[iN]
 |x::xs=>by simp[iN,JB f xs]
def JA (f:Int->Int):∀xs:bJ,iN f xs=xs.map (mj f)
 | []=>by simp[iN]
 |x::xs=>by simp[iN,JA f xs]
mutual
def aik (f:Int->Int):∀p:ag,fj (mj f p)=fj p
 |⟨op,c,l,r,args⟩=>by simp only[mj,fj,abd f args]
def abd (f:Int->Int):∀xs:bJ,kS (iN f xs)=kS xs
 | []=>by simp[iN]
 |x::xs=>by simp only[iN,kS,aik f x,abd f xs]
end
def Au (N:Int) (o:aL):Bool:=o.aC !=1||(decide (0<=o.cJ)&&decide (o.cJ<N))
mutual
def pS (N:Int):ag->Bool
 |⟨op,c,l,r,args⟩=>(if op==3 then Au N l&&Au N r else l.aC !=1&&r.aC !=1)&&Jn N args
def Jn (N:Int):bJ->Bool
 | []=>true
 |x::xs=>pS N x&&Jn N xs
end
def Uo {N:Int}:∀{xs:bJ} {x:ag},Jn N xs=true->x∈xs->pS N x=true
 |y::ys,x,h,hx=>by
  simp only[Jn,aY] at h;rcases bB.1 hx with rfl|hx
  ·exact h.1
  ·exact Uo h.2 hx
def Po (h:A7 o=true):o.aC=0:=by
 simp[A7] at h;exact h.1
def Ng {r:aL} (h:kU c l r=true):l.aC=0/\r.aC=0:=by
 simp only[kU,aY] at h;exact ⟨Po h.1.2,Po h.2⟩
def aaZ (h:lp cols params o≠0):Au cols.length o=true:=by
 unfold Au;by_cases h1:o.aC=1
 ·have h:kAt cols o≠0:=by
   unfold lp at h;simpa[h1] using h
  unfold kAt at h;split at h
  ·rename_i hh;simp[h1,hh.1,hh.2.1]
  ·exact absurd rfl h
 ·simp[h1]
mutual
def awu {cols params:aH}:∀{p:ag},pV cols params p=true->pS cols.length p=true
 |⟨op,c,l,r,args⟩,h=>by
  unfold pV at h;unfold pS;by_cases h1:op=1\/op=2
  ·have bY:(op==3)=false:=by rcases h1 with rfl|rfl<;>rfl
   have hb:(op==1||op==2)=true:=by rcases h1 with rfl|rfl<;>rfl
   rw[hb] at h;simp only[aF,aY] at h;let ⟨k1,k2⟩:=Ng h.1;have ha:args= []:=by simpa using h.2
   rw[bY,ha];simp[k1,k2,Jn]
  ·have hb:(op==1||op==2)=false:=by
    rw[Bool.or_eq_false_iff];simp;omega
   rw[hb] at h;simp only[aK,aG] at h;by_cases h3:op=3
   ·subst h3;simp at h;have ha:args= []:=h.1.1.1.1;rw[ha];have k1:=aaZ (cols:=cols) (params:=params) (o:=l) h.1.2;have k2:=aaZ (cols:=cols) (params:=params) (o:=r) (by rw[<-h.2];exact h.1.2)
    simp[k1,k2,Jn]
   ·have bY:(op==3)=false:=by simpa using h3
    rw[bY] at h ⊢;simp only[aK,aG] at h ⊢;have key:kU c l r=true/\qf cols params args=true:=by
     split at h
     ·simpa using h
     ·split at h
      ·simp only[aY] at h;exact h.2
      ·cases h
    let ⟨k1,k2⟩:=Ng key.1;rw[ahU key.2,k1,k2];rfl
def ahU {cols params:aH}:∀{xs:bJ},qf cols params xs=true->Jn cols.length xs=true
 | [],_=>by simp[Jn]
 |x::xs,h=>by
  simp only[qf,aY] at h;simp only[Jn,awu h.1,ahU h.2,sI]
end
def wQ (h:o.aC≠1):kf f o=o:=by
 unfold kf;rw[aA (by simpa using h)]
def ajf:∀(n:Nat) (p:ag),fj p<=n->fj p<1000000->H7 n p=some p
 |0,⟨_,_,_,_,_⟩,h,_=>by simp[fj] at h
 |n+1,⟨op,c,l,r,args⟩,h,hb=>by
  simp only[fj] at h hb;have hlen:=pK args;have loop:∀(k3:ag->ag->bJ->Option ag) (xs:bJ) (i k:Nat) (b4 b5:ag),args.drop i=xs->xs.length<k->
    ∃CF Af,Af.bu=b5.bu/\Af.eC=b5.eC/\Af.bW=b5.bW/\Af.bF=b5.bF/\Gc (H7 n) k3 k args (args.length:Int) (i:Int) b4 b5 (args.take i)=k3 CF Af args:=by
   intro k3 xs;induction xs with
   |nil=>
    intro i k b4 b5 hd hk;have hi:args.length<=i:=by simpa using hd
    have hq:¬((i:Int)<(args.length:Int)):=by omega
    cases k with
    |zero=>simp at hk
    |succ k=>exact ⟨ag.mk b4.bu b4.eC b4.bW b4.bF [],ag.mk b5.bu b5.eC b5.bW b5.bF args,rfl,rfl,rfl,rfl,by simp[Gc,RC,hq,lF hi]⟩
   |cons x xs ih=>
    intro i k b4 b5 hd hk;let ⟨g1,g2,g3⟩:=bN hd;have hq:((i:Int)<(args.length:Int)):=by omega
    cases k with
    |zero=>simp at hk
    |succ k=>
     have hx:x∈args:=cX g1;have hs:=sK hx;have ht:args.take i++ [x]=args.take (i+1):=by rw[wB,g1];rfl
     let ⟨CF,Af,e1,e2,e3,e4,e5⟩:=ih (i+1) k (ag.mk b4.bu b4.eC b4.bW b4.bF []) (ag.mk b5.bu b5.eC b5.bW b5.bF (args.take (i+1))) g2 (by simp at hk;omega)
     refine ⟨CF,Af,e1,e2,e3,e4,?_⟩;simp only[Gc,RC,hq,aW,aF,cH,g1,aq,ajf n x (by omega) (by omega),eE (args.take i) [x] (by simp;omega),ht,cD g3 (by omega:args.length<4294967296),e5]
  have fin:∀(b2 b4 b5:ag),b2.fArgs=args->KZ (H7 n) n b2 b4 b5=some ⟨b5.bu,b5.eC,b5.bW,b5.bF,args⟩:=by
   intro b2 b4 b5 ha;let ⟨CF,Af,e1,e2,e3,e4,e5⟩:=loop (RB (H7 n) n) args 0 n (ag.mk 0 0 (aL.mk 0 0 (bj.mk 0 0 ByteArray.empty)) (aL.mk 0 0 (bj.mk 0 0 ByteArray.empty)) []) (ag.mk b5.bu b5.eC b5.bW b5.bF []) rfl (by omega)
   unfold KZ;rw[ha];refine e5.trans ?_;unfold RB;rw[e1,e2,e3,e4]
  have f3:∀(b2 b4 b5:ag),b2.fArgs=args->KY (H7 n) n b2 b4 b5=some ⟨b5.bu,b5.eC,b5.bW,b5.bF,args⟩:=by
   intro b2 b4 b5 ha;unfold KY;split
   ·rw[show ∀c,aeb n c=some c from λ_=>rfl,aq]
    exact fin b2 _ _ ha
   ·exact fin b2 _ _ ha
  unfold H7 afh;split
  ·rw[show ∀c,aeb n c=some c from λ_=>rfl,aq]
   exact f3 ⟨op,c,l,r,args⟩ _ _ rfl
  ·exact f3 ⟨op,c,l,r,args⟩ _ _ rfl
def j6 (m:aE) (c:Int):Int:=
 if m.bu=2 then (if c<0 then c else if c=m.aX then -1 else if m.aX<c then c-1 else c)
 else if m.bu=3 then (if c<0 then c else if c=m.aX then m.jo else if m.aX<c/\c<=m.jo then c-1 else if m.jo<=c/\c<m.aX then c+1 else c)
 else c
def mG (x:Int):Prop:= -9223372036854775808<=x/\x<=9223372036854775807
def aBK (n:Nat) (i a b:Int) (hi:mG i) (ha:mG a):anb n i a b=some (if i=a then b else if a<i/\i<=b then i-1 else if b<=i/\i<a then i+1 else i):=by
 let ⟨h1,h2⟩:=hi;let ⟨h3,h4⟩:=ha;have w1:a<i->bh (i-1)=i-1:=λh=>dI (by omega) (by omega)
 have w2:i<a->bh (i+1)=i+1:=λh=>dI (by omega) (by omega)
 unfold anb aeV GF;by_cases c2:i=a
 ·subst c2;simp
 ·by_cases c3:a<i
  ·have n1:¬i<a:=by omega
   by_cases c4:b<i
   ·have n2:¬i<=b:=by omega
    by_cases c7:i<b<;>simp[c2,c3,c4,n1,n2,c7]
   ·have c4':i<=b:=by omega
    simp[c2,c3,c4,c4',w1]
  ·have c3':i<a:=by omega
   by_cases c4:i<b
   ·have n2:¬b<=i:=by omega
    simp[c2,c3,c4,n2]
   ·have c4':b<=i:=by omega
    simp[c2,c3,c4,c4',c3',w2]
def aiP (n:Nat) (c:Int) (g:az) (dN:g.fm.bu=2\/g.fm.bu=3) (hc:mG c) (ha:mG g.fm.aX):Oq n c g=some (j6 g.fm c):=by
 let ⟨h1,h2⟩:=hc;let ⟨h3,h4⟩:=ha;unfold Oq aet avK afw j6;rcases dN with h|h
 ·have n7:¬g.fm.bu=7:=by omega
  by_cases c1:c<0
  ·simp[h,c1]
  ·by_cases c2:c=g.fm.aX
   ·simp[h,c1,c2];have:0<=g.fm.aX:=by omega
    simp[this];intro;omega
   ·by_cases c3:g.fm.aX<c
    ·simp[h,c1,c2,c3,dI (x:=c-1) (by omega) (by omega)]
    ·simp[h,c1,c2,c3]
 ·by_cases c1:c<0
  ·simp[h,c1]
  ·have:=aBK n c g.fm.aX g.fm.jo ⟨h1,h2⟩ ⟨h3,h4⟩;simp only[h,this,c1,aq,gX,bg,kJ,aF,aG,show ((3:Int)==7)=false from rfl,show ((3:Int)==2)=false from rfl,show ¬(3:Int)=2 by omega,aK]
def aeg (N:Int) (hN:N<=1000) (g:az) (dN:g.fm.bu=2\/g.fm.bu=3) (ha:mG g.fm.aX):∀(n:Nat) (p:ag),fj p<=n->fj p<1000000->pS N p=true->Bn n p g=some (mj (j6 g.fm) p)
 |0,⟨_,_,_,_,_⟩,h,_,_=>by simp[fj] at h
 |n+1,⟨op,c,l,r,args⟩,h,hb,hp=>by
  simp only[fj] at h hb;have hlen:=pK args;have JT:=JB (j6 g.fm) args;simp only[pS,aY] at hp;let ⟨qK,hp2⟩:=hp;have hF:∀o:aL,(if op==3 then Au N o=true else o.aC≠1)->o.aC=1->Oq n o.cJ g=some (j6 g.fm o.cJ):=λo ho hk=>by
   split at ho
   ·simp[Au,hk] at ho;exact aiP n _ g dN ⟨by omega,by omega⟩ ha
   ·exact absurd hk ho
  have hl:(if op==3 then Au N l=true else l.aC≠1):=by
   split at qK
   ·rename_i q;simp only[aY] at qK;rw[ax q];exact qK.1
   ·rename_i q;simp at qK;rw[aA q];exact qK.1
  have hr:(if op==3 then Au N r=true else r.aC≠1):=by
   split at qK
   ·rename_i q;simp only[aY] at qK;rw[ax q];exact qK.2
   ·rename_i q;simp at qK;rw[aA q];exact qK.2
  have loop:∀(k3:az->ag->ag->bJ->Option ag) (xs:bJ) (i k:Nat) (b4 b5:ag),args.drop i=xs->xs.length<k->
    ∃CF Af,Af.bu=b5.bu/\Af.eC=b5.eC/\Af.bW=b5.bW/\Af.bF=b5.bF/\BH (Bn n) k3 k args (args.length:Int) (i:Int) g b4 b5 ((iN (j6 g.fm) args).take i)=k3 g CF Af (iN (j6 g.fm) args):=by
   intro k3 xs;induction xs with
   |nil=>
    intro i k b4 b5 hd hk;have hi:args.length<=i:=by simpa using hd
    have hq:¬((i:Int)<(args.length:Int)):=by omega
    cases k with
    |zero=>simp at hk
    |succ k=>exact ⟨ag.mk b4.bu b4.eC b4.bW b4.bF [],ag.mk b5.bu b5.eC b5.bW b5.bF (iN (j6 g.fm) args),rfl,rfl,rfl,rfl,by simp[BH,M6,hq,lF (show (iN (j6 g.fm) args).length<=i by omega)]⟩
   |cons x xs ih=>
    intro i k b4 b5 hd hk;let ⟨g1,g2,g3⟩:=bN hd;have hq:((i:Int)<(args.length:Int)):=by omega
    cases k with
    |zero=>simp at hk
    |succ k=>
     have hx:x∈args:=cX g1;have hs:=sK hx;have ht:(iN (j6 g.fm) args).take i++ [mj (j6 g.fm) x]=(iN (j6 g.fm) args).take (i+1):=by
      rw[wB,JA,kK,g1];rfl
     let ⟨CF,Af,e1,e2,e3,e4,e5⟩:=ih (i+1) k (ag.mk b4.bu b4.eC b4.bW b4.bF []) (ag.mk b5.bu b5.eC b5.bW b5.bF ((iN (j6 g.fm) args).take (i+1))) g2 (by simp at hk;omega)
     refine ⟨CF,Af,e1,e2,e3,e4,?_⟩;simp only[BH,M6,hq,aW,aF,cH,g1,aq,aeg N hN g dN ha n x (by omega) (by omega) (Uo hp2 hx),eE ((iN (j6 g.fm) args).take i) [mj (j6 g.fm) x] (by simp;omega),ht,cD g3 (by omega:args.length<4294967296),e5]
  have fin:∀(b2 b4 b5:ag),b2.fArgs=args->GI (Bn n) n g b2 b4 b5=some ⟨b5.bu,b5.eC,b5.bW,b5.bF,iN (j6 g.fm) args⟩:=by
   intro b2 b4 b5 ha;let ⟨CF,Af,e1,e2,e3,e4,e5⟩:=loop (M5 (Bn n) n) args 0 n (ag.mk 0 0 (aL.mk 0 0 (bj.mk 0 0 ByteArray.empty)) (aL.mk 0 0 (bj.mk 0 0 ByteArray.empty)) []) (ag.mk b5.bu b5.eC b5.bW b5.bF []) rfl (by omega)
   unfold GI;rw[ha];refine e5.trans ?_;unfold M5;rw[e1,e2,e3,e4]
  have f3:∀(b2 b4 b5:ag),b2.fArgs=args->b5.bF=r->GH (Bn n) n g b2 b4 b5=some ⟨b5.bu,b5.eC,b5.bW,kf (j6 g.fm) r,iN (j6 g.fm) args⟩:=by
   intro b2 b4 b5 ha hr5;unfold GH kf;rw[hr5];split
   ·rename_i hk;rw[hF r hr (by simpa using hk),aq]
    exact fin b2 _ _ ha
   ·rw[<-hr5];exact fin b2 _ _ ha
  unfold Bn VB;simp only[mj];split
  ·rename_i hk;rw[hF l hl (by simpa using hk),aq,f3 ⟨op,c,l,r,args⟩ _ _ rfl rfl]
   unfold kf;rw[ax hk]
  ·rename_i hk;rw[f3 ⟨op,c,l,r,args⟩ _ _ rfl rfl,wQ (o:=l) (by simpa using hk)]
def aiV (N:Int) (hN:N<=1000) (a b:Int) (ha:mG a):∀(n:Nat) (p:ag),fj p<=n->fj p<1000000->pS N p=true->EC n p a b=some (mj (eM a b) p)
 |0,⟨_,_,_,_,_⟩,h,_,_=>by simp[fj] at h
 |n+1,⟨op,c,l,r,args⟩,h,hb,hp=>by
  simp only[fj] at h hb;have hlen:=pK args;have JT:=JB (eM a b) args;simp only[pS,aY] at hp;let ⟨qK,hp2⟩:=hp;have loop:∀(k3:ag->ag->bJ->Option ag) (xs:bJ) (i k:Nat) (b3 b6:ag),args.drop i=xs->xs.length<k->
    ∃b6',F0 (EC n) k3 k a b args (args.length:Int) (i:Int) b3 b6 ((iN (eM a b) args).take i)=k3 b3 b6' (iN (eM a b) args):=by
   intro k3 xs;induction xs with
   |nil=>
    intro i k b3 b6 hd hk;have hi:args.length<=i:=by simpa using hd
    have hq:¬((i:Int)<(args.length:Int)):=by omega
    cases k with
    |zero=>simp at hk
    |succ k=>exact ⟨ag.mk b6.bu b6.eC b6.bW b6.bF [],by simp[F0,Rh,hq,lF (show (iN (eM a b) args).length<=i by omega)]⟩
   |cons x xs ih=>
    intro i k b3 b6 hd hk;let ⟨g1,g2,g3⟩:=bN hd;have hq:((i:Int)<(args.length:Int)):=by omega
    cases k with
    |zero=>simp at hk
    |succ k=>
     have hx:x∈args:=cX g1;have hs:=sK hx;have ht:(iN (eM a b) args).take i++ [mj (eM a b) x]=(iN (eM a b) args).take (i+1):=by
      rw[wB,JA,kK,g1];rfl
     let ⟨b6',e5⟩:=ih (i+1) k b3 (ag.mk b6.bu b6.eC b6.bW b6.bF []) g2 (by simp at hk;omega)
     refine ⟨b6',?_⟩;simp only[F0,Rh,hq,aW,aF,cH,g1,aq,aiV N hN a b ha n x (by omega) (by omega) (Uo hp2 hx),eE ((iN (eM a b) args).take i) [mj (eM a b) x] (by simp;omega),ht,cD g3 (by omega:args.length<4294967296),e5]
  have fin:∀(b3 b6:ag),b3.fArgs=args->C8 (EC n) n a b b3 b6=some ⟨b3.bu,b3.eC,b3.bW,b3.bF,iN (eM a b) args⟩:=by
   intro b3 b6 FF;let ⟨b6',e5⟩:=loop (aeH (EC n) n) args 0 n b3 (ag.mk 0 0 (aL.mk 0 0 (bj.mk 0 0 ByteArray.empty)) (aL.mk 0 0 (bj.mk 0 0 ByteArray.empty)) []) rfl (by omega)
   unfold C8;rw[FF];exact e5
  unfold EC aeG;simp only[mj];by_cases h3:op=3
  ·subst h3;simp only[gX,aF,aY] at qK ⊢;have hF:∀o:aL,Au N o=true->o.aC=1->H8 n o.cJ a b=some (eM a b o.cJ):=λo ho hk=>by
    simp[Au,hk] at ho;exact MX n _ a b (by omega) (by omega) ha.1 ha.2
   have f0:∀(b3 b6:ag),b3.fArgs=args->b3.bF=r->KU (EC n) (C8 (EC n) n) n a b b3 b6=some ⟨b3.bu,b3.eC,b3.bW,kf (eM a b) r,iN (eM a b) args⟩:=by
    intro b3 b6 FF hr5;unfold KU kf;rw[hr5];split
    ·rename_i hk;rw[hF r qK.2 (by simpa using hk),aq]
     exact fin _ _ FF
    ·rw[<-hr5];exact fin b3 _ FF
   split
   ·rename_i hk;rw[hF l qK.1 (by simpa using hk),aq,f0 _ _ rfl rfl]
    unfold kf;rw[ax hk]
   ·rename_i hk;rw[f0 _ _ rfl rfl,wQ (o:=l) (by simpa using hk)]
  ·have bY:(op==3)=false:=by simpa using h3
   rw[bY] at qK ⊢;simp at qK;simp only[aK,aG];rw[fin _ _ rfl,wQ qK.1,wQ qK.2]
def jl {n:Nat} (h:i<n):fE n (i:Int)=some i:=by
 unfold fE;rw[ax ⟨by omega,by omega⟩];rfl
def eh {xs:List Y} (x:Y) (h:i<xs.length):setAt xs i x=some (xs.set i x):=by
 unfold setAt;rw[ax h]
def eV {Y:Type} (f:Y->Y) (l:List Y) (j:Nat):List Y:=(l.take j).map f++l.drop j
def ku (f:Y->Y) (l:List Y) (j:Nat):(eV f l j).length=l.length:=by
 simp[eV];omega
def xm (f:Y->Y) (l:List Y):eV f l 0=l:=by simp[eV]
def rQ (f:Y->Y) (l:List Y) (h:l.length<=j):eV f l j=l.map f:=by
 simp[eV,lF h,qY h]
def mi (f:Y->Y) {l:List Y} {x:Y} (h:l[j]? =some x):(eV f l j)[j]? =some x:=by
 have hl:=(cg.1 h).1;unfold eV;rw[qW (by simp;omega),iz,dx,eg (by omega),oJ,fD]
 exact h
def rP (f:Y->Y) {l:List Y} {x:Y} (h:l[j]? =some x):(eV f l j).set j (f x)=eV f l (j+1):=by
 have hl:=(cg.1 h).1;unfold eV;rw[uv _ _ (by simp;omega),iz,dx,eg (by omega),oJ,wB,h,se hl,List.set_cons_zero]
 have:l[j]=x:=by rw[dW hl] at h;exact ux h
 simp
def gG (f:Int->Int) (r:bf):bf:=⟨r.ae.map f,r.aO⟩
def oq (f:Int->Int) (T:ah):ah:=⟨T.ar,T.ae,T.aP,T.ak.map (gG f),T.aD.map (mj f)⟩
structure zi (r:bf):Prop where
 len:r.ae.length<=1000
 rng:∀c∈r.ae,mG c
structure TOK (N:Int) (T:ah):Prop where
 cols:T.ae.length<=1000
 refs:T.ak.length<=1000
 ref:∀r∈T.ak,zi r
 Ew:T.aD.length<=1000
 nD:∀p∈T.aD,pS N p=true/\fj p<=1000
def rD {l:List Y} {x:Y} (h:l[i]? =some x):l.take i++ [x]=l.take (i+1):=by rw[wB,h];rfl
def WT (k:ah->ah->cG->cf->Option ah) (rs:cf) (hl:rs.length<=1000) (hr:∀r∈rs,zi r) (b6:cG):∀(x:cf) (i m:Nat) (b1 b2:ah),rs.drop i=x->x.length<m->
  Gj k m rs (rs.length:Int) (i:Int) b1 b2 b6 (rs.take i)=k (ah.mk b1.ar b6 b1.aP b1.ak b1.aD) (ah.mk b2.ar [] b2.aP [] []) b6 rs
 | [],i,m+1,b1,b2,hd,hm=>by
  have hi:rs.length<=i:=by simpa using hd
  have hq:¬((i:Int)<(rs.length:Int)):=by omega
  simp only[Gj,RW,hq,bg,aK,aG,lF hi]
 |r::x,i,m+1,b1,b2,hd,hm=>by
  let ⟨g1,g2,g3⟩:=bN hd;have hq:(i:Int)<(rs.length:Int):=by omega
  have fY:=hr r (cX g1);have ih:=WT k rs hl hr b6 x (i+1) m (ah.mk b1.ar b6 b1.aP b1.ak b1.aD) (ah.mk b2.ar [] b2.aP [] []) g2 (by simp at hm;omega)
  have e1:(rs.take i).length=i:=by simp;omega
  simp only[Gj,RW,hq,aW,aF,cH,g1,aq,eE [] r.ae (by have:=fY.len;simp;omega),nr,eE (rs.take i) [r] (by simp;omega),rD g1,cD g3 (by omega)]
  rw[e1,eh _ (by simp;omega),aq]
  have e2:(rs.take (i+1)).set i r=rs.take (i+1):=by
   rw[<-rD g1,uv _ _ (by omega)]
   simp[e1]
  rw[e2];exact ih
 |_,_,0,_,_,_,hm=>by simp at hm
def aji (n:Nat) (T:ah) (hT:T.ae.length<=1000/\T.ak.length<=1000/\T.aD.length<=1000) (hr:∀r∈T.ak,zi r) (hn:2000<n):aee n T=some T:=by
 unfold aee afn;rw[eE _ _ (by simp;omega),aq,nr]
 refine (WT (RV n) T.ak hT.2.1 hr T.ae T.ak 0 n _ _ rfl (by omega)).trans ?_
 unfold RV;rw[eE _ _ (by simp;omega)]
 rfl
def ade (k:ah->ah->ah->cG->cf->Option ah) (rs:cf) (hl:rs.length<=1000) (hr:∀r∈rs,zi r) (b1:ah) (cx:cG):∀(x:cf) (i m:Nat) (b2 b3:ah),rs.drop i=x->x.length<m->
  ME k m rs (rs.length:Int) (i:Int) b1 b2 b3 cx (rs.take i)=k b1 (ah.mk b2.ar [] b2.aP [] []) (ah.mk b3.ar cx b3.aP rs []) cx rs
 | [],i,m+1,b2,b3,hd,hm=>by
  have hi:rs.length<=i:=by simpa using hd
  have hq:¬((i:Int)<(rs.length:Int)):=by omega
  simp only[ME,XY,hq,bg,aK,aG,lF hi]
 |r::x,i,m+1,b2,b3,hd,hm=>by
  let ⟨g1,g2,g3⟩:=bN hd;have hq:(i:Int)<(rs.length:Int):=by omega
  have fY:=hr r (cX g1);have ih:=ade k rs hl hr b1 cx x (i+1) m (ah.mk b2.ar [] b2.aP [] []) (ah.mk b3.ar cx b3.aP (rs.take (i+1)) []) g2 (by simp at hm;omega)
  have e1:(rs.take i).length=i:=by simp;omega
  simp only[ME,XY,hq,aW,aF,cH,g1,aq,eE [] r.ae (by have:=fY.len;simp;omega),nr,eE (rs.take i) [r] (by simp;omega),rD g1,cD g3 (by omega)]
  rw[e1,eh _ (by simp;omega),aq]
  have e2:(rs.take (i+1)).set i r=rs.take (i+1):=by
   rw[<-rD g1,uv _ _ (by omega)]
   simp[e1]
  rw[e2];exact ih
 |_,_,0,_,_,_,hm=>by simp at hm
def adb (k:ah->ah->cG->bJ->cf->Option ah) (ps:bJ) (hl:ps.length<=1000) (hp:∀p∈ps,fj p<=1000) (cx:cG) (rs:cf):∀(x:bJ) (i m:Nat) (b2 b3:ah),ps.drop i=x->x.length+1000<m->
  MD k m ps (ps.length:Int) (i:Int) b2 b3 cx (ps.take i) rs=k (ah.mk b2.ar [] b2.aP [] []) (ah.mk b3.ar cx b3.aP rs ps) cx ps rs
 | [],i,m+1,b2,b3,hd,hm=>by
  have hi:ps.length<=i:=by simpa using hd
  have hq:¬((i:Int)<(ps.length:Int)):=by omega
  simp only[MD,XX,hq,bg,aK,aG,lF hi]
 |p::x,i,m+1,b2,b3,hd,hm=>by
  let ⟨g1,g2,g3⟩:=bN hd;have hq:(i:Int)<(ps.length:Int):=by omega
  have gy:=hp p (cX g1);simp at hm;have ih:=adb k ps hl hp cx rs x (i+1) m (ah.mk b2.ar [] b2.aP [] []) (ah.mk b3.ar cx b3.aP rs (ps.take (i+1))) g2 (by omega)
  simp only[MD,XX,hq,aW,aF,cH,g1,aq,ajf m p (by omega) (by omega),eE (ps.take i) [p] (by simp;omega),rD g1,cD g3 (by omega)]
  exact ih
 |_,_,0,_,_,_,hm=>by simp at hm
def arO (n:Nat) (T:ah) (hT:T.ae.length<=1000/\T.ak.length<=1000/\T.aD.length<=1000) (hr:∀r∈T.ak,zi r) (hp:∀p∈T.aD,fj p<=1000) (hn:4000<n):F96 n T=some T:=by
 unfold F96 ans;rw[eE _ _ (by simp;omega),aq,nr]
 refine (ade (XW n) T.ak hT.2.1 hr T T.ae T.ak 0 n _ _ rfl (by omega)).trans ?_
 unfold XW;refine (adb (ant n) T.aD hT.2.2 hp T.ae T.ak T.aD 0 n _ _ rfl (by omega)).trans ?_
 rfl
structure ED (T:ah):Prop where
 len:T.ae.length<=1000/\T.ak.length<=1000/\T.aD.length<=1000
 ref:∀r∈T.ak,zi r
 nD:∀p∈T.aD,fj p<=1000
def ads (k:af->af->bl->Option af) (ts:bl) (hl:ts.length<=1000) (ht:∀T∈ts,ED T):∀(x:bl) (i m:Nat) (b2 b3:af),ts.drop i=x->x.length+4000<m->
  MP k m ts (ts.length:Int) (i:Int) b2 b3 (ts.take i)=k (af.mk b2.av []) (af.mk b3.av ts) ts
 | [],i,m+1,b2,b3,hd,hm=>by
  have hi:ts.length<=i:=by simpa using hd
  have hq:¬((i:Int)<(ts.length:Int)):=by omega
  simp only[MP,Yp,hq,bg,aK,aG,lF hi]
 |T::x,i,m+1,b2,b3,hd,hm=>by
  let ⟨g1,g2,g3⟩:=bN hd;have hq:(i:Int)<(ts.length:Int):=by omega
  have hT:=ht T (cX g1);simp at hm;have ih:=ads k ts hl ht x (i+1) m (af.mk b2.av []) (af.mk b3.av (ts.take (i+1))) g2 (by omega)
  have e1:(ts.take i).length=i:=by simp;omega
  simp only[MP,Yp,hq,aW,aF,cH,g1,aq,arO m T hT.len hT.ref hT.nD (by omega),eE (ts.take i) [T] (by simp;omega),rD g1,cD g3 (by omega)]
  rw[e1,eh _ (by simp;omega),aq]
  have e2:(ts.take (i+1)).set i T=ts.take (i+1):=by
   rw[<-rD g1,uv _ _ (by omega)]
   simp[e1]
  rw[e2];exact ih
 |_,_,0,_,_,_,hm=>by simp at hm
def arR (n:Nat) (s:af) (hl:s.ai.length<=1000) (ht:∀T∈s.ai,ED T) (hn:6000<n):F41 n s=some s:=by
 unfold F41 anD;exact ads (anE n) s.ai hl ht s.ai 0 n _ _ rfl (by omega)
def WN (k:Int->Int->Int->Int->cG->bJ->ah->ah->cf->Option (ah×cG×cf×bJ)) (a b:Int) (ha:mG a) (cols:aH) (hl:cols.length<=1000) (hc:∀c∈cols,mG c) (t13 t14:Int) (cs:cG) (ch:bJ) (refs:cf) (ri:Nat):∀(x:aH) (j m:Nat) (b3 b6:ah) (b8 rr:bf),cols.drop j=x->x.length<m->
  Gf k m a b t13 t14 (cols.length:Int) (j:Int) cs ch b3 b6 b8 (eV (eM a b) cols j) refs rr ri=((setAt refs ri (bf.mk (cols.map (eM a b)) rr.aO)).bind λz2=>k a b t13 t14 cs ch (ah.mk b3.ar cs b3.aP z2 ch) (ah.mk b6.ar [] b6.aP [] []) z2)
 | [],j,m+1,b3,b6,b8,rr,hd,hm=>by
  have hi:cols.length<=j:=by simpa using hd
  have hq:¬((j:Int)<(cols.length:Int)):=by omega
  simp only[Gf,RM,hq,bg,aK,aG,rQ _ _ hi]
 |c::x,j,m+1,b3,b6,b8,rr,hd,hm=>by
  let ⟨g1,g2,g3⟩:=bN hd;have hq:(j:Int)<(cols.length:Int):=by omega
  have wX:=hc c (cX g1);have ih:=WN k a b ha cols hl hc t13 t14 cs ch refs ri x (j+1) m (ah.mk b3.ar cs b3.aP refs ch) (ah.mk b6.ar [] b6.aP [] []) (bf.mk (eV (eM a b) cols (j+1)) b8.aO) (bf.mk [] rr.aO) g2 (by simp at hm;omega)
  have hb:fE (eV (eM a b) cols j).length (j:Int)=some j:=jl (by rw[ku];exact g3)
  simp only[Gf,RM,hq,aW,aF,hb,aq,cE,mi _ g1,MX m c a b wX.1 wX.2 ha.1 ha.2,eh _ (show j<(eV (eM a b) cols j).length by rw[ku];exact g3),rP _ g1,cD g3 (by omega)]
  exact ih
 |_,_,0,_,_,_,_,_,hm=>by simp at hm
def WM (k:Int->Int->cG->bJ->ah->ah->cf->Option (ah×cG×cf×bJ)) (a b:Int) (ha:mG a) (rs:cf) (hl:rs.length<=1000) (hr:∀r∈rs,zi r) (cs:cG) (ch:bJ):∀(x:cf) (i m:Nat) (b3 b6:ah),rs.drop i=x->x.length+1000<m->
  CV k m a b (rs.length:Int) (i:Int) cs ch b3 b6 (eV (gG (eM a b)) rs i)=k a b cs ch (ah.mk b3.ar cs b3.aP (rs.map (gG (eM a b))) ch) (ah.mk b6.ar [] b6.aP [] []) (rs.map (gG (eM a b)))
 | [],i,m+1,b3,b6,hd,hm=>by
  have hi:rs.length<=i:=by simpa using hd
  have hq:¬((i:Int)<(rs.length:Int)):=by omega
  simp only[CV,RJ,hq,bg,aK,aG,rQ _ _ hi]
 |r::x,i,m+1,b3,b6,hd,hm=>by
  let ⟨g1,g2,g3⟩:=bN hd;have hq:(i:Int)<(rs.length:Int):=by omega
  have fY:=hr r (cX g1);simp at hm;have ih:=WM k a b ha rs hl hr cs ch x (i+1) m (ah.mk b3.ar cs b3.aP (eV (gG (eM a b)) rs (i+1)) ch) (ah.mk b6.ar [] b6.aP [] []) g2 (by omega)
  have hb:fE (eV (gG (eM a b)) rs i).length (i:Int)=some i:=jl (by rw[ku];exact g3)
  have inner:=WN (RL (CV k m) m) a b ha r.ae fY.len fY.rng (rs.length:Int) (i:Int) cs ch (eV (gG (eM a b)) rs i) i r.ae 0 m (ah.mk b3.ar cs b3.aP (eV (gG (eM a b)) rs i) ch) (ah.mk b6.ar [] b6.aP [] []) r (bf.mk [] r.aO) rfl (by have:=fY.len;omega)
  rw[xm,eh _ (show i<(eV (gG (eM a b)) rs i).length by rw[ku];exact g3),aq] at inner
  have e:(eV (gG (eM a b)) rs i).set i (bf.mk (r.ae.map (eM a b)) r.aO)=eV (gG (eM a b)) rs (i+1):=rP (gG (eM a b)) g1;rw[show (bf.mk ([]:aH) r.aO).aO=r.aO from rfl,e] at inner;simp only[CV,RJ,hq,aW,aF,hb,aq,cE,mi _ g1];refine inner.trans ?_;simp only[RL,cD g3 (by omega:rs.length<4294967296)]
  exact ih
 |_,_,0,_,_,_,hm=>by simp at hm
def WL (k:cG->bJ->ah->ah->cf->Option (ah×cG×cf×bJ)) (N:Int) (hN:N<=1000) (a b:Int) (ha:mG a) (ps:bJ) (hl:ps.length<=1000) (hp:∀p∈ps,pS N p=true/\fj p<=1000) (cs:cG) (refs:cf):∀(x:bJ) (i m:Nat) (b3 b6:ah),ps.drop i=x->x.length+1000<m->
  Ge k m a b (ps.length:Int) (i:Int) cs (eV (mj (eM a b)) ps i) b3 b6 refs=k cs (ps.map (mj (eM a b))) (ah.mk b3.ar cs b3.aP refs (ps.map (mj (eM a b)))) (ah.mk b6.ar [] b6.aP [] []) refs
 | [],i,m+1,b3,b6,hd,hm=>by
  have hi:ps.length<=i:=by simpa using hd
  have hq:¬((i:Int)<(ps.length:Int)):=by omega
  simp only[Ge,RI,hq,bg,aK,aG,rQ _ _ hi]
 |p::x,i,m+1,b3,b6,hd,hm=>by
  let ⟨g1,g2,g3⟩:=bN hd;have hq:(i:Int)<(ps.length:Int):=by omega
  have gy:=hp p (cX g1);simp at hm;have ih:=WL k N hN a b ha ps hl hp cs refs x (i+1) m (ah.mk b3.ar cs b3.aP refs (eV (mj (eM a b)) ps (i+1))) (ah.mk b6.ar [] b6.aP [] []) g2 (by omega)
  have hb:fE (eV (mj (eM a b)) ps i).length (i:Int)=some i:=jl (by rw[ku];exact g3)
  simp only[Ge,RI,hq,aW,aF,hb,aq,cE,mi _ g1,aiV N hN a b ha m p (by omega) (by omega) gy.1,eh _ (show i<(eV (mj (eM a b)) ps i).length by rw[ku];exact g3),rP _ g1,cD g3 (by omega)]
  exact ih
 |_,_,0,_,_,_,hm=>by simp at hm
def ajg (n:Nat) (T:ah) (N:Int) (hN:N<=1000) (hT:TOK N T) (a b:Int) (ha:mG a) (hn:3000<n):aec n T a b=some (oq (eM a b) T,T.ae,T.ak.map (gG (eM a b)),T.aD.map (mj (eM a b))):=by
 unfold aec afj;have h1:=WM (RH n) a b ha T.ak hT.refs hT.ref T.ae T.aD T.ak 0 n T (ah.mk ByteArray.empty [] 0 [] []) rfl (by have:=hT.refs;omega)
 rw[xm] at h1;refine h1.trans ?_;unfold RH;have h2:=WL (afk n) N hN a b ha T.aD hT.Ew hT.nD T.ae (T.ak.map (gG (eM a b))) T.aD 0 n (ah.mk T.ar T.ae T.aP (T.ak.map (gG (eM a b))) T.aD) (ah.mk ByteArray.empty [] 0 [] []) rfl (by have:=hT.Ew;omega)
 rw[xm] at h2;exact h2
def Wy (k:Nat->Int->Int->az->bl->ah->cf->Option az) (m0:aE) (dN:m0.bu=2\/m0.bu=3) (ha:mG m0.aX) (cols:aH) (hl:cols.length<=1000) (hc:∀c∈cols,mG c) (iQ:Nat) (t17 t18:Int) (ts:bl) (refs:cf) (ri:Nat):∀(x:aH) (j m:Nat) (v:Int) (tt:bl) (b5 rr:bf) (tr:ah),cols.drop j=x->x.length<m->
  FX k m iQ t17 t18 (cols.length:Int) (j:Int) (az.mk (af.mk v tt) m0) b5 (eV (j6 m0) cols j) ts tr refs rr ri=((setAt refs ri (bf.mk (cols.map (j6 m0)) rr.aO)).bind λz2=>k iQ t17 t18 (az.mk (af.mk v ts) m0) ts (ah.mk tr.ar tr.ae tr.aP [] tr.aD) z2)
 | [],j,m+1,v,tt,b5,rr,tr,hd,hm=>by
  have hi:cols.length<=j:=by simpa using hd
  have hq:¬((j:Int)<(cols.length:Int)):=by omega
  simp only[FX,Q9,hq,bg,aK,aG,rQ _ _ hi]
 |c::x,j,m+1,v,tt,b5,rr,tr,hd,hm=>by
  let ⟨g1,g2,g3⟩:=bN hd;have hq:(j:Int)<(cols.length:Int):=by omega
  have wX:=hc c (cX g1);have ih:=Wy k m0 dN ha cols hl hc iQ t17 t18 ts refs ri x (j+1) m v ts (bf.mk (eV (j6 m0) cols (j+1)) b5.aO) (bf.mk [] rr.aO) (ah.mk tr.ar tr.ae tr.aP [] tr.aD) g2 (by simp at hm;omega)
  have hb:fE (eV (j6 m0) cols j).length (j:Int)=some j:=jl (by rw[ku];exact g3)
  have e1:=aiP m c (az.mk (af.mk v ts) m0) dN wX ha;simp only[FX,Q9,hq,aW,aF,hb,aq,cE,mi _ g1,e1,eh _ (show j<(eV (j6 m0) cols j).length by rw[ku];exact g3),rP _ g1,cD g3 (by omega)]
  exact ih
 |_,_,0,_,_,_,_,_,_,hm=>by simp at hm
def Wx (k:Nat->az->bl->Option az) (m0:aE) (dN:m0.bu=2\/m0.bu=3) (ha:mG m0.aX) (rs:cf) (hl:rs.length<=1000) (hr:∀r∈rs,zi r) (iQ:Nat) (ts:bl):∀(x:cf) (i m:Nat) (v:Int) (tt:bl) (tr:ah),rs.drop i=x->x.length+1000<m->
  CO k m iQ (rs.length:Int) (i:Int) (az.mk (af.mk v tt) m0) ts tr (eV (gG (j6 m0)) rs i)=((setAt ts iQ (ah.mk tr.ar tr.ae tr.aP (rs.map (gG (j6 m0))) tr.aD)).bind λz=>k iQ (az.mk (af.mk v z) m0) z)
 | [],i,m+1,v,tt,tr,hd,hm=>by
  have hi:rs.length<=i:=by simpa using hd
  have hq:¬((i:Int)<(rs.length:Int)):=by omega
  simp only[CO,Q7,hq,bg,aK,aG,rQ _ _ hi]
 |r::x,i,m+1,v,tt,tr,hd,hm=>by
  let ⟨g1,g2,g3⟩:=bN hd;have hq:(i:Int)<(rs.length:Int):=by omega
  have fY:=hr r (cX g1);simp at hm;have ih:=Wx k m0 dN ha rs hl hr iQ ts x (i+1) m v ts (ah.mk tr.ar tr.ae tr.aP [] tr.aD) g2 (by omega)
  have hb:fE (eV (gG (j6 m0)) rs i).length (i:Int)=some i:=jl (by rw[ku];exact g3)
  have inner:=Wy (Q8 (CO k m) m) m0 dN ha r.ae fY.len fY.rng iQ (rs.length:Int) (i:Int) ts (eV (gG (j6 m0)) rs i) i r.ae 0 m v ts r (bf.mk [] r.aO) (ah.mk tr.ar tr.ae tr.aP [] tr.aD) rfl (by have:=fY.len;omega)
  rw[xm,eh _ (show i<(eV (gG (j6 m0)) rs i).length by rw[ku];exact g3),aq] at inner
  have e:(eV (gG (j6 m0)) rs i).set i (bf.mk (r.ae.map (j6 m0)) r.aO)=eV (gG (j6 m0)) rs (i+1):=rP (gG (j6 m0)) g1;rw[show (bf.mk ([]:aH) r.aO).aO=r.aO from rfl,e] at inner;simp only[CO,Q7,hq,aW,aF,hb,aq,cE,mi _ g1];refine inner.trans ?_;simp only[Q8,cD g3 (by omega:rs.length<4294967296)]
  exact ih
 |_,_,0,_,_,_,_,hm=>by simp at hm
def Ww (N:Int) (hN:N<=1000) (m0:aE) (dN:m0.bu=2\/m0.bu=3) (ha:mG m0.aX) (ps:bJ) (hl:ps.length<=1000) (hp:∀p∈ps,pS N p=true/\fj p<=1000) (iQ:Nat) (ts:bl):∀(x:bJ) (i m:Nat) (v:Int) (tt:bl) (tr:ah),ps.drop i=x->x.length+1000<m->
  FW m iQ (ps.length:Int) (i:Int) (az.mk (af.mk v tt) m0) (eV (mj (j6 m0)) ps i) ts tr=((setAt ts iQ (ah.mk tr.ar tr.ae tr.aP tr.ak (ps.map (mj (j6 m0))))).bind λz=>some (az.mk (af.mk v z) m0))
 | [],i,m+1,v,tt,tr,hd,hm=>by
  have hi:ps.length<=i:=by simpa using hd
  have hq:¬((i:Int)<(ps.length:Int)):=by omega
  simp only[FW,Q6,hq,bg,aK,aG,rQ _ _ hi]
 |p::x,i,m+1,v,tt,tr,hd,hm=>by
  let ⟨g1,g2,g3⟩:=bN hd;have hq:(i:Int)<(ps.length:Int):=by omega
  have gy:=hp p (cX g1);simp at hm;have ih:=Ww N hN m0 dN ha ps hl hp iQ ts x (i+1) m v ts (ah.mk tr.ar tr.ae tr.aP tr.ak []) g2 (by omega)
  have hb:fE (eV (mj (j6 m0)) ps i).length (i:Int)=some i:=jl (by rw[ku];exact g3)
  have e1:=aeg N hN (az.mk (af.mk v ts) m0) dN ha m p (by omega) (by omega) gy.1
  simp only[FW,Q6,hq,aW,aF,hb,aq,cE,mi _ g1,e1,eh _ (show i<(eV (mj (j6 m0)) ps i).length by rw[ku];exact g3),rP _ g1,cD g3 (by omega)]
  exact ih
 |_,_,0,_,_,_,_,hm=>by simp at hm
def aiT (n:Nat) (v:Int) (ts:bl) (m0:aE) (j:Nat) (T:ah) (hj:m0.aO=(j:Int)) (hT:ts[j]? =some T) (dN:m0.bu=2\/m0.bu=3) (ha:mG m0.aX) (N:Int) (hN:N<=1000) (ht:TOK N T) (hn:3000<n):
  adJ n (az.mk (af.mk v ts) m0)=some (az.mk (af.mk v (ts.set j (oq (j6 m0) T))) m0):=by
 have hl:=(cg.1 hT).1;have e1:C4 n (az.mk (af.mk v ts) m0)=some j:=by
  unfold C4 Rg;simp only[hj,jl hl,aq,cE]
 unfold adJ aeC;rw[e1,aq];simp only[hT,aq];have h1:=Wx (Q5 n) m0 dN ha T.ak ht.refs ht.ref j ts T.ak 0 n v ts (ah.mk T.ar T.ae T.aP [] T.aD) rfl (by have:=ht.refs;omega)
 rw[xm,eh _ hl,aq] at h1;refine h1.trans ?_;unfold Q5;rw[uw hl,aq];have Cl:j<(ts.set j (ah.mk T.ar T.ae T.aP (T.ak.map (gG (j6 m0))) T.aD)).length:=by simpa using hl
 have h2:=Ww N hN m0 dN ha T.aD ht.Ew ht.nD j (ts.set j (ah.mk T.ar T.ae T.aP (T.ak.map (gG (j6 m0))) T.aD)) T.aD 0 n v (ts.set j (ah.mk T.ar T.ae T.aP (T.ak.map (gG (j6 m0))) T.aD)) (ah.mk T.ar T.ae T.aP (T.ak.map (gG (j6 m0))) []) rfl (by have:=ht.Ew;omega)
 rw[xm,eh _ Cl,aq,pI] at h2;exact h2
def o9 (x:Int) (o:aL):Bool:=o.aC==1&&o.cJ==x
mutual
def o8 (x:Int):ag->Bool
 |⟨op,_,l,r,args⟩=>(op==3&&(o9 x l||o9 x r))||qp x args
def qp (x:Int):bJ->Bool
 | []=>false
 |p::ps=>o8 x p||qp x ps
end
def kh (l:aH) (q:Int->Bool) (sz:Nat) (r:aH):Prop:=(∀x,0<=x->(x∈r↔x∈l\/q x=true))/\r.length<=l.length+sz
def kh.refl (l:aH) (h:∀x,0<=x->q x=false) (sz:Nat):kh l q sz l:=⟨λx hx=>by simp[h x hx],by omega⟩
def kh.trans {b c:aH} {q':Int->Bool} {s s':Nat} (h:kh a q s b) (k:kh b q' s' c):kh a (λx=>q x||q' x) (s+s') c:=
 ⟨λx hx=>by rw[k.1 x hx,h.1 x hx];simp[or_assoc],by have:=h.2;have:=k.2;omega⟩
def kh.mono {b:aH} {q':Int->Bool} {s s':Nat} (h:kh a q s b) (hq:∀x,q x=q' x) (hs:s<=s'):kh a q' s' b:=
 ⟨λx hx=>by rw[h.1 x hx,hq],by have:=h.2;omega⟩
def aDZ {xs:List Y} (h:j<=xs.length):cut xs none (some (j:Int))=some (xs.take j):=by
 unfold cut;simp[h]
def avg {xs:List Y} (h:j<=xs.length):cut xs (some (j:Int)) none=some (xs.drop j):=by
 unfold cut;simp[h]
def Wv (k:aH->Int->Int->Option aH) (l:aH) (c:Int) (hl:l.length<=900000):∀(x:aH) (i m:Nat),l.drop i=x->x.length<m->i<=l.length->∃j:Nat,j<=l.length/\CN k m l c (i:Int)=k l c (j:Int)
 | [],i,m+1,hd,hm,hi=>by
  have:l.length<=i:=by simpa using hd
  have hq:¬((i:Int)<(l.length:Int)):=by omega
  exact ⟨i,hi,by simp only[CN,KR,hq,bg,aK,aG]⟩
 |y::x,i,m+1,hd,hm,hi=>by
  let ⟨g1,g2,g3⟩:=bN hd;have hq:(i:Int)<(l.length:Int):=by omega
  by_cases h:y<c
  ·let ⟨j,h1,h2⟩:=Wv k l c hl x (i+1) m g2 (by simp at hm;omega) (by omega)
   refine ⟨j,h1,?_⟩;simp only[CN,KR,hq,aW,aF,cH,g1,aq,h,cD g3 (by omega),h2]
  ·exact ⟨i,hi,by simp only[CN,KR,hq,aW,aF,cH,g1,aq,h,bg,aK,aG]⟩
 |_,_,0,_,hm,_=>by simp at hm
def aBE (n:Nat) (l:aH) (c:Int) (hl:l.length<=900000) (hn:l.length<n):Ok (amS n l c) λr=>(∀x,x∈r↔x∈l\/x=c)/\r.length<=l.length+1:=by
 let ⟨j,h1,h2⟩:=Wv (QY n) l c hl l 0 n rfl (by omega) (by omega)
 have hB:Ok (KQ n l c (j:Int)) λr=>(∀x,x∈r↔x∈l\/x=c)/\r.length<=l.length+1:=by
  unfold KQ;rw[aDZ h1,aq,eE _ _ (by simp;omega),aq,eE _ _ (by simp;omega),aq,avg h1,aq,eE _ _ (by simp;omega),aq]
  refine Ok.pure ⟨λx=> ?_,by simp;omega⟩
  have e:x∈l↔x∈l.take j\/x∈l.drop j:=by
   conv=>lhs;rw[<-wD j l]
   exact ee
  rw[e];simp only[nr,ee,cB];constructor
  ·rintro ((h|h)|h)
   ·exact .inl (.inl h)
   ·exact .inr h
   ·exact .inl (.inr h)
  ·rintro ((h|h)|h)
   ·exact .inl (.inl h)
   ·exact .inr h
   ·exact .inl (.inr h)
 unfold amS aes;rw[show (0:Int)=((0:Nat):Int) from rfl,h2];unfold QY;by_cases hq:(j:Int)<(l.length:Int)
 ·have hj:j<l.length:=by omega
  simp only[hq,aW,aF,cH,dW hj,aq];by_cases he:l[j]=c
  ·simp only[he,gX,aF];refine Ok.pure ⟨λx=>⟨.inl,λh=> ?_⟩,by omega⟩
   rcases h with h|rfl
   ·exact h
   ·rw[<-he];exact xc hj
  ·have:(l[j]==c)=false:=by simpa using he
   simp only[this,aK,aG];exact hB
 ·simp only[hq,bg,aK,aG];exact hB
def NB (s:ag->aH->Option aH) (k:aH->ag->Option aH) (p:ag) (os:tC) (t:Nat) (o:aL) (ho:os[t]? =some o) (h2:os.length=2) (m:Nat) (l:aH) (hl:l.length<=800000) (hm:l.length+2<m):
  ∃l',kh l (λx=>o9 x o) 1 l'/\vG s k (m+1) l (t:Int) p os=vG s k m l' ((t+1:Nat):Int) p os:=by
 have ht:=(cg.1 ho).1;have hq:(t:Int)<2:=by omega
 have hb:fE os.length (t:Int)=some t:=jl ht;have hw:bh ((t:Int)+1)=((t+1:Nat):Int):=cD ht (by omega)
 by_cases hk:o.aC=1
 ·by_cases hi:o.cJ<0
  ·refine ⟨l,kh.refl l (λx hx=> ?_) 1,?_⟩
   ·simp[o9,hk];omega
   ·simp only[vG,GB,hq,aW,aF,hb,aq,cE,ho,hk,gX,hi,fA,aK,aG,hw]
  ·let ⟨r,e,h1,h3⟩:=aBE m l o.cJ (by omega) (by omega)
   refine ⟨r,⟨λx hx=> ?_,h3⟩,?_⟩
   ·rw[h1];simp[o9,hk];constructor
    ·rintro (h|h)
     ·exact .inl h
     ·exact .inr h.symm
    ·rintro (h|h)
     ·exact .inl h
     ·exact .inr h.symm
   ·simp only[vG,GB,hq,aW,aF,hb,aq,cE,ho,hk,gX,hi,bg,kJ,e,hw]
 ·have hkf:(o.aC==1)=false:=by simpa using hk
  refine ⟨l,kh.refl l (λx hx=>by simp[o9,hk]) 1,?_⟩
  simp only[vG,GB,hq,aW,aF,hb,aq,cE,ho,hkf,aK,aG,hw]
def arL (s:ag->aH->Option aH) (k:aH->ag->Option aH) (p:ag) (a b:aL) (m:Nat) (l:aH) (hl:l.length<=700000) (hm:l.length+10<m):
  ∃l',kh l (λx=>o9 x a||o9 x b) 2 l'/\vG s k m l 0 p [a,b]=k l' p:=by
 obtain ⟨m,rfl⟩:∃q,m=q+3:=⟨m-3,by omega⟩
 let ⟨l1,c1,e1⟩:=NB s k p [a,b] 0 a rfl rfl (m+2) l (by omega) (by omega)
 have h1:=c1.2;let ⟨l2,c2,e2⟩:=NB s k p [a,b] 1 b rfl rfl (m+1) l1 (by omega) (by omega)
 refine ⟨l2,c1.trans c2,?_⟩;refine e1.trans (e2.trans ?_);simp only[vG,GB,show ¬(((1+1:Nat):Int)<2) by omega,bg,aK,aG]
def aiR:∀(n:Nat) (p:ag) (l:aH),l.length+2*fj p+20<=n->l.length+2*fj p<=500000->Ok (EB n p l) (kh l (λx=>o8 x p) (2*fj p))
 |0,_,_,h,_=>by omega
 |n+1,⟨op,c,a,b,args⟩,l,h,hb=>by
  simp only[fj] at h hb ⊢;have hlen:=pK args;have loop:∀(xs:bJ) (i k:Nat) (l1:aH),args.drop i=xs->xs.length<k->l1.length+2*kS xs+20<=n->l1.length+2*kS xs<=500000->
    Ok (FV (EB n) (Q2 (EB n) n) k l1 (args.length:Int) (i:Int) ⟨op,c,a,b,args⟩) (kh l1 (λx=>qp x xs) (2*kS xs)):=by
   intro xs;induction xs with
   |nil=>
    intro i k l1 hd hk h1 h2;have:args.length<=i:=by simpa using hd
    have hq:¬((i:Int)<(args.length:Int)):=by omega
    cases k with
    |zero=>simp at hk
    |succ k=>
     simp only[FV,Q3,hq,bg,aK,aG,Q2];exact Ok.pure (kh.refl _ (λx _=>by simp[qp]) _)
   |cons x xs ih=>
    intro i k l1 hd hk h1 h2;let ⟨g1,g2,g3⟩:=bN hd;have hq:((i:Int)<(args.length:Int)):=by omega
    simp only[kS] at h1 h2;cases k with
    |zero=>simp at hk
    |succ k=>
     simp only[FV,Q3,hq,aW,aF,cH,g1,aq];refine Ok.bind (aiR n x l1 (by omega) (by omega)) λl2 c2=> ?_
     have Cl:=c2.2;rw[cD g3 (by omega:args.length<4294967296)]
     refine (ih (i+1) k l2 g2 (by simp at hk;omega) (by omega) (by omega)).mono λr c3=> ?_
     exact (c2.trans c3).mono (λy=>by simp[qp]) (by simp only[kS];omega)
  have tail:∀l1:aH,l1.length+2*kS args+20<=n->l1.length+2*kS args<=500000->Ok (GA (EB n) n l1 ⟨op,c,a,b,args⟩) (kh l1 (λx=>qp x args) (2*kS args)):=λl1 h1 h2=>by
   unfold GA;exact loop args 0 n l1 rfl (by omega) h1 h2
  unfold EB aew;by_cases h3:op=3
  ·subst h3;simp only[gX,aF];let ⟨l1,c1,e1⟩:=arL (EB n) (GA (EB n) n) ⟨3,c,a,b,args⟩ a b n l (by omega) (by omega)
   have hl1:=c1.2;rw[e1];refine (tail l1 (by omega) (by omega)).mono λr c2=> ?_
   exact (c1.trans c2).mono (λy=>by simp[o8]) (by omega)
  ·have bY:(op==3)=false:=by simpa using h3
   simp only[bY,aK,aG];refine (tail l (by omega) (by omega)).mono λr c2=> ?_
   exact c2.mono (λy=>by simp[o8,bY]) (by omega)
def aBH (n:Nat) (p:ag) (h:2*fj p+20<=n) (hb:2*fj p<=500000):Ok (amX n p) (kh [] (λx=>o8 x p) (2*fj p)):=by
 unfold amX aeI;exact Ok.bind (aiR n p [] (by simpa using h) (by simpa using hb)) λr hr=>Ok.pure hr
def NC (s:aH->ag->Option (aH×aH)) (k:kC->Int->aH->ag->Option (aH×aH)) (n:Nat) (t16:kC) (t:Int) (l:aH) (b3:ag) (o:aL) (hl:l.length<=800000):
  ∃l',kh l (λx=>o9 x o) 1 l'/\KO s k n t16 t l b3 o=k t16 (bh (t+1)) l' b3:=by
 unfold KO;by_cases hk:o.aC=1
 ·by_cases hi:o.cJ<0
  ·refine ⟨l,kh.refl l (λx hx=>by simp[o9,hk];omega) 1,by simp[hk,hi]⟩
  ·refine ⟨l++ [o.cJ],⟨λx hx=> ?_,by simp⟩,?_⟩
   ·simp[o9,hk];constructor
    ·rintro (h|h)
     ·exact .inl h
     ·exact .inr h.symm
    ·rintro (h|h)
     ·exact .inl h
     ·exact .inr h.symm
   ·simp only[hk,gX,aF,hi,bg,kJ,eE l [o.cJ] (by simp;omega),aq]
 ·exact ⟨l,kh.refl l (λx hx=>by simp[o9,hk]) 1,by simp[hk]⟩
def arK (s:aH->ag->Option (aH×aH)) (k:aH->ag->Option (aH×aH)) (p:ag) (a b:aL) (m:Nat) (l:aH) (hl:l.length<=700000) (hm:10<m):
  ∃l',kh l (λx=>o9 x a||o9 x b) 2 l'/\vF s k m (kC.mk a b) 0 l p=k l' p:=by
 obtain ⟨m,rfl⟩:∃q,m=q+3:=⟨m-3,by omega⟩
 let ⟨l1,c1,e1⟩:=NC s (vF s k (m+2)) (m+2) (kC.mk a b) 0 l p a (by omega)
 have h1:=c1.2;let ⟨l2,c2,e2⟩:=NC s (vF s k (m+1)) (m+1) (kC.mk a b) 1 l1 p b (by omega)
 refine ⟨l2,c1.trans c2,?_⟩;have s0:vF s k (m+3) (kC.mk a b) 0 l p=vF s k (m+2) (kC.mk a b) 1 l1 p:=e1;have s1:vF s k (m+2) (kC.mk a b) 1 l1 p=vF s k (m+1) (kC.mk a b) 2 l2 p:=e2;rw[s0,s1];rfl
def aiO:∀(n:Nat) (l:aH) (p:ag),2*fj p+20<=n->l.length+2*fj p<=500000->Ok (EA n l p) λr=>r.1=r.2/\kh l (λx=>o8 x p) (2*fj p) r.2
 |0,_,_,h,_=>by omega
 |n+1,l,⟨op,c,a,b,args⟩,h,hb=>by
  simp only[fj] at h hb ⊢;have hlen:=pK args;have loop:∀(xs:bJ) (i k:Nat) (l1:aH),args.drop i=xs->xs.length<k->2*kS xs+20<=n->l1.length+2*kS xs<=500000->
    Ok (FT (EA n) (QU (EA n) n) k args (args.length:Int) (i:Int) l1) λr=>r.1=r.2/\kh l1 (λx=>qp x xs) (2*kS xs) r.2:=by
   intro xs;induction xs with
   |nil=>
    intro i k l1 hd hk h1 h2;have:args.length<=i:=by simpa using hd
    have hq:¬((i:Int)<(args.length:Int)):=by omega
    cases k with
    |zero=>simp at hk
    |succ k=>
     simp only[FT,QV,hq,bg,aK,aG,QU];exact Ok.pure ⟨rfl,kh.refl _ (λx _=>by simp[qp]) _⟩
   |cons x xs ih=>
    intro i k l1 hd hk h1 h2;let ⟨g1,g2,g3⟩:=bN hd;have hq:((i:Int)<(args.length:Int)):=by omega
    simp only[kS] at h1 h2;cases k with
    |zero=>simp at hk
    |succ k=>
     simp only[FT,QV,hq,aW,aF,cH,g1,aq];refine Ok.bind (aiO n l1 x (by omega) (by omega)) λl2 ⟨_,c2⟩=> ?_
     have Cl:=c2.2;rw[cD g3 (by omega:args.length<4294967296)]
     refine (ih (i+1) k l2.2 g2 (by simp at hk;omega) (by omega) (by omega)).mono λr ⟨c0,c3⟩=> ?_
     exact ⟨c0,(c2.trans c3).mono (λy=>by simp[qp]) (by simp only[kS];omega)⟩
  have tail:∀l1:aH,l1.length+2*kS args<=500000->Ok (Gz (EA n) n l1 ⟨op,c,a,b,args⟩) λr=>r.1=r.2/\kh l1 (λx=>qp x args) (2*kS args) r.2:=λl1 h2=>by
   unfold Gz;exact loop args 0 n l1 rfl (by omega) (by omega) h2
  unfold EA aeq;by_cases h3:op=3
  ·subst h3;simp only[gX,aF];let ⟨l1,c1,e1⟩:=arK (EA n) (Gz (EA n) n) ⟨3,c,a,b,args⟩ a b n l (by omega) (by omega)
   have hl1:=c1.2;rw[e1];refine (tail l1 (by omega)).mono λr ⟨c0,c2⟩=> ?_
   exact ⟨c0,(c1.trans c2).mono (λy=>by simp[o8]) (by omega)⟩
  ·have bY:(op==3)=false:=by simpa using h3
   simp only[bY,aK,aG];refine (tail l (by omega)).mono λr ⟨c0,c2⟩=> ?_
   exact ⟨c0,c2.mono (λy=>by simp[o8,bY]) (by omega)⟩
def Lf (k:kC->Int->aH->ag->Option aH) (n:Nat) (t16:kC) (t:Int) (l:aH) (b3:ag) (o:aL) (hl:l.length<=800000):
  ∃l',kh l (λx=>o9 x o) 1 l'/\GG k n t16 t l b3 o=k t16 (bh (t+1)) l' b3:=by
 unfold GG;by_cases hk:o.aC=1
 ·by_cases hi:o.cJ<0
  ·refine ⟨l,kh.refl l (λx hx=>by simp[o9,hk];omega) 1,by simp[hk,hi]⟩
  ·refine ⟨l++ [o.cJ],⟨λx hx=> ?_,by simp⟩,?_⟩
   ·simp[o9,hk];constructor
    ·rintro (h|h)
     ·exact .inl h
     ·exact .inr h.symm
    ·rintro (h|h)
     ·exact .inl h
     ·exact .inr h.symm
   ·simp only[hk,gX,aF,hi,bg,kJ,eE l [o.cJ] (by simp;omega),aq]
 ·exact ⟨l,kh.refl l (λx hx=>by simp[o9,hk]) 1,by simp[hk]⟩
def amR (k:aH->ag->Option aH) (p:ag) (a b:aL) (m:Nat) (l:aH) (hl:l.length<=700000) (hm:10<m):
  ∃l',kh l (λx=>o9 x a||o9 x b) 2 l'/\sQ k m (kC.mk a b) 0 l p=k l' p:=by
 obtain ⟨m,rfl⟩:∃q,m=q+3:=⟨m-3,by omega⟩
 let ⟨l1,c1,e1⟩:=Lf (sQ k (m+2)) (m+2) (kC.mk a b) 0 l p a (by omega)
 have h1:=c1.2;let ⟨l2,c2,e2⟩:=Lf (sQ k (m+1)) (m+1) (kC.mk a b) 1 l1 p b (by omega)
 refine ⟨l2,c1.trans c2,?_⟩;have s0:sQ k (m+3) (kC.mk a b) 0 l p=sQ k (m+2) (kC.mk a b) 1 l1 p:=e1;have s1:sQ k (m+2) (kC.mk a b) 1 l1 p=sQ k (m+1) (kC.mk a b) 2 l2 p:=e2;rw[s0,s1];rfl
def avI (n:Nat) (p:ag) (h:4*fj p+60<=n) (hb:2*fj p<=400000):Ok (XU n p) (kh [] (λx=>o8 x p) (2*fj p)):=by
 let ⟨op,c,a,b,args⟩:=p;simp only[fj] at h hb ⊢;have hlen:=pK args;have loop:∀(xs:bJ) (i k:Nat) (l1:aH),args.drop i=xs->xs.length+2*kS args+20<k->l1.length+2*kS xs<=500000->
   Ok (BG (M3 n) k args (args.length:Int) (i:Int) l1) (kh l1 (λx=>qp x xs) (2*kS xs)):=by
  intro xs;induction xs with
  |nil=>
   intro i k l1 hd hk h2;have:args.length<=i:=by simpa using hd
   have hq:¬((i:Int)<(args.length:Int)):=by omega
   cases k with
   |zero=>simp at hk
   |succ k=>
    simp only[BG,M4,hq,bg,aK,aG,M3];exact Ok.pure (kh.refl _ (λx _=>by simp[qp]) _)
  |cons x xs ih=>
   intro i k l1 hd hk h2;let ⟨g1,g2,g3⟩:=bN hd;have hq:((i:Int)<(args.length:Int)):=by omega
   have hx:x∈args:=cX g1;have hs:=sK hx;simp only[kS] at h2;cases k with
   |zero=>simp at hk
   |succ k=>
    simp at hk;simp only[BG,M4,hq,aW,aF,cH,g1,aq];refine Ok.bind (aiO k l1 x (by omega) (by omega)) λl2 ⟨_,c2⟩=> ?_
    have Cl:=c2.2;rw[cD g3 (by omega:args.length<4294967296)]
    refine (ih (i+1) k l2.2 g2 (by omega) (by omega)).mono λr c3=> ?_
    exact (c2.trans c3).mono (λy=>by simp[qp]) (by simp only[kS];omega)
 have tail:∀(l1:aH) (q:ag),q.fArgs=args->l1.length+2*kS args<=500000->Ok (BI n l1 q) (kh l1 (λx=>qp x args) (2*kS args)):=λl1 q hq h2=>by
  unfold BI;rw[hq];exact loop args 0 n l1 rfl (by omega) h2
 unfold XU Vy;by_cases h3:op=3
 ·subst h3;simp only[gX,aF];let ⟨l1,c1,e1⟩:=amR (BI n) ⟨3,c,a,b,args⟩ a b n [] (by simp) (by omega)
  have hl1:=c1.2;simp at hl1;rw[e1];refine (tail l1 _ rfl (by omega)).mono λr c2=> ?_
  exact (c1.trans c2).mono (λy=>by simp[o8]) (by omega)
 ·have bY:(op==3)=false:=by simpa using h3
  simp only[bY,aK,aG];refine (tail [] _ rfl (by simp;omega)).mono λr c2=> ?_
  exact c2.mono (λy=>by simp[o8,bY]) (by omega)
def aix (z:Int):∀xs:aH,z∈ld xs↔z∈xs
 | []=>Iff.rfl
 | [x]=>Iff.rfl
 |x::y::l=>by
  have ih:=aix z (y::l);show z∈(if x=y then ld (y::l) else x::ld (y::l))↔_
  split
  ·rename_i e;subst e;rw[ih];simp
  ·rw[bB,ih,bB (a:=z) (b:=x)]
def aBF (n:Nat) (p:ag) (h:4*fj p+60<=n) (hb:2*fj p<=400000):Ok (amU n p) λr=>r.length<=2*fj p/\∀x,0<=x->(x∈r↔o8 x p=true):=by
 unfold amU aeu;refine Ok.bind (avI n p h hb) λl c=> ?_
 have hl:=c.2;simp at hl;have hp:=AZ l;have h1:adP n l=some (lY l):=by unfold adP;rw[ax (by omega)]
 rw[h1,aq,show lZ (lY l).length l.length=some () by unfold lZ;rw[ax hp.length_eq],aq]
 have h2:adF n (lY l)=some (ld (lY l),ld (lY l)):=by unfold adF;rw[ax (by rw[hp.length_eq];omega)]
 rw[h2,aq];refine Ok.pure ⟨?_,λx hx=> ?_⟩
 ·have:=Ko (lY l);rw[hp.length_eq] at this;show (ld (lY l)).length<=_;omega
 ·show x∈ld (lY l)↔_;rw[aix,hp.mem_iff,c.1 x hx];simp
def qM (c:Int) (rs:cf):Bool:=rs.any λr=>decide (c∈r.ae)
def qN (c:Int) (ps:bJ):Bool:=ps.any λp=>o8 c p
def AX (c:Int) (T:ah):Bool:=qM c T.ak||qN c T.aD
def WS (k:Int->cf->Int->Int->ah->Option Bool) (c:Int) (t14:cf) (t15 t16:Int) (T:ah) (cols:aH) (hl:cols.length<=1000):∀(x:aH) (j m:Nat),cols.drop j=x->x.length<m->
  Gi k m c t14 t15 t16 cols (cols.length:Int) (j:Int) T=if c∈x then some true else k c t14 t15 t16 T
 | [],j,m+1,hd,hm=>by
  have hi:cols.length<=j:=by simpa using hd
  have hq:¬((j:Int)<(cols.length:Int)):=by omega
  simp[Gi,RU,hq]
 |y::x,j,m+1,hd,hm=>by
  let ⟨g1,g2,g3⟩:=bN hd;have hq:(j:Int)<(cols.length:Int):=by omega
  have ih:=WS k c t14 t15 t16 T cols hl x (j+1) m g2 (by simp at hm;omega)
  simp only[Gi,RU,hq,aW,aF,cH,g1,aq,cD g3 (by omega),ih]
  by_cases h:y=c
  ·subst h;simp
  ·have h2:¬c=y:=λe=>h e.symm
   simp[h,h2]
 |_,_,0,_,hm=>by simp at hm
def WR (k:Int->ah->Option Bool) (c:Int) (T:ah) (rs:cf) (hl:rs.length<=1000) (hr:∀r∈rs,zi r):∀(x:cf) (i m:Nat),rs.drop i=x->x.length+1000<m->
  CX k m c rs (rs.length:Int) (i:Int) T=if qM c x=true then some true else k c T
 | [],i,m+1,hd,hm=>by
  have hi:rs.length<=i:=by simpa using hd
  have hq:¬((i:Int)<(rs.length:Int)):=by omega
  simp[CX,RS,hq,qM]
 |r::x,i,m+1,hd,hm=>by
  let ⟨g1,g2,g3⟩:=bN hd;have hq:(i:Int)<(rs.length:Int):=by omega
  have fY:=hr r (cX g1);simp at hm;have ih:=WR k c T rs hl hr x (i+1) m g2 (by omega)
  have inner:=WS (RT (CX k m) m) c rs (rs.length:Int) (i:Int) T r.ae fY.len r.ae 0 m rfl (by have:=fY.len;omega)
  simp only[CX,RS,hq,aW,aF,cH,g1,aq];refine inner.trans ?_;simp only[RT,cD g3 (by omega:rs.length<4294967296),ih]
  have e:qM c (r::x)=(decide (c∈r.ae)||qM c x):=by simp[qM]
  rw[e];by_cases h:c∈r.ae<;>simp[h]
 |_,_,0,_,hm=>by simp at hm
def WQ (k:Int->bJ->Int->Int->Option Bool) (c:Int) (t33:bJ) (t34 t35:Int) (cols:aH) (hl:cols.length<=10000):∀(x:aH) (j m:Nat),cols.drop j=x->x.length<m->
  Gg k m c t33 t34 t35 cols (cols.length:Int) (j:Int)=if c∈x then some true else k c t33 t34 t35
 | [],j,m+1,hd,hm=>by
  have hi:cols.length<=j:=by simpa using hd
  have hq:¬((j:Int)<(cols.length:Int)):=by omega
  simp[Gg,RR,hq]
 |y::x,j,m+1,hd,hm=>by
  let ⟨g1,g2,g3⟩:=bN hd;have hq:(j:Int)<(cols.length:Int):=by omega
  have ih:=WQ k c t33 t34 t35 cols hl x (j+1) m g2 (by simp at hm;omega)
  simp only[Gg,RR,hq,aW,aF,cH,g1,aq,cD g3 (by omega),ih]
  by_cases h:y=c
  ·subst h;simp
  ·have h2:¬c=y:=λe=>h e.symm
   simp[h,h2]
 |_,_,0,_,hm=>by simp at hm
def WO (k:Option Bool) (c:Int) (hc:0<=c) (ps:bJ) (hl:ps.length<=1000) (hp:∀p∈ps,fj p<=1000):∀(x:bJ) (i m:Nat),ps.drop i=x->x.length+10000<m->
  CW k m c ps (ps.length:Int) (i:Int)=if qN c x=true then some true else k
 | [],i,m+1,hd,hm=>by
  have hi:ps.length<=i:=by simpa using hd
  have hq:¬((i:Int)<(ps.length:Int)):=by omega
  simp[CW,RP,hq,qN]
 |p::x,i,m+1,hd,hm=>by
  let ⟨g1,g2,g3⟩:=bN hd;have hq:(i:Int)<(ps.length:Int):=by omega
  have gy:=hp p (cX g1);simp at hm;have ih:=WO k c hc ps hl hp x (i+1) m g2 (by omega)
  let ⟨r,e1,c1,c2⟩:=aBH m p (by omega) (by omega)
  simp at c2;have inner:=WQ (RQ (CW k m) m) c ps (ps.length:Int) (i:Int) r (by omega) r 0 m rfl (by omega)
  simp only[CW,RP,hq,aW,aF,cH,g1,aq,e1];refine inner.trans ?_;simp only[RQ,cD g3 (by omega:ps.length<4294967296),ih]
  have e:qN c (p::x)=(o8 c p||qN c x):=by simp[qN]
  have hm:=c1 c hc;simp at hm;rw[e];cases hcp:o8 c p with
  |true=>rw[ax (hm.2 hcp)];simp
  |false=>rw[aA (λh=>by rw[hm.1 h] at hcp;cases hcp)];simp
 |_,_,0,_,hm=>by simp at hm
def ajh (n:Nat) (T:ah) (c:Int) (hc:0<=c) (hT:ED T) (hn:20000<n):aed n T c=some (AX c T):=by
 unfold aed afl;have h1:=WR (RN n) c T T.ak hT.len.2.1 hT.ref T.ak 0 n rfl (by have:=hT.len.2.1;omega)
 refine h1.trans ?_;unfold RN;have h2:=WO (RO n) c hc T.aD hT.len.2.2 hT.nD T.aD 0 n rfl (by have:=hT.len.2.2;omega)
 rw[show (0:Int)=((0:Nat):Int) from rfl,h2];unfold AX RO;cases qM c T.ak<;>cases qN c T.aD<;>rfl
def Wu (v:Int) (l:aH) (hl:l.length<=10000) (n0:Nat):∀(x:aH) (j m:Nat),l.drop j=x->x.length<m->
  Ok (FU (QW n0) m l v (l.length:Int) (j:Int)) λr=>(r<0↔¬v∈x)
 | [],j,m+1,hd,hm=>by
  have hi:l.length<=j:=by simpa using hd
  have hq:¬((j:Int)<(l.length:Int)):=by omega
  simp only[FU,QX,hq,bg,aK,aG,QW];exact Ok.pure ⟨λ_=>by simp,λ_=>by omega⟩
 |y::x,j,m+1,hd,hm=>by
  let ⟨g1,g2,g3⟩:=bN hd;have hq:(j:Int)<(l.length:Int):=by omega
  simp only[FU,QX,hq,aW,aF,cH,g1,aq];by_cases h:v=y
  ·subst h;simp only[gX,aF];exact Ok.pure ⟨λh=>by omega,λh=>absurd gw h⟩
  ·have:(v==y)=false:=by simpa using h
   simp only[this,aK,aG,cD g3 (by omega)]
   refine (Wu v l hl n0 x (j+1) m g2 (by simp at hm;omega)).mono λr hr=> ?_
   rw[hr];simp[h]
 |_,_,0,_,hm=>by simp at hm
def aiQ (n:Nat) (l:aH) (v:Int) (hl:l.length<=10000) (hn:l.length<n):adG n l v=some (decide (v∈l)):=by
 let ⟨r,e,h⟩:=Wu v l hl n l 0 n rfl hn;unfold adG aev avB aer;rw[show (0:Int)=((0:Nat):Int) from rfl,e,aq];by_cases hv:v∈l
 ·have:¬r<0:=λhr=>(h.1 hr) hv
  simp[hv,this]
 ·have:r<0:=h.2 hv;simp[hv,this]
def WA (k:az->ah->Option Bool) (g:az) (T:ah) (rs:cf) (hl:rs.length<=1000) (hr:∀r∈rs,zi r):∀(x:cf) (i m:Nat),rs.drop i=x->x.length+1000<m->
  FZ k m g T rs (rs.length:Int) (i:Int)=if qM g.fm.aX x=true then some true else k g T
 | [],i,m+1,hd,hm=>by
  have hi:rs.length<=i:=by simpa using hd
  have hq:¬((i:Int)<(rs.length:Int)):=by omega
  simp[FZ,Rf,hq,qM]
 |r::x,i,m+1,hd,hm=>by
  let ⟨g1,g2,g3⟩:=bN hd;have hq:(i:Int)<(rs.length:Int):=by omega
  have fY:=hr r (cX g1);simp at hm;have ih:=WA k g T rs hl hr x (i+1) m g2 (by omega)
  simp only[FZ,Rf,hq,aW,aF,cH,g1,aq,aiQ m r.ae g.fm.aX (by have:=fY.len;omega) (by have:=fY.len;omega),cD g3 (by omega:rs.length<4294967296),ih]
  have e:qM g.fm.aX (r::x)=(decide (g.fm.aX∈r.ae)||qM g.fm.aX x):=by simp[qM]
  rw[e];by_cases h:g.fm.aX∈r.ae<;>simp[h]
 |_,_,0,_,hm=>by simp at hm
def Wz (k:Option Bool) (g:az) (hc:0<=g.fm.aX) (ps:bJ) (hl:ps.length<=1000) (hp:∀p∈ps,fj p<=1000):∀(x:bJ) (i m:Nat),ps.drop i=x->x.length+10000<m->
  FY k m g ps (ps.length:Int) (i:Int)=if qN g.fm.aX x=true then some true else k
 | [],i,m+1,hd,hm=>by
  have hi:ps.length<=i:=by simpa using hd
  have hq:¬((i:Int)<(ps.length:Int)):=by omega
  simp[FY,Re,hq,qN]
 |p::x,i,m+1,hd,hm=>by
  let ⟨g1,g2,g3⟩:=bN hd;have hq:(i:Int)<(ps.length:Int):=by omega
  have gy:=hp p (cX g1);simp at hm;have ih:=Wz k g hc ps hl hp x (i+1) m g2 (by omega)
  let ⟨r,e1,c2,c1⟩:=aBF m p (by omega) (by omega)
  simp only[FY,Re,hq,aW,aF,cH,g1,aq,e1,aiQ m r g.fm.aX (by omega) (by omega),cD g3 (by omega:ps.length<4294967296),ih]
  have e:qN g.fm.aX (p::x)=(o8 g.fm.aX p||qN g.fm.aX x):=by simp[qN]
  have hm:=c1 g.fm.aX hc;rw[e];cases hcp:o8 g.fm.aX p with
  |true=>simp[hm.2 hcp]
  |false=>
   have:¬g.fm.aX∈r:=λh=>by rw[hm.1 h] at hcp;cases hcp
   simp[this]
 |_,_,0,_,hm=>by simp at hm
def C6 (n:Nat) (v:Int) (ts:bl) (m0:aE) (j:Nat) (T:ah) (hj:m0.aO=(j:Int)) (hT:ts[j]? =some T):Ea n (az.mk (af.mk v ts) m0)=some T:=by
 unfold Ea Vz;simp only[hj,cH,hT,aq]
def Gu (n:Nat) (v:Int) (ts:bl) (m0:aE) (j:Nat) (hj:m0.aO=(j:Int)) (hl:j<ts.length):C4 n (az.mk (af.mk v ts) m0)=some j:=by
 unfold C4 Rg;simp only[hj,jl hl,aq,cE]
def MV (n:Nat) (v:Int) (ts:bl) (m0:aE) (j:Nat) (T:ah) (hj:m0.aO=(j:Int)) (hT:ts[j]? =some T) (c:Int):Ou n (az.mk (af.mk v ts) m0) c=some (decide (T.aP<=c)&&decide (c<(T.ae.length:Int))):=by
 unfold Ou aeE;rw[C6 n v ts m0 j T hj hT,aq];by_cases h:c<T.aP
 ·have:¬T.aP<=c:=by omega
  simp[h,this]
 ·have:T.aP<=c:=by omega
  simp[h,this]
def aiU (n:Nat) (v:Int) (ts:bl) (m0:aE) (j:Nat) (T:ah) (hj:m0.aO=(j:Int)) (hT:ts[j]? =some T) (hc:0<=m0.aX) (ht:ED T) (hn:20000<n):adL n (az.mk (af.mk v ts) m0)=some (AX m0.aX T):=by
 unfold adL aeD;rw[C6 n v ts m0 j T hj hT,aq];have h1:=WA (Ra n) (az.mk (af.mk v ts) m0) T T.ak ht.len.2.1 ht.ref T.ak 0 n rfl (by have:=ht.len.2.1;omega)
 refine h1.trans ?_;unfold Ra;have h2:=Wz (Rb n) (az.mk (af.mk v ts) m0) hc T.aD ht.len.2.2 ht.nD T.aD 0 n rfl (by have:=ht.len.2.2;omega)
 rw[show (0:Int)=((0:Nat):Int) from rfl,h2];unfold AX Rb;show (if qM m0.aX T.ak=true then _ else if qN m0.aX T.aD=true then _ else _)=_
 cases qM m0.aX T.ak<;>cases qN m0.aX T.aD<;>rfl
end Go.Proofs.YtbnkhmoelnfjoaaGreat
end
