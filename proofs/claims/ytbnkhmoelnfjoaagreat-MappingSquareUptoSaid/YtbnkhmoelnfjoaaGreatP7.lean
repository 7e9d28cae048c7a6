/- Part. -/
import Derived.Test.YtbnkhmoelnfjoaaGreatP6
import Derived.Test.YtbnkhmoelnfjoaaGreatP4
set_option linter.all false
set_option maxRecDepth 100000
open List renaming length->O,take->C',drop->B',replicate->Va
open Option renaming some->V,none->A,bind->M
open Bool renaming true->I,false->U
open Go.Proofs.YtbnkhmoelnfjoaaGreat.af renaming mk->EY
open Go.Proofs.YtbnkhmoelnfjoaaGreat.ah renaming mk->Jl
open Decidable renaming decide->A'
open Go.Proofs.YtbnkhmoelnfjoaaGreat.aJ renaming mk->MH
open Int renaming toNat->Eb,reduceBEq->Oo
open ByteArray renaming mk->NB,empty->I'
open Go.Op renaming bytesLess->Sx
open Go.IntKind renaming wrap->Hk
noncomputable section
namespace Go.Proofs.YtbnkhmoelnfjoaaGreat
open Go.bM
variable (D:Nat) (E:Int) (F:aF) (H:ah) (qr:Int) (J:af) (pp:bC) (K:aP) (ae:Int) (S:aU) (ac:gM) (aa:aF) (vQ:Nat) (ab:ah) (ak:aP) (ao:bR) (aA:Int->Int) (aD:aN) (al:Int) (aS:aj->aN->G aN) (aH:aN->aj->G aN) (Z:aj) (ad aT:bP) (aV:aN->aj->G (aN×aN)) (aI:br) (aL:aU) (aW:Nat) (aX:aN)
variable {Y:Type} {o:bP} {c e:Int} {l:gM} {r x:aU} {ip ks:aN} {f:Int->Int} {i:Nat} {q:Int->Bool} {p:aj} {rs:bz} {v:aP} {u:af} {sv:Bool}
def r7 (tc:dr):dr->aN->Bool
 |_,[]=>I
 | [],_::_=>U
 |g::gs,c::cs=>match idx tc c with|none=>U|some x=>x.aB==g.aB&&r7 tc gs cs
def SC:Bool:=match idx J.ag aI.aq with|none=>U|some pu=>((O aI.L:Int)==pu.av)&&r7 ab.L pu.L aI.L
def vS (s:af) (T:ah):bR->Bool
 | []=>I
 |r::rs=>SC s T r&&vS s T rs
def allRefs (s:af):bC->Bool
 | []=>I
 |T::ts=>vS s T T.ar&&allRefs s ts
def G4 (xs:List Y) (i:Int):(i<0/\idx xs i=A)\/(¬i<0/\¬i<(O xs:Int)/\idx xs i=A)\/(¬i<0/\i<(O xs:Int)/\∃x,idx xs i=V x):=by
 by_cases h:i<0
 .exact .inl ⟨h,by unfold idx;rw[au W]⟩
 .by_cases h2:i<(O xs:Int)
  .refine .inr (.inr ⟨h,h2,xs[Eb i]' W,?_⟩)
   unfold idx;rw[ax W,bJ W]
  .exact .inr (.inl ⟨h,h2,aKy W h2⟩)
def akl (k:bC->Int->Int->bR->Int->Int->Int->bC->Int->af->ah->br->G Bool) (T pu:ah) (cs:aN) (hc:O cs<=O pu.L) (hg:O pu.L<=8) (a1:bC) (a2 a3:Int) (a4:bR) (a5 a6 a7:Int) (a8:bC) (a9:Int) (s:af) (r:br):∀(x:aN) (i m:Nat),B' i cs=x->O x<m->
  QX k m a1 a2 a3 a4 a5 a6 a7 a8 a9 cs (O cs:Int) (i:Int) s T pu r=if r7 T.L (B' i pu.L) x=I then k a1 a2 a3 a4 a5 a6 a7 a8 a9 s T r else V U
 | [],i,m+1,hd,hm=>by
  let ⟨this,hq⟩:=eu hd
  simp only[QX,aeN,hq,aR,ay,aw,r7,az]
 |c::x,i,m+1,hd,hm=>by
  let ⟨g1,g2,g3,hq⟩:=dN hd
  have cT:i<O pu.L:=by omega
  have hgi:pu.L[i]? =V pu.L[i]:=bJ cT;have hdr:B' i pu.L=pu.L[i]::B' (i+1) pu.L:=tE cT;generalize pu.L[i]=g at hgi hdr;have ih:=akl k T pu cs hc hg a1 a2 a3 a4 a5 a6 a7 a8 a9 s r x (i+1) m g2 (by simp at hm;omega)
  simp only[QX,aeN,hq,aO,az,bh,g1,hgi,ai,bS g3 W,ih]
  rw[hdr];simp only[r7];rcases G4 T.L c with ⟨h1,h2⟩|⟨h1,h3,h2⟩|⟨h1,h3,y,h2⟩
  .simp only[h1,h2,aO,az,ay,aw]
  .simp only[h1,h2,h3,aR,gb,az,ay,aw]
  .simp only[h1,h2,h3,aR,aO,cO,ay,aw,ai];by_cases h4:y.aB=g.aB
   .simp[h4]
   .simp[h4]
 |_,_,0,_,hm=>by simp at hm
def akk (k:bC->Int->Int->af->G Bool) (s:af) (hs:∀t pu,idx s.ag t=V pu->fP pu) (T:ah) (rs:bR) (hl:O rs<=8) (a1:bC) (a2 a3:Int):∀(x:bR) (i m:Nat),B' i rs=x->O x+100<m->
  Mb k m a1 a2 a3 rs (O rs:Int) (i:Int) s T=if vS s T x=I then k a1 a2 a3 s else V U
 | [],i,m+1,hd,hm=>by
  let ⟨this,hq⟩:=eu hd
  simp only[Mb,aeL,hq,aR,ay,aw,vS,az]
 |r::x,i,m+1,hd,hm=>by
  let ⟨g1,g2,g3,hq⟩:=dN hd
  simp at hm;have ih:=akk k s hs T rs hl a1 a2 a3 x (i+1) m g2 W
  simp only[Mb,aeL,hq,aO,az,bh,g1,ai,vS,SC];rcases G4 s.ag r.aq with ⟨h1,h2⟩|⟨h1,h3,h2⟩|⟨h1,h3,pu,h2⟩
  .simp only[h1,h2,aO,az,ig,ay,aw]
  .simp only[h1,h2,h3,aR,gb,az,ig,ay,aw]
  .have hG:=hs _ _ h2;have k2:=hG.iA;have k3:=hG.cols;simp only[h1,h2,h3,aR,aO,cO,ay,aw,ai];by_cases h4:(O r.L:Int)=pu.av
   .have e:((O r.L:Int) !=pu.av)=U:=by simp[h4]
    have e':((O r.L:Int)==pu.av)=I:=by simp[h4]
    have jJ:=akl (aeM (Mb k m) m) T pu r.L W k3 a1 a2 a3 rs (O rs:Int) ↑i r.aq s.ag (O s.ag:Int) s r r.L 0 m rfl W
    rw[show ((0:Nat):Int)=0 from rfl,oQ] at jJ;simp only[e,e',ay,aw,jJ,aeM,bS g3 W,ih,jj]
    rcases lQ (r7 T.L pu.L r.L) with hv|hv<;>simp only[hv,az,jj,ig,ay,aw]
   .have e:((O r.L:Int) !=pu.av)=I:=by simpa using h4
    have e':((O r.L:Int)==pu.av)=U:=by simpa using h4
    simp only[e,e',az,ig,ay,aw]
 |_,_,0,_,hm=>by simp at hm
def akj (n0:Nat) (s:af) (hs:∀t pu,idx s.ag t=V pu->fP pu) (ts:bC) (hl:O ts<=8) (hr:∀T∈ts,O T.ar<=4):∀(x:bC) (i m:Nat),B' i ts=x->O x+200<m->
  Ma (Wa n0) m ts (O ts:Int) (i:Int) s=V (allRefs s x)
 | [],i,m+1,hd,hm=>by
  let ⟨this,hq⟩:=eu hd
  simp only[Ma,aeJ,Wa,hq,aR,ay,aw,allRefs]
 |T::x,i,m+1,hd,hm=>by
  let ⟨g1,g2,g3,hq⟩:=dN hd
  simp at hm;have hT:=hr T (bF g1);have ih:=akj n0 s hs ts hl hr x (i+1) m g2 W
  have jJ:=akk (aeK (Ma (Wa n0) m) m) s hs T T.ar W ts (O ts:Int) ↑i T.ar 0 m rfl W
  rw[show ((0:Nat):Int)=0 from rfl] at jJ;simp only[Ma,aeJ,hq,aO,az,bh,g1,ai,jJ,aeK,bS g3 W,ih,allRefs]
  rcases lQ (vS s T T.ar) with hv|hv<;>simp only[hv,az,jj,ig,ay,aw]
 |_,_,0,_,hm=>by simp at hm
def aRA (hs:∀t pu,idx J.ag t=V pu->fP pu) (hl:O J.ag<=8) (hr:∀T∈J.ag,O T.ar<=4) (hn:1000<D):F44 D J=V (allRefs J J.ag):=
 akj D J hs J.ag hl hr J.ag 0 D rfl W
def acM (k:bR->Int->Int->Int->bC->Int->aN->Int->bC->Int->ah->ah->Int->af->ah->br->G Bool) (s:af) (T pu:ah) (r:br) (hG:idx s.ag r.aq=V pu) (cs:aN) (hc:O cs<=O pu.L) (hg:O pu.L<=8) (a1:bR) (a2 a3 a4:Int) (a5:bC) (a6:Int) (a7:aN) (a8:Int) (a9:bC) (OL:Int) (a11 a12:ah) (a13:Int):∀(x:aN) (i m:Nat),B' i cs=x->O x<m->
  J8 k m a1 a2 a3 a4 a5 a6 a7 a8 a9 OL a11 a12 a13 cs (O cs:Int) (i:Int) s T r=if r7 T.L (B' i pu.L) x=I then k a1 a2 a3 a4 a5 a6 a7 a8 a9 OL a11 a12 a13 s T r else V U
 | [],i,m+1,hd,hm=>by
  let ⟨this,hq⟩:=eu hd
  simp only[J8,Xx,hq,aR,ay,aw,r7,az]
 |c::x,i,m+1,hd,hm=>by
  let ⟨g1,g2,g3,hq⟩:=dN hd
  have cT:i<O pu.L:=by omega
  have hgi:pu.L[i]? =V pu.L[i]:=bJ cT;have hdr:B' i pu.L=pu.L[i]::B' (i+1) pu.L:=tE cT;generalize pu.L[i]=g at hgi hdr;have ih:=acM k s T pu r hG cs hc hg a1 a2 a3 a4 a5 a6 a7 a8 a9 OL a11 a12 a13 x (i+1) m g2 (by simp at hm;omega)
  simp only[J8,Xx,hq,aO,az,bh,g1,hG,hgi,ai,bS g3 W,ih]
  rw[hdr];simp only[r7];rcases G4 T.L c with ⟨h1,h2⟩|⟨h1,h3,h2⟩|⟨h1,h3,y,h2⟩
  .simp only[h1,h2,aO,az,ay,aw]
  .simp only[h1,h2,h3,aR,gb,az,ay,aw]
  .simp only[h1,h2,h3,aR,aO,cO,ay,aw,ai];by_cases h4:y.aB=g.aB
   .simp[h4]
   .simp[h4]
 |_,_,0,_,hm=>by simp at hm
def acL (n0:Nat) (s:af) (hs:∀t pu,idx s.ag t=V pu->fP pu) (T:ah) (rs:bR) (hl:O rs<=8):∀(x:bR) (i m:Nat),B' i rs=x->O x+100<m->
  Gt (Pd n0) m rs (O rs:Int) (i:Int) s T=V (vS s T x)
 | [],i,m+1,hd,hm=>by
  let ⟨this,hq⟩:=eu hd
  simp only[Gt,Xv,Pd,hq,aR,ay,aw,vS]
 |r::x,i,m+1,hd,hm=>by
  let ⟨g1,g2,g3,hq⟩:=dN hd
  simp at hm;have ih:=acL n0 s hs T rs hl x (i+1) m g2 W
  simp only[Gt,Xv,hq,aO,az,bh,g1,ai,vS,SC];rcases G4 s.ag r.aq with ⟨h1,h2⟩|⟨h1,h3,h2⟩|⟨h1,h3,pu,h2⟩
  .simp only[h1,h2,aO,az,ig]
  .simp only[h1,h2,h3,aR,gb,az,ig,ay,aw]
  .have hG:=hs _ _ h2;have k2:=hG.iA;have k3:=hG.cols;simp only[h1,h2,h3,aR,aO,cO,ay,aw,ai];by_cases h4:(O r.L:Int)=pu.av
   .have e:((O r.L:Int) !=pu.av)=U:=by simp[h4]
    have e':((O r.L:Int)==pu.av)=I:=by simp[h4]
    have jJ:=acM (Xw (Gt (Pd n0) m) m) s T pu r h2 r.L W k3 rs (O rs:Int) ↑i r.aq s.ag (O s.ag:Int) r.L (O r.L:Int) s.ag r.aq pu pu pu.av r.L 0 m rfl W
    rw[show ((0:Nat):Int)=0 from rfl,oQ] at jJ;simp only[e,e',ay,aw,jJ,Xw,bS g3 W,ih,jj]
    rcases lQ (r7 T.L pu.L r.L) with hv|hv<;>simp only[hv,az,jj,ig,ay,aw]
   .have e:((O r.L:Int) !=pu.av)=I:=by simpa using h4
    have e':((O r.L:Int)==pu.av)=U:=by simpa using h4
    simp only[e,e',az,ig]
 |_,_,0,_,hm=>by simp at hm
def aLt (hs:∀t pu,idx J.ag t=V pu->fP pu) (i:Nat) (T:ah) (hT:J.ag[i]? =V T) (hr:O T.ar<=4) (hn:1000<D):Ty D J (i:Int)=V (vS J T T.ar):=by
 unfold Ty amw;simp only[bh,hT,ai];exact acL D J hs T T.ar W T.ar 0 D rfl W
def uP (ks:aN):bA->Int
 | []=>0
 |p::ps=>if vL ks [] p=0 then uP ks ps else vL ks [] p
def Du:bC->Int
 | []=>0
 |T::ts=>if uP (db T) T.aM=0 then Du ts else uP (db T) T.aM
def aku (k:bC->Int->Int->af->G Int) (ks:aN) (hk:O ks<=8) (s:af) (ps:bA) (hl:O ps<=4) (hp:∀p∈ps,gL p<=1500000) (a1:bC) (a2 a3:Int):∀(x:bA) (i m:Nat),B' i ps=x->O x+1500000<m->m<4294967296->
  Rc k m ks a1 a2 a3 ps (O ps:Int) (i:Int) s=if uP ks x=0 then k a1 a2 a3 s else V (uP ks x)
 | [],i,m+1,hd,hm,tX=>by
  let ⟨this,hq⟩:=eu hd
  simp only[Rc,ZS,hq,aR,ay,aw,uP,az]
 |p::x,i,m+1,hd,hm,tX=>by
  let ⟨g1,g2,g3,hq⟩:=dN hd
  simp at hm;have ih:=aku k ks hk s ps hl hp a1 a2 a3 x (i+1) m g2 W W
  have hpp:=hp p (bF g1);simp only[Rc,ZS,hq,aO,az,bh,g1,ai,aRz m ks [] p W ap W W,bS g3 W,ih,uP]
  by_cases h:vL ks [] p=0
  .simp only[h,iw,ay,aw,az]
  .have:(vL ks [] p !=0)=I:=by simpa using h
   simp only[h,this,az,aw]
 |_,_,0,_,hm,_=>by simp at hm
def akd (k:Int->Int->af->G Int) (T:ah) (s:af) (t:Int) (hT:idx s.ag t=V T) (hk:O T.L<=8) (ps:bA) (hl:O ps<=4) (hp:∀p∈ps,gL p<=1500000) (a1 a2:Int):∀(x:bA) (i m:Nat),B' i ps=x->O x+1500000<m->m<4294967296->
  QL k m t a1 a2 ps (O ps:Int) (i:Int) s=if uP (db T) x=0 then k a1 a2 s else V (uP (db T) x)
 | [],i,m+1,hd,hm,tX=>by
  let ⟨this,hq⟩:=eu hd
  simp only[QL,Zx,hq,aR,ay,aw,uP,az]
 |p::x,i,m+1,hd,hm,tX=>by
  let ⟨g1,g2,g3,hq⟩:=dN hd
  simp at hm;have ih:=akd k T s t hT hk ps hl hp a1 a2 x (i+1) m g2 W W
  have hpp:=hp p (bF g1);have xU:=kK T;simp only[QL,Zx,hq,aO,az,bh,g1,ai,VO hT W (W:1000<m),aqS m (db T) [] p W ap W W,bS g3 W,ih,uP]
  by_cases h:vL (db T) [] p=0
  .simp only[h,iw,ay,aw,az]
  .have:(vL (db T) [] p !=0)=I:=by simpa using h
   simp only[h,this,az,aw]
 |_,_,0,_,hm,_=>by simp at hm
def xD:Bool:=A' (O H.L<=8)&&(A' (O H.ar<=4)&&A' (O H.aM<=4))
def sW {T:ah} (h:xD T=I):O T.L<=8/\O T.ar<=4/\O T.aM<=4:=by simpa[xD] using h
def Cq:Prop:=∀p∈H.aM,gL p<=1500000
def akt (n0:Nat) (s:af) (hl:O s.ag<=8) (hb:∀T∈s.ag,xD T=I) (hz:∀T∈s.ag,Cq T):∀(x:bC) (i m:Nat),B' i s.ag=x->O x+1500010<m->m<4294967296->
  Mk (WY n0) m s.ag (O s.ag:Int) (i:Int) s=V (Du x)
 | [],i,m+1,hd,hm,tX=>by
  let ⟨this,hq⟩:=eu hd
  simp only[Mk,ZU,WY,hq,aR,ay,aw,Du]
 |T::x,i,m+1,hd,hm,tX=>by
  let ⟨g1,g2,g3,hq⟩:=dN hd
  simp at hm;have FF:=bF g1;let ⟨b1,b2,b3⟩:=sW (hb T FF);have hT:idx s.ag (i:Int)=V T:=by rw[bh];exact g1
  have xU:=kK T;have ih:=akt n0 s hl hb hz x (i+1) m g2 W W
  have jJ:=aku (ZT (Mk (WY n0) m) m) (db T) W s T.aM b3 (hz T FF) s.ag (O s.ag:Int) ↑i T.aM 0 m rfl W W
  rw[show ((0:Nat):Int)=0 from rfl] at jJ;simp only[Mk,ZU,hq,aO,az,hT,ai,akB hT W (W:1000<m),jJ,ZT,bS g3 W,ih,Du]
  by_cases h:uP (db T) T.aM=0
  .simp only[h,az]
  .simp only[h,aw]
 |_,_,0,_,hm,_=>by simp at hm
def akc (n0:Nat) (s:af) (hl:O s.ag<=8) (hb:∀T∈s.ag,xD T=I) (hz:∀T∈s.ag,Cq T):∀(x:bC) (i m:Nat),B' i s.ag=x->O x+1500010<m->m<4294967296->
  L7 (VX n0) m (O s.ag:Int) (i:Int) s=V (Du x)
 | [],i,m+1,hd,hm,tX=>by
  let ⟨this,hq⟩:=eu hd
  simp only[L7,Zz,VX,hq,aR,ay,aw,Du]
 |T::x,i,m+1,hd,hm,tX=>by
  let ⟨g1,g2,g3,hq⟩:=dN hd
  simp at hm;have FF:=bF g1;let ⟨b1,b2,b3⟩:=sW (hb T FF);have hT:idx s.ag (i:Int)=V T:=by rw[bh];exact g1
  have ih:=akc n0 s hl hb hz x (i+1) m g2 W W
  have jJ:=akd (Zy (L7 (VX n0) m) m) T s ↑i hT b1 T.aM b3 (hz T FF) (O s.ag:Int) ↑i T.aM 0 m rfl W W
  rw[show ((0:Nat):Int)=0 from rfl] at jJ;simp only[L7,Zz,hq,aO,az,hT,ai,jJ,Zy,bS g3 W,ih,Du]
  by_cases h:uP (db T) T.aM=0
  .simp only[h,az]
  .simp only[h,aw]
 |_,_,0,_,hm,_=>by simp at hm
def akv (k:af->G Int) (s:af) (ts:bC) (hl:O ts<=8):∀(x:bC) (i m:Nat),B' i ts=x->O x<m->Re k m ts (O ts:Int) (i:Int) s=if x.all xD=I then k s else V 2
 | [],i,m+1,hd,hm=>by
  let ⟨this,hq⟩:=eu hd
  simp only[Re,ZR,hq,aR,ay,aw,List.all_nil,az]
 |T::x,i,m+1,hd,hm=>by
  let ⟨g1,g2,g3,hq⟩:=dN hd
  have ih:=akv k s ts hl x (i+1) m g2 (by simp at hm;omega)
  simp only[Re,ZR,hq,aO,az,bh,g1,ai,bS g3 W,ih,rZ,xD]
  by_cases h1:O T.L<=8
  .have e1:¬(8:Int)<(O T.L:Int):=by omega
   by_cases h2:O T.ar<=4
   .have e2:¬(4:Int)<(O T.ar:Int):=by omega
    by_cases h3:O T.aM<=4
    .have e3:¬(4:Int)<(O T.aM:Int):=by omega
     simp only[h1,h2,h3,e1,e2,e3,aO,aR,ay,aw,qN,jj]
    .have e3:(4:Int)<(O T.aM:Int):=by omega
     simp only[h1,h2,h3,e1,e2,e3,aO,aR,ay,aw,az,yP,ig]
   .have e2:(4:Int)<(O T.ar:Int):=by omega
    simp only[h1,h2,e1,e2,aO,aR,ay,aw,az,yP,ig]
  .have e1:(8:Int)<(O T.L:Int):=by omega
   simp only[h1,e1,aO,aR,ay,aw,az,ig]
 |_,_,0,_,hm=>by simp at hm
def akg (k:af->G Int) (s:af) (ts:bC) (hl:O ts<=8):∀(x:bC) (i m:Nat),B' i ts=x->O x<m->QO k m ts (O ts:Int) (i:Int) s=if x.all xD=I then k s else V 2
 | [],i,m+1,hd,hm=>by
  let ⟨this,hq⟩:=eu hd
  simp only[QO,Zu,hq,aR,ay,aw,List.all_nil,az]
 |T::x,i,m+1,hd,hm=>by
  let ⟨g1,g2,g3,hq⟩:=dN hd
  have ih:=akg k s ts hl x (i+1) m g2 (by simp at hm;omega)
  simp only[QO,Zu,hq,aO,az,bh,g1,ai,bS g3 W,ih,rZ,xD]
  by_cases h1:O T.L<=8
  .have e1:¬(8:Int)<(O T.L:Int):=by omega
   by_cases h2:O T.ar<=4
   .have e2:¬(4:Int)<(O T.ar:Int):=by omega
    by_cases h3:O T.aM<=4
    .have e3:¬(4:Int)<(O T.aM:Int):=by omega
     simp only[h1,h2,h3,e1,e2,e3,aO,aR,ay,aw,qN,jj]
    .have e3:(4:Int)<(O T.aM:Int):=by omega
     simp only[h1,h2,h3,e1,e2,e3,aO,aR,ay,aw,az,yP,ig]
   .have e2:(4:Int)<(O T.ar:Int):=by omega
    simp only[h1,h2,e1,e2,aO,aR,ay,aw,az,yP,ig]
  .have e1:(8:Int)<(O T.L:Int):=by omega
   simp only[h1,e1,aO,aR,ay,aw,az,ig]
 |_,_,0,_,hm=>by simp at hm
def akf (k:af->G Int) (s:af) (hl:O s.ag<=8) (hc:∀T∈s.ag,xD T=I):∀(x:bC) (i m:Nat),B' i s.ag=x->O x+2000<m->QN k m (O s.ag:Int) (i:Int) s=if th ((C' i s.ag).map (·.aK)) x=I then k s else V 70
 | [],i,m+1,hd,hm=>by
  let ⟨this,hq⟩:=eu hd
  simp only[QN,Zv,hq,aR,ay,aw,th,az]
 |T::x,i,m+1,hd,hm=>by
  let ⟨g1,g2,g3,hq⟩:=dN hd
  simp at hm;have ih:=akf k s hl hc x (i+1) m g2 W
  rw[IN,g1] at ih;simp only[Er,ky,j2,wa] at ih;simp only[QN,Zv,hq,aO,az,aLu m s hl i T g1 (sW (hc T (bF g1))).1 W,ai,bS g3 W,ih,th]
  rcases lQ (R9 ((C' i s.ag).map (·.aK)) T) with hv|hv<;>simp only[hv,cO,gb,ay,az,aw,jj,ig]
 |_,_,0,_,hm=>by simp at hm
def ake (k:af->G Int) (s:af) (hs:∀t pu,idx s.ag t=V pu->fP pu) (hl:O s.ag<=8) (hc:∀T∈s.ag,xD T=I):∀(x:bC) (i m:Nat),B' i s.ag=x->O x+2000<m->QM k m (O s.ag:Int) (i:Int) s=if allRefs s x=I then k s else V 70
 | [],i,m+1,hd,hm=>by
  let ⟨this,hq⟩:=eu hd
  simp only[QM,Zw,hq,aR,ay,aw,allRefs,az]
 |T::x,i,m+1,hd,hm=>by
  let ⟨g1,g2,g3,hq⟩:=dN hd
  simp at hm;have ih:=ake k s hs hl hc x (i+1) m g2 W
  simp only[QM,Zw,hq,aO,az,aLt m s hs i T g1 (sW (hc T (bF g1))).2.1 W,ai,bS g3 W,ih,allRefs]
  rcases lQ (vS s T T.ar) with hv|hv<;>simp only[hv,cO,gb,ay,az,aw,jj,ig]
 |_,_,0,_,hm=>by simp at hm
def fo:Int:=
 if 8<O J.ag then 2
 else if J.ag.all xD=I then
  (if J.aC<0 then 70 else if 1000<J.aC then 70
   else if th [] J.ag=I then (if allRefs J J.ag=I then Du J.ag else 70) else 70)
 else 2
def asI {s:af} (hb:∀T∈s.ag,xD T=I) (h:th [] s.ag=I):∀t pu,idx s.ag t=V pu->fP pu:=λt pu hG=>
 aiI (λT hT=>(sW (hb T hT)).1) h pu (bF (Fw hG).2.2)
structure nF (s:af):Prop where
 len:s.ag.length<=8
 bG:∀t T,idx s.ag t=V T->fP T
def mW {s:af} (h:fo s=0):nF s:=by
 unfold fo at h;split at h
 .cases h
 .rename_i h8;split at h
  .rename_i hb;rw[jR] at hb;split at h
   .cases h
   .split at h
    .cases h
    .split at h
     .rename_i ht;exact ⟨W,asI hb ht⟩
     .cases h
  .cases h
def VQ (hz:∀T∈J.ag,Cq T) (hn:1600000<D) (fB:D<4294967296):Kq D J=V (fo J):=by
 unfold Kq awA fo;by_cases h8:8<O J.ag
 .have:(8:Int)<(O J.ag:Int):=by omega
  simp only[h8,this,aO,az]
 .have h8':¬(8:Int)<(O J.ag:Int):=by omega
  have h0:=akv (ZV D) J J.ag W J.ag 0 D rfl W
  rw[show ((0:Nat):Int)=0 from rfl] at h0;simp only[h8,h8',aR,ay,aw,h0];by_cases hb:J.ag.all xD=I
  .simp only[hb,az,ZV];have lL:=jR.1 hb;by_cases v1:J.aC<0
   .simp only[v1,aO,az]
   .by_cases v2:1000<J.aC
    .simp only[v1,v2,aO,aR,ay,aw,az]
    .simp only[v1,v2,aR,ay,aw,aRB D J W (λT hT=>(sW (lL T hT)).1) W,ai]
     by_cases ht:th [] J.ag=I
     .simp only[ht,cO,ay,aw,az,aRA D J (asI lL ht) W (λT hT=>(sW (lL T hT)).2.1) W,ai]
      by_cases hr:allRefs J J.ag=I
      .have h3:=akt D J W lL hz J.ag 0 D rfl W fB
       rw[show ((0:Nat):Int)=0 from rfl] at h3;simp only[hr,cO,ay,aw,az,h3]
      .simp only[hr,afD] at hr ⊢;simp[hr]
     .have ht':th [] J.ag=U:=by simpa using ht
      simp[ht']
  .simp only[hb,aw,ay]
def Kn (hz:∀T∈J.ag,Cq T) (hn:1600000<D) (fB:D<4294967296):F94 D J=V (fo J):=by
 unfold F94 alo fo;by_cases h8:8<O J.ag
 .have:(8:Int)<(O J.ag:Int):=by omega
  simp only[h8,this,aO,az]
 .have h8':¬(8:Int)<(O J.ag:Int):=by omega
  have h0:=akg (wM D) J J.ag W J.ag 0 D rfl W
  rw[show ((0:Nat):Int)=0 from rfl] at h0;simp only[h8,h8',aR,ay,aw,h0];by_cases hb:J.ag.all xD=I
  .simp only[hb,az,wM];have lL:=jR.1 hb;by_cases v1:J.aC<0
   .simp only[v1,aO,az]
   .by_cases v2:1000<J.aC
    .simp only[v1,v2,aO,aR,ay,aw,az]
    .have h1:=akf (vo D) J W lL J.ag 0 D rfl W
     rw[show ((0:Nat):Int)=0 from rfl,zn,wa] at h1;simp only[v1,v2,aR,ay,aw,h1];by_cases ht:th [] J.ag=I
     .have h2:=ake (pM D) J (asI lL ht) W lL J.ag 0 D rfl W
      rw[show ((0:Nat):Int)=0 from rfl] at h2;simp only[ht,az,vo,h2];by_cases hr:allRefs J J.ag=I
      .have h3:=akc D J W lL hz J.ag 0 D rfl W fB
       rw[show ((0:Nat):Int)=0 from rfl] at h3;simp only[hr,az,pM,h3]
      .simp only[hr,aw,ay]
     .simp only[ht,aw,ay]
  .simp only[hb,aw,ay]
def nJ (r2 r3:bR) (ch:bA):bC:=
 [⟨NB #[112,114,111,106,101,99,116,115],[⟨NB #[105,100],4⟩,⟨NB #[111,119,110,101,114],4⟩],1,[],[]⟩,
  ⟨NB #[116,97,115,107,115],[⟨NB #[105,100],E⟩,⟨NB #[112,114,111,106,101,99,116],4⟩,⟨NB #[116,105,116,108,101],5⟩,⟨NB #[100,111,110,101],3⟩],1,ao,ch⟩,
  ⟨NB #[109,101,109,98,101,114,115],[⟨NB #[112,114,111,106,101,99,116],4⟩,⟨NB #[112,101,114,115,111,110],4⟩],2,r2,[]⟩,
  ⟨NB #[97,114,99,104,105,118,101,100],[⟨NB #[116,97,115,107],E⟩],1,r3,[]⟩]
structure De (v id:Int) (k:Nat) (r1 r2 r3:bR) (ch:bA):Prop where
 v0:0<=v
 v1:v<=2
 jA:id=4\/id=5
 hk:k=2\/k=3\/k=4
 h1:r1= []\/r1= [⟨[1],0⟩]
 h2:r2= []\/r2= [⟨[0],0⟩]
 h3:r3= []\/r3= [⟨[0],1⟩]
 hc:ch.length<=1/\uP [id,4,5,3] ch=0/\∀p∈ch,gL p<=119
def OV (s:af):Prop:=∃v id k r1 r2 r3 ch,De v id k r1 r2 r3 ch/\s=⟨v,C' k (nJ id r1 r2 r3 ch)⟩
def OV.kS {s:af} (h:OV s):fo s=0:=by
 obtain ⟨v,id,k,r1,r2,r3,ch,⟨v0,v1,jA,hk,h1,h2,h3,MU,hc,_⟩,rfl⟩:=h;have e1:¬8<O (C' k (nJ id r1 r2 r3 ch)):=by rw[dv];simp[nJ];omega
 have e2:(C' k (nJ id r1 r2 r3 ch)).all xD=I:=by
  have hr1:O r1<=4:=by rcases h1 with rfl|rfl<;>simp
  have hr2:O r2<=4:=by rcases h2 with rfl|rfl<;>simp
  have hr3:O r3<=4:=by rcases h3 with rfl|rfl<;>simp
  have pb:O ch<=4:=by omega
  rcases hk with rfl|rfl|rfl<;>simp[nJ,xD,hr1,hr2,hr3,pb]
 have e3:th [] (C' k (nJ id r1 r2 r3 ch))=I:=by
  rcases jA with rfl|rfl<;>rcases hk with rfl|rfl|rfl<;>kernel_rfl
 have e4:allRefs ⟨v,C' k (nJ id r1 r2 r3 ch)⟩ (C' k (nJ id r1 r2 r3 ch))=I:=by
  rcases jA with rfl|rfl<;>rcases hk with rfl|rfl|rfl<;>rcases h1 with rfl|rfl<;>rcases h2 with rfl|rfl<;>rcases h3 with rfl|rfl<;>kernel_rfl
 have e5:Du (C' k (nJ id r1 r2 r3 ch))=0:=by
  rcases hk with rfl|rfl|rfl<;>simp[nJ,Du,uP,db,hc]
 unfold fo;simp only[e1,e2,e3,e4,e5,aw,az,show ¬v<0 by omega,show ¬1000<v by omega]
def avr (hn:2000<=D) (fB:D<4294967296) (c:aG) (hc:cL c) (z:af) (v id:Int) (k:Nat) (r1 r2 r3:bR) (h:De v id k r1 r2 r3 []) (ts:bC) (mU:ts=C' k (nJ id r1 r2 r3 [])) (b5:af) (Hc:b5.aC=v):
  Ok (My D c z b5 ts) λr=>cL r.2/\OV r.1:=by
 unfold My;refine Ok.bind (qx D c 3 hc) λb hb=> ?_
 refine Ok.ite (λ_=> ?_) λ_=>Ok.pure ⟨hb,v,id,k,r1,r2,r3,[],h,by rw[Hc,mU]⟩
 have hT:idx (EY b5.aC ts).ag 1=V ⟨NB #[116,97,115,107,115],[⟨NB #[105,100],id⟩,⟨NB #[112,114,111,106,101,99,116],4⟩,⟨NB #[116,105,116,108,101],5⟩,⟨NB #[100,111,110,101],3⟩],1,r1,[]⟩:=by
  rw[mU];rcases h.hk with rfl|rfl|rfl<;>rfl
 rw[VO hT am W,ai]
 have CN:mI [id,4,5,3]=I:=by rcases h.jA with rfl|rfl<;>rfl
 refine Ok.bind (aRs [id,4,5,3] [] CN rfl am am 1 D b.2 hb W fB W W) λp ⟨hp,p0,pz⟩=> ?_
 have e1:eT (O ts) 1=V 1:=by rw[mU];rcases h.hk with rfl|rfl|rfl<;>rfl
 have e2:ts[0+1]? =V ⟨NB #[116,97,115,107,115],[⟨NB #[105,100],id⟩,⟨NB #[112,114,111,106,101,99,116],4⟩,⟨NB #[116,105,116,108,101],5⟩,⟨NB #[100,111,110,101],3⟩],1,r1,[]⟩:=by
  rw[mU];rcases h.hk with rfl|rfl|rfl<;>rfl
 rw[e1,ai,e2,ai];have e3:setAt ts (0+1) ⟨NB #[116,97,115,107,115],[⟨NB #[105,100],id⟩,⟨NB #[112,114,111,106,101,99,116],4⟩,⟨NB #[116,105,116,108,101],5⟩,⟨NB #[100,111,110,101],3⟩],1,r1,[p.1]⟩=V (C' k (nJ id r1 r2 r3 [p.1])):=by
  rw[mU];rcases h.hk with rfl|rfl|rfl<;>rfl
 rw[e3,ai];exact Ok.pure ⟨hp,v,id,k,r1,r2,r3,[p.1],⟨h.v0,h.v1,h.jA,h.hk,h.h1,h.h2,h.h3,am,by simp[uP,p0],by simpa using pz⟩,by rw[Hc]⟩
def Mx (hn:2000<=D) (fB:D<4294967296) (c:aG) (hc:cL c) (z:af) (v id:Int) (k:Nat) (r1 r2:bR) (h:De v id k r1 r2 [] []) (ts:bC) (mU:ts=C' k (nJ id r1 r2 [] [])) (b5:af) (Hc:b5.aC=v):
  Ok (HM D (k:Int) c z b5 ts) λr=>cL r.2/\OV r.1:=by
 unfold HM;refine Ok.ite (λhk=> ?_) λ_=>avr D hn fB c hc _ v id k r1 r2 [] h ts mU _ Hc
 have hk:k=4:=by have:=h.hk;simp at hk;omega
 subst hk;refine Ok.bind (qx D c 3 hc) λb hb=> ?_
 refine Ok.ite (λ_=> ?_) λ_=>avr D hn fB b.2 hb _ v id 4 r1 r2 [] h ts mU _ Hc
 subst mU;show Ok (My D b.2 ⟨0,[]⟩ ⟨b5.aC,C' 4 (nJ id r1 r2 [⟨[0],1⟩] [])⟩ (C' 4 (nJ id r1 r2 [⟨[0],1⟩] []))) _;exact avr D hn fB b.2 hb _ v id 4 r1 r2 [⟨[0],1⟩] {h with h3:=.inr rfl} _ rfl _ Hc
def alv (hn:2000<=D) (fB:D<4294967296) (c:aG) (hc:cL c) (z:af) (v id:Int) (k:Nat) (r1:bR) (h:De v id k r1 [] [] []) (ts:bC) (mU:ts=C' k (nJ id r1 [] [] [])) (b5:af) (Hc:b5.aC=v):
  Ok (Mw D (k:Int) c z b5 ts) λr=>cL r.2/\OV r.1:=by
 unfold Mw;refine Ok.ite (λhk=> ?_) λ_=>Mx D hn fB c hc _ v id k r1 [] h ts mU _ Hc
 refine Ok.bind (qx D c 3 hc) λb hb=> ?_
 refine Ok.ite (λ_=> ?_) λ_=>Mx D hn fB b.2 hb _ v id k r1 [] h ts mU _ Hc
 subst mU;have hk:k=3\/k=4:=by have:=h.hk;simp at hk;omega
 rcases hk with rfl|rfl
 .show Ok (HM D (3:Nat) b.2 ⟨0,[]⟩ ⟨b5.aC,C' 3 (nJ id r1 [⟨[0],0⟩] [] [])⟩ (C' 3 (nJ id r1 [⟨[0],0⟩] [] []))) _;exact Mx D hn fB b.2 hb _ v id 3 r1 [⟨[0],0⟩] {h with h2:=.inr rfl} _ rfl _ Hc
 .show Ok (HM D (4:Nat) b.2 ⟨0,[]⟩ ⟨b5.aC,C' 4 (nJ id r1 [⟨[0],0⟩] [] [])⟩ (C' 4 (nJ id r1 [⟨[0],0⟩] [] []))) _;exact Mx D hn fB b.2 hb _ v id 4 r1 [⟨[0],0⟩] {h with h2:=.inr rfl} _ rfl _ Hc
def alu (hn:2000<=D) (fB:D<4294967296) (c:aG) (hc:cL c) (z:af) (id:Int) (jA:id=4\/id=5) (k:Nat) (hk:k=2\/k=3\/k=4):
  Ok (Wf D (k:Int) id c z) λr=>cL r.2/\OV r.1:=by
 unfold Wf;refine Ok.bind (kg D c 3 hc) λv ⟨hv,v0,v1,_⟩=> ?_
 have v1:=v1 W
 simp only[Gz,avI,ai];have h:∀r1,(r1= []\/r1= [⟨[1],0⟩])->De v.1 id k r1 [] [] []:=λr1 h1=>⟨v0,W,jA,hk,h1,.inl rfl,.inl rfl,am,rfl,am⟩
 have e0:ou 4 (k:Int)=V k:=by unfold ou;rw[ax W];rfl
 rw[e0,ai];refine Ok.bind (qx D v.2 2 hv) λb hb=> ?_
 refine Ok.ite (λ_=> ?_) λ_=> ?_
 rotate_left
 .show Ok (Mw D ↑k b.2 ⟨0,[]⟩ ⟨v.1,C' k (nJ id [] [] [] [])⟩ (C' k (nJ id [] [] [] []))) _;exact alv D hn fB b.2 hb _ v.1 id k [] (h [] (.inl rfl)) _ rfl _ rfl
 have e1:eT k 1=V 1:=by rcases hk with rfl|rfl|rfl<;>rfl
 rw[e1,ai];show Ok (Mw D ↑k b.2 ⟨0,[]⟩ ⟨v.1,C' k (nJ id [⟨[1],0⟩] [] [] [])⟩ (C' k (nJ id [⟨[1],0⟩] [] [] []))) _;exact alv D hn fB b.2 hb _ v.1 id k [⟨[1],0⟩] (h _ (.inr rfl)) _ rfl _ rfl
def aRF (hn:2000<=D) (fB:D<4294967296) (c:aG) (hc:cL c):Ok (F38 D c) λr=>cL r.2/\OV r.1:=by
 unfold F38 awo;refine Ok.bind (kg D c 3 hc) λv ⟨hv,v0,v1,_⟩=> ?_
 have v1:=v1 W
 have e:ba (2+v.1)=((2+Eb v.1:Nat):Int):=by rw[cR W W];omega
 rw[e];refine Ok.bind (qx D v.2 5 hv) λb hb=> ?_
 exact Ok.ite (λ_=>alu D hn fB b.2 hb _ 5 (.inr rfl) _ W) λ_=>alu D hn fB b.2 hb _ 4 (.inl rfl) _ W
def gu:Int:=if qr<0 then (if E<ae then ae-1 else ae) else if ae=E then qr else if E<qr/\E<ae/\ae<=qr then ae-1 else if qr<E/\qr<=ae/\ae<E then ae+1 else ae
def Rk (h1: -9223372036854775808<=E) (h2:E<=9223372036854775807) (h3: -9223372036854775808<=qr) (h4:qr<=9223372036854775807):Mm D E qr ae=V (gu qr ae E):=by
 have w1:qr<E->ba (E-1)=E-1:=λh=>cR W W
 have w2:E<qr->ba (E+1)=E+1:=λh=>cR W W
 unfold Mm amO wT gu;by_cases c1:ae<0
 .by_cases c2:qr<E<;>simp[c1,c2,w1]
 .by_cases c2:E=qr
  .subst c2;simp[c1]
  .by_cases c3:qr<E
   .have n1:¬E<qr:=by omega
    by_cases c4:ae<E
    .have n2:¬E<=ae:=by omega
     by_cases c5:qr<ae<;>by_cases c6:ae<qr<;>by_cases c7:E<ae<;>simp[c1,c2,c3,c4,n1,n2,c5,c6,c7]
    .have c4':E<=ae:=by omega
     have c5:qr<ae:=by omega
     simp[c1,c2,c3,c4,c4',c5,w1]
   .have c3':E<qr:=by omega
    by_cases c4:E<ae
    .have n2:¬ae<=E:=by omega
     by_cases c5:qr<ae<;>by_cases c6:ae<qr<;>simp[c1,c2,c3,c4,n2,c5,c6]
    .have c4':ae<=E:=by omega
     have c6:ae<qr:=by omega
     have c5:¬qr<ae:=by omega
     simp[c1,c2,c3,c4,c4',c5,c6,c3',w2]
def ln:bP:=if ad.aB==1 then ⟨ad.aB,aA ad.dw,ad.bp⟩ else ad
mutual
def og (f:Int->Int):aj->aj
 |⟨op,c,l,r,ge⟩=>⟨op,c,ln f l,ln f r,j0 f ge⟩
def j0 (f:Int->Int):bA->bA
 | []=> []
 |x::xs=>og f x::j0 f xs
end
def ajf (f:Int->Int):∀xs:bA,O (j0 f xs)=O xs
 | []=>by simp[j0]
 |x::xs=>by simp[j0,ajf f xs]
def ajg (f:Int->Int):∀xs:bA,j0 f xs=xs.map (og f)
 | []=>by simp[j0]
 |x::xs=>by simp[j0,ajg f xs]
mutual
def aps (f:Int->Int):∀p:aj,gL (og f p)=gL p
 |⟨op,c,l,r,ge⟩=>by simp only[og,gL,aio f ge]
def aio (f:Int->Int):∀xs:bA,mF (j0 f xs)=mF xs
 | []=>by simp[j0]
 |x::xs=>by simp only[j0,mF,aps f x,aio f xs]
end
def Di:Bool:=ad.aB !=1||(A' (0<=ad.dw)&&A' (ad.dw<E))
mutual
def pS (N:Int):aj->Bool
 |⟨op,c,l,r,ge⟩=>(if op==3 then Di N l&&Di N r else l.aB !=1&&r.aB !=1)&&NC N ge
def NC (N:Int):bA->Bool
 | []=>I
 |x::xs=>pS N x&&NC N xs
end
def aam {N:Int}:∀{xs:bA} {x:aj},NC N xs=I->x∈xs->pS N x=I
 |y::ys,x,h,hx=>by
  simp only[NC,bI] at h;rcases cU.1 hx with rfl|hx
  .exact h.1
  .exact aam h.2 hx
def aaj (h:D0 o=I):o.aB=0:=by
 simp[D0] at h;exact h.1
def abp {l r:bP} (h:mH c l r=I):l.aB=0/\r.aB=0:=by
 simp only[mH,bI] at h;exact ⟨aaj h.1.2,aaj h.2⟩
def aij {g7:aN} (h:mP ip g7 o≠0):Di (O ip) o=I:=by
 unfold Di;by_cases h1:o.aB=1
 .have h:kAt ip o≠0:=by
   unfold mP at h;simpa[h1] using h
  unfold kAt at h;split at h
  .rename_i hh;simp[h1,hh.1,hh.2.1]
  .exact absurd rfl h
 .simp[h1]
mutual
def aFT {ip g7:aN}:∀{p:aj},pV ip g7 p=I->pS (O ip) p=I
 |⟨op,c,l,r,ge⟩,h=>by
  unfold pV at h;unfold pS;by_cases h1:op=1\/op=2
  .have dd:(op==3)=U:=by rcases h1 with rfl|rfl<;>rfl
   have hb:(op==1||op==2)=I:=by rcases h1 with rfl|rfl<;>rfl
   rw[hb] at h;simp only[az,bI] at h;let ⟨k1,k2⟩:=abp h.1;have ha:ge= []:=by simpa using h.2
   rw[dd,ha];simp[k1,k2,NC]
  .have hb:(op==1||op==2)=U:=by
    rw[T4];simp;omega
   rw[hb] at h;simp only[ay,aw] at h;by_cases h3:op=3
   .subst h3;simp at h;have ha:ge= []:=h.1.1.1.1;rw[ha];have k1:=aij (ip:=ip) (g7:=g7) (o:=l) h.1.2;have k2:=aij (ip:=ip) (g7:=g7) (o:=r) (by rw[<-h.2];exact h.1.2)
    simp[k1,k2,NC]
   .have dd:(op==3)=U:=by simpa using h3
    rw[dd] at h ⊢;simp only[ay,aw] at h ⊢;have key:mH c l r=I/\sq ip g7 ge=I:=by
     split at h
     .simpa using h
     .split at h
      .simp only[bI] at h;exact h.2
      .cases h
    let ⟨k1,k2⟩:=abp key.1;rw[aoQ key.2,k1,k2];rfl
def aoQ {ip g7:aN}:∀{xs:bA},sq ip g7 xs=I->NC (O ip) xs=I
 | [],_=>by simp[NC]
 |x::xs,h=>by
  simp only[sq,bI] at h;simp only[NC,aFT h.1,aoQ h.2,qN]
end
def zb (h:o.aB≠1):ln f o=o:=by
 unfold ln;rw[au (by simpa using h)]
def aqQ:∀(n:Nat) (p:aj),gL p<=n->gL p<1000000->Ml n p=V p
 |0,⟨_,_,_,_,_⟩,h,_=>by simp[gL] at h
 |n+1,⟨op,c,l,r,ge⟩,h,hb=>by
  simp only[gL] at h hb;have li:=r4 ge;have loop:∀(k3:aj->aj->bA->G aj) (xs:bA) (i k:Nat) (b4 b5:aj),B' i ge=xs->O xs<k->
    ∃C1 C0,C0.aQ=b5.aQ/\C0.fZ=b5.fZ/\C0.cS=b5.cS/\C0.cA=b5.cA/\J1 (Ml n) k3 k ge (O ge:Int) ↑i b4 b5 (C' i ge)=k3 C1 C0 ge:=by
   intro k3 xs;induction xs with
   |nil=>
    intro i k b4 b5 hd hk;let ⟨hi,hq⟩:=eu hd
    cases k with
    |zero=>simp at hk
    |succ k=>exact ⟨aj.mk b4.aQ b4.fZ b4.cS b4.cA [],aj.mk b5.aQ b5.fZ b5.cS b5.cA ge,rfl,rfl,rfl,rfl,by simp[J1,Xa,hq,jc hi]⟩
   |cons x xs ih=>
    intro i k b4 b5 hd hk;let ⟨g1,g2,g3,hq⟩:=dN hd
    cases k with
    |zero=>simp at hk
    |succ k=>
     have hx:x∈ge:=bF g1;have hs:=vE hx;have ht:C' i ge++ [x]=C' (i+1) ge:=by rw[qO,g1];rfl
     let ⟨C1,C0,e1,e2,e3,e4,e5⟩:=ih (i+1) k (aj.mk b4.aQ b4.fZ b4.cS b4.cA []) (aj.mk b5.aQ b5.fZ b5.cS b5.cA (C' (i+1) ge)) g2 (by simp at hk;omega)
     refine ⟨C1,C0,e1,e2,e3,e4,?_⟩;simp only[J1,Xa,hq,aO,az,bh,g1,ai,aqQ n x W W,dm (C' i ge) [x] ap,ht,bS g3 (W:O ge<4294967296),e5]
  have fin:∀(b2 b4 b5:aj),b2.fArgs=ge->Pb (Ml n) n b2 b4 b5=V ⟨b5.aQ,b5.fZ,b5.cS,b5.cA,ge⟩:=by
   intro b2 b4 b5 ha;let ⟨C1,C0,e1,e2,e3,e4,e5⟩:=loop (W9 (Ml n) n) ge 0 n s8 (aj.mk b5.aQ b5.fZ b5.cS b5.cA []) rfl W
   unfold Pb;rw[ha];refine e5.trans ?_;unfold W9;rw[e1,e2,e3,e4]
  have f3:∀(b2 b4 b5:aj),b2.fArgs=ge->Pa (Ml n) n b2 b4 b5=V ⟨b5.aQ,b5.fZ,b5.cS,b5.cA,ge⟩:=by
   intro b2 b4 b5 ha;unfold Pa;split
   .rw[show ∀c,Fe n c=V c from λ_=>rfl,ai]
    exact fin b2 _ _ ha
   .exact fin b2 _ _ ha
  unfold Ml amp;split
  .rw[show ∀c,Fe n c=V c from λ_=>rfl,ai]
   exact f3 ⟨op,c,l,r,ge⟩ _ _ rfl
  .exact f3 ⟨op,c,l,r,ge⟩ _ _ rfl
def lH:Int:=
 if F.aQ=2 then (if qr<0 then qr else if qr=F.bc then -1 else if F.bc<qr then qr-1 else qr)
 else if F.aQ=3 then (if qr<0 then qr else if qr=F.bc then F.kY else if F.bc<qr/\qr<=F.kY then qr-1 else if F.kY<=qr/\qr<F.bc then qr+1 else qr)
 else qr
def om:Prop:= -9223372036854775808<=E/\E<=9223372036854775807
def aqO (hi:om E) (ha:om qr):X7 D E qr ae=V (if E=qr then ae else if qr<E/\E<=ae then E-1 else if ae<=E/\E<qr then E+1 else E):=by
 let ⟨h1,h2⟩:=hi;let ⟨h3,h4⟩:=ha;have w1:qr<E->ba (E-1)=E-1:=λh=>cR W W
 have w2:E<qr->ba (E+1)=E+1:=λh=>cR W W
 unfold X7 amd Kz;by_cases c2:E=qr
 .subst c2;simp
 .by_cases c3:qr<E
  .have n1:¬E<qr:=by omega
   by_cases c4:ae<E
   .have n2:¬E<=ae:=by omega
    by_cases c7:E<ae<;>simp[c2,c3,c4,n1,n2,c7]
   .have c4':E<=ae:=by omega
    simp[c2,c3,c4,c4',w1]
  .have c3':E<qr:=by omega
   by_cases c4:E<ae
   .have n2:¬ae<=E:=by omega
    simp[c2,c3,c4,n2]
   .have c4':ae<=E:=by omega
    simp[c2,c3,c4,c4',c3',w2]
def aqA (g:aJ) (gP:g.fm.aQ=2\/g.fm.aQ=3) (hc:om E) (ha:om g.fm.bc):To D E g=V (lH g.fm E):=by
 let ⟨h1,h2⟩:=hc;let ⟨h3,h4⟩:=ha;unfold To alz R6 XT lH;rcases gP with h|h
 .have n7:¬g.fm.aQ=7:=by omega
  by_cases c1:E<0
  .simp[h,c1]
  .by_cases c2:E=g.fm.bc
   .simp[h,c1,c2];have:0<=g.fm.bc:=by omega
    simp[this];intro;omega
   .by_cases c3:g.fm.bc<E
    .simp[h,c1,c2,c3,cR (x:=E-1) W W]
    .simp[h,c1,c2,c3]
 .by_cases c1:E<0
  .simp[h,c1]
  .have:=aqO D E g.fm.bc g.fm.kY ⟨h1,h2⟩ ⟨h3,h4⟩;simp only[h,this,c1,ai,gV,aR,gb,az,aw,show ((3:Int)==7)=U from rfl,show ((3:Int)==2)=U from rfl,show ¬(3:Int)=2 by omega,ay]
def alf (N:Int) (hN:N<=1000) (g:aJ) (gP:g.fm.aQ=2\/g.fm.aQ=3) (ha:om g.fm.bc):∀(n:Nat) (p:aj),gL p<=n->gL p<1000000->pS N p=I->Ek n p g=V (og (lH g.fm) p)
 |0,⟨_,_,_,_,_⟩,h,_,_=>by simp[gL] at h
 |n+1,⟨op,c,l,r,ge⟩,h,hb,hp=>by
  simp only[gL] at h hb;have li:=r4 ge;have N5:=ajf (lH g.fm) ge;simp only[pS,bI] at hp;let ⟨rP,N3⟩:=hp;have hF:∀o:bP,(if op==3 then Di N o=I else o.aB≠1)->o.aB=1->To n o.dw g=V (lH g.fm o.dw):=λo ho hk=>by
   split at ho
   .simp[Di,hk] at ho;exact aqA n _ g gP ⟨W,W⟩ ha
   .exact absurd hk ho
  have hl:(if op==3 then Di N l=I else l.aB≠1):=by
   split at rP
   .rename_i q;simp only[bI] at rP;rw[ax q];exact rP.1
   .rename_i q;simp at rP;rw[au q];exact rP.1
  have hr:(if op==3 then Di N r=I else r.aB≠1):=by
   split at rP
   .rename_i q;simp only[bI] at rP;rw[ax q];exact rP.2
   .rename_i q;simp at rP;rw[au q];exact rP.2
  have loop:∀(k3:aJ->aj->aj->bA->G aj) (xs:bA) (i k:Nat) (b4 b5:aj),B' i ge=xs->O xs<k->
    ∃C1 C0,C0.aQ=b5.aQ/\C0.fZ=b5.fZ/\C0.cS=b5.cS/\C0.cA=b5.cA/\EO (Ek n) k3 k ge (O ge:Int) ↑i g b4 b5 (C' i (j0 (lH g.fm) ge))=k3 g C1 C0 (j0 (lH g.fm) ge):=by
   intro k3 xs;induction xs with
   |nil=>
    intro i k b4 b5 hd hk;let ⟨hi,hq⟩:=eu hd
    cases k with
    |zero=>simp at hk
    |succ k=>exact ⟨aj.mk b4.aQ b4.fZ b4.cS b4.cA [],aj.mk b5.aQ b5.fZ b5.cS b5.cA (j0 (lH g.fm) ge),rfl,rfl,rfl,rfl,by simp[EO,RI,hq,jc (show O (j0 (lH g.fm) ge)<=i by omega)]⟩
   |cons x xs ih=>
    intro i k b4 b5 hd hk;let ⟨g1,g2,g3,hq⟩:=dN hd
    cases k with
    |zero=>simp at hk
    |succ k=>
     have hx:x∈ge:=bF g1;have hs:=vE hx;have ht:C' i (j0 (lH g.fm) ge)++ [og (lH g.fm) x]=C' (i+1) (j0 (lH g.fm) ge):=by
      rw[qO,ajg,my,g1];rfl
     let ⟨C1,C0,e1,e2,e3,e4,e5⟩:=ih (i+1) k (aj.mk b4.aQ b4.fZ b4.cS b4.cA []) (aj.mk b5.aQ b5.fZ b5.cS b5.cA (C' (i+1) (j0 (lH g.fm) ge))) g2 (by simp at hk;omega)
     refine ⟨C1,C0,e1,e2,e3,e4,?_⟩;simp only[EO,RI,hq,aO,az,bh,g1,ai,alf N hN g gP ha n x W W (aam N3 hx),dm (C' i (j0 (lH g.fm) ge)) [og (lH g.fm) x] ap,ht,bS g3 (W:O ge<4294967296),e5]
  have fin:∀(b2 b4 b5:aj),b2.fArgs=ge->KF (Ek n) n g b2 b4 b5=V ⟨b5.aQ,b5.fZ,b5.cS,b5.cA,j0 (lH g.fm) ge⟩:=by
   intro b2 b4 b5 ha;let ⟨C1,C0,e1,e2,e3,e4,e5⟩:=loop (RH (Ek n) n) ge 0 n s8 (aj.mk b5.aQ b5.fZ b5.cS b5.cA []) rfl W
   unfold KF;rw[ha];refine e5.trans ?_;unfold RH;rw[e1,e2,e3,e4]
  have f3:∀(b2 b4 b5:aj),b2.fArgs=ge->b5.cA=r->KD (Ek n) n g b2 b4 b5=V ⟨b5.aQ,b5.fZ,b5.cS,ln (lH g.fm) r,j0 (lH g.fm) ge⟩:=by
   intro b2 b4 b5 ha hr5;unfold KD ln;rw[hr5];split
   .rename_i hk;rw[hF r hr (by simpa using hk),ai]
    exact fin b2 _ _ ha
   .rw[<-hr5];exact fin b2 _ _ ha
  unfold Ek abG;simp only[og];split
  .rename_i hk;rw[hF l hl (by simpa using hk),ai,f3 ⟨op,c,l,r,ge⟩ _ _ rfl rfl]
   unfold ln;rw[ax hk]
  .rename_i hk;rw[f3 ⟨op,c,l,r,ge⟩ _ _ rfl rfl,zb (o:=l) (by simpa using hk)]
def aqG (N:Int) (hN:N<=1000) (a b:Int) (ha:om a):∀(n:Nat) (p:aj),gL p<=n->gL p<1000000->pS N p=I->Iv n p a b=V (og (gu a b) p)
 |0,⟨_,_,_,_,_⟩,h,_,_=>by simp[gL] at h
 |n+1,⟨op,c,l,r,ge⟩,h,hb,hp=>by
  simp only[gL] at h hb;have li:=r4 ge;have N5:=ajf (gu a b) ge;simp only[pS,bI] at hp;let ⟨rP,N3⟩:=hp;have loop:∀(k3:aj->aj->bA->G aj) (xs:bA) (i k:Nat) (b3 b6:aj),B' i ge=xs->O xs<k->
    ∃b6',JS (Iv n) k3 k a b ge (O ge:Int) ↑i b3 b6 (C' i (j0 (gu a b) ge))=k3 b3 b6' (j0 (gu a b) ge):=by
   intro k3 xs;induction xs with
   |nil=>
    intro i k b3 b6 hd hk;let ⟨hi,hq⟩:=eu hd
    cases k with
    |zero=>simp at hk
    |succ k=>exact ⟨aj.mk b6.aQ b6.fZ b6.cS b6.cA [],by simp[JS,WK,hq,jc (show O (j0 (gu a b) ge)<=i by omega)]⟩
   |cons x xs ih=>
    intro i k b3 b6 hd hk;let ⟨g1,g2,g3,hq⟩:=dN hd
    cases k with
    |zero=>simp at hk
    |succ k=>
     have hx:x∈ge:=bF g1;have hs:=vE hx;have ht:C' i (j0 (gu a b) ge)++ [og (gu a b) x]=C' (i+1) (j0 (gu a b) ge):=by
      rw[qO,ajg,my,g1];rfl
     let ⟨b6',e5⟩:=ih (i+1) k b3 (aj.mk b6.aQ b6.fZ b6.cS b6.cA []) g2 (by simp at hk;omega)
     refine ⟨b6',?_⟩;simp only[JS,WK,hq,aO,az,bh,g1,ai,aqG N hN a b ha n x W W (aam N3 hx),dm (C' i (j0 (gu a b) ge)) [og (gu a b) x] ap,ht,bS g3 (W:O ge<4294967296),e5]
  have fin:∀(b3 b6:aj),b3.fArgs=ge->GD (Iv n) n a b b3 b6=V ⟨b3.aQ,b3.fZ,b3.cS,b3.cA,j0 (gu a b) ge⟩:=by
   intro b3 b6 hb3;let ⟨b6',e5⟩:=loop (alN (Iv n) n) ge 0 n b3 s8 rfl W
   unfold GD;rw[hb3];exact e5
  unfold Iv alM;simp only[og];by_cases h3:op=3
  .subst h3;simp only[gV,az,bI] at rP ⊢;have hF:∀o:bP,Di N o=I->o.aB=1->Mm n o.dw a b=V (gu a b o.dw):=λo ho hk=>by
    simp[Di,hk] at ho;exact Rk n _ a b W W ha.1 ha.2
   have f0:∀(b3 b6:aj),b3.fArgs=ge->b3.cA=r->O6 (Iv n) (GD (Iv n) n) n a b b3 b6=V ⟨b3.aQ,b3.fZ,b3.cS,ln (gu a b) r,j0 (gu a b) ge⟩:=by
    intro b3 b6 hb3 hr5;unfold O6 ln;rw[hr5];split
    .rename_i hk;rw[hF r rP.2 (by simpa using hk),ai]
     exact fin _ _ hb3
    .rw[<-hr5];exact fin b3 _ hb3
   split
   .rename_i hk;rw[hF l rP.1 (by simpa using hk),ai,f0 _ _ rfl rfl]
    unfold ln;rw[ax hk]
   .rename_i hk;rw[f0 _ _ rfl rfl,zb (o:=l) (by simpa using hk)]
  .have dd:(op==3)=U:=by simpa using h3
   rw[dd] at rP ⊢;simp at rP;simp only[ay,aw];rw[fin _ _ rfl,zb rP.1,zb rP.2]
def gx {n:Nat} (h:i<n):eT n (i:Int)=V i:=by
 unfold eT;rw[ax ⟨W,W⟩];rfl
def dD {xs:List Y} (x:Y) (h:i<O xs):setAt xs i x=V (xs.set i x):=by
 unfold setAt;rw[ax h]
def gA {Y:Type} (f:Y->Y) (l:List Y) (j:Nat):List Y:=(C' j l).map f++B' j l
def ma (f:Y->Y) (l:List Y) (j:Nat):O (gA f l j)=O l:=by
 simp[gA];omega
def zP (f:Y->Y) (l:List Y):gA f l 0=l:=by simp[gA]
def uC (f:Y->Y) (l:List Y) {j:Nat} (h:O l<=j):gA f l j=l.map f:=by
 simp[gA,jc h,xH h]
def oe (f:Y->Y) {l:List Y} {j:Nat} {x:Y} (h:l[j]? =V x):(gA f l j)[j]? =V x:=by
 have hl:=(bk.1 h).1;unfold gA;rw[nW ap,ku,dv,fG W,qT,fF]
 exact h
def uB (f:Y->Y) {l:List Y} {j:Nat} {x:Y} (h:l[j]? =V x):(gA f l j).set j (f x)=gA f l (j+1):=by
 have hl:=(bk.1 h).1;unfold gA;rw[A4 _ _ ap,ku,dv,fG W,qT,qO,h,tE hl,List.set_cons_zero]
 have:l[j]=x:=by rw[bJ hl] at h;exact kh h
 simp
def gO:br:=⟨aI.L.map aA,aI.aq⟩
def tT (T:ah):ah:=⟨T.aK,T.L,T.av,T.ar.map (gO aA),T.aM.map (og aA)⟩
structure Ca (r:br):Prop where
 len:r.L.length<=1000
 rng:∀c∈r.L,om c
structure TOK (N:Int) (T:ah):Prop where
 cols:T.L.length<=1000
 refs:T.ar.length<=1000
 ref:∀r∈T.ar,Ca r
 Dt:T.aM.length<=1000
 kS:∀p∈T.aM,pS N p=I/\gL p<=1000
def uh {l:List Y} {x:Y} (h:l[i]? =V x):C' i l++ [x]=C' (i+1) l:=by rw[qO,h];rfl
def acK (k:ah->ah->dr->bR->G ah) (rs:bR) (hl:O rs<=1000) (hr:∀r∈rs,Ca r) (b6:dr):∀(x:bR) (i m:Nat) (b1 b2:ah),B' i rs=x->O x<m->
  J7 k m rs (O rs:Int) (i:Int) b1 b2 b6 (C' i rs)=k (Jl b1.aK b6 b1.av b1.ar b1.aM) (Jl b2.aK [] b2.av [] []) b6 rs
 | [],i,m+1,b1,b2,hd,hm=>by
  let ⟨hi,hq⟩:=eu hd
  simp only[J7,Xt,hq,aR,ay,aw,jc hi]
 |r::x,i,m+1,b1,b2,hd,hm=>by
  let ⟨g1,g2,g3,hq⟩:=dN hd
  have iN:=hr r (bF g1);have ih:=acK k rs hl hr b6 x (i+1) m (Jl b1.aK b6 b1.av b1.ar b1.aM) (Jl b2.aK [] b2.av [] []) g2 (by simp at hm;omega)
  have e1:O (C' i rs)=i:=by simp;omega
  simp only[J7,Xt,hq,aO,az,bh,g1,ai,dm [] r.L (by have:=iN.len;simp;omega),jb,dm (C' i rs) [r] ap,uh g1,bS g3 W]
  rw[e1,dD _ ap,ai]
  have e2:(C' (i+1) rs).set i r=C' (i+1) rs:=by
   rw[<-uh g1,A4 _ _ W]
   simp[e1]
  rw[e2];exact ih
 |_,_,0,_,_,_,hm=>by simp at hm
def abu (hT:O H.L<=1000/\O H.ar<=1000/\O H.aM<=1000) (hr:∀r∈H.ar,Ca r) (hn:2000<D):Dj D H=V H:=by
 unfold Dj amv;rw[dm _ _ ap,ai,jb]
 refine (acK (Xs D) H.ar hT.2.1 hr H.L H.ar 0 D _ _ rfl W).trans ?_
 unfold Xs;rw[dm _ _ ap]
 rfl
def aka (k:ah->ah->ah->dr->bR->G ah) (rs:bR) (hl:O rs<=1000) (hr:∀r∈rs,Ca r) (b1:ah) (cJ:dr):∀(x:bR) (i m:Nat) (b2 b3:ah),B' i rs=x->O x<m->
  QI k m rs (O rs:Int) (i:Int) b1 b2 b3 cJ (C' i rs)=k b1 (Jl b2.aK [] b2.av [] []) (Jl b3.aK cJ b3.av rs []) cJ rs
 | [],i,m+1,b2,b3,hd,hm=>by
  let ⟨hi,hq⟩:=eu hd
  simp only[QI,aef,hq,aR,ay,aw,jc hi]
 |r::x,i,m+1,b2,b3,hd,hm=>by
  let ⟨g1,g2,g3,hq⟩:=dN hd
  have iN:=hr r (bF g1);have ih:=aka k rs hl hr b1 cJ x (i+1) m (Jl b2.aK [] b2.av [] []) (Jl b3.aK cJ b3.av (C' (i+1) rs) []) g2 (by simp at hm;omega)
  have e1:O (C' i rs)=i:=by simp;omega
  simp only[QI,aef,hq,aO,az,bh,g1,ai,dm [] r.L (by have:=iN.len;simp;omega),jb,dm (C' i rs) [r] ap,uh g1,bS g3 W]
  rw[e1,dD _ ap,ai]
  have e2:(C' (i+1) rs).set i r=C' (i+1) rs:=by
   rw[<-uh g1,A4 _ _ W]
   simp[e1]
  rw[e2];exact ih
 |_,_,0,_,_,_,hm=>by simp at hm
def ajZ (k:ah->ah->dr->bA->bR->G ah) (ps:bA) (hl:O ps<=1000) (hp:∀p∈ps,gL p<=1000) (cJ:dr) (rs:bR):∀(x:bA) (i m:Nat) (b2 b3:ah),B' i ps=x->O x+1000<m->
  QH k m ps (O ps:Int) (i:Int) b2 b3 cJ (C' i ps) rs=k (Jl b2.aK [] b2.av [] []) (Jl b3.aK cJ b3.av rs ps) cJ ps rs
 | [],i,m+1,b2,b3,hd,hm=>by
  let ⟨hi,hq⟩:=eu hd
  simp only[QH,aee,hq,aR,ay,aw,jc hi]
 |p::x,i,m+1,b2,b3,hd,hm=>by
  let ⟨g1,g2,g3,hq⟩:=dN hd
  have CM:=hp p (bF g1);simp at hm;have ih:=ajZ k ps hl hp cJ rs x (i+1) m (Jl b2.aK [] b2.av [] []) (Jl b3.aK cJ b3.av rs (C' (i+1) ps)) g2 W
  simp only[QH,aee,hq,aO,az,bh,g1,ai,aqQ m p W W,dm (C' i ps) [p] ap,uh g1,bS g3 W]
  exact ih
 |_,_,0,_,_,_,hm=>by simp at hm
def aBv (hT:O H.L<=1000/\O H.ar<=1000/\O H.aM<=1000) (hr:∀r∈H.ar,Ca r) (hp:∀p∈H.aM,gL p<=1000) (hn:4000<D):F96 D H=V H:=by
 unfold F96 avE;rw[dm _ _ ap,ai,jb]
 refine (aka (aed D) H.ar hT.2.1 hr H H.L H.ar 0 D _ _ rfl W).trans ?_
 unfold aed;refine (ajZ (avF D) H.aM hT.2.2 hp H.L H.ar H.aM 0 D _ _ rfl W).trans ?_
 rfl
structure Iw (T:ah):Prop where
 len:T.L.length<=1000/\T.ar.length<=1000/\T.aM.length<=1000
 ref:∀r∈T.ar,Ca r
 kS:∀p∈T.aM,gL p<=1000
def ako (k:af->af->bC->G af) (ts:bC) (hl:O ts<=1000) (ht:∀T∈ts,Iw T):∀(x:bC) (i m:Nat) (b2 b3:af),B' i ts=x->O x+4000<m->
  QZ k m ts (O ts:Int) (i:Int) b2 b3 (C' i ts)=k (EY b2.aC []) (EY b3.aC ts) ts
 | [],i,m+1,b2,b3,hd,hm=>by
  let ⟨hi,hq⟩:=eu hd
  simp only[QZ,aeR,hq,aR,ay,aw,jc hi]
 |T::x,i,m+1,b2,b3,hd,hm=>by
  let ⟨g1,g2,g3,hq⟩:=dN hd
  have hT:=ht T (bF g1);simp at hm;have ih:=ako k ts hl ht x (i+1) m (EY b2.aC []) (EY b3.aC (C' (i+1) ts)) g2 W
  have e1:O (C' i ts)=i:=by simp;omega
  simp only[QZ,aeR,hq,aO,az,bh,g1,ai,aBv m T hT.len hT.ref hT.kS W,dm (C' i ts) [T] ap,uh g1,bS g3 W]
  rw[e1,dD _ ap,ai]
  have e2:(C' (i+1) ts).set i T=C' (i+1) ts:=by
   rw[<-uh g1,A4 _ _ W]
   simp[e1]
  rw[e2];exact ih
 |_,_,0,_,_,_,hm=>by simp at hm
def aBy (hl:O J.ag<=1000) (ht:∀T∈J.ag,Iw T) (hn:6000<D):F41 D J=V J:=by
 unfold F41 awl;exact ako (awm D) J.ag hl ht J.ag 0 D _ _ rfl W
def acF (k:Int->Int->Int->Int->dr->bA->ah->ah->bR->G (ah×dr×bR×bA)) (a b:Int) (ha:om a) (ip:aN) (hl:O ip<=1000) (hc:∀c∈ip,om c) (t13 t14:Int) (cs:dr) (ch:bA) (refs:bR) (ri:Nat):∀(x:aN) (j m:Nat) (b3 b6:ah) (b8 rr:br),B' j ip=x->O x<m->
  J4 k m a b t13 t14 (O ip:Int) (j:Int) cs ch b3 b6 b8 (gA (gu a b) ip j) refs rr ri=(M (setAt refs ri (br.mk (ip.map (gu a b)) rr.aq)) λz2=>k a b t13 t14 cs ch (Jl b3.aK cs b3.av z2 ch) (Jl b6.aK [] b6.av [] []) z2)
 | [],j,m+1,b3,b6,b8,rr,hd,hm=>by
  let ⟨hi,hq⟩:=eu hd
  simp only[J4,Xj,hq,aR,ay,aw,uC _ _ hi]
 |c::x,j,m+1,b3,b6,b8,rr,hd,hm=>by
  let ⟨g1,g2,g3,hq⟩:=dN hd
  have jm:=hc c (bF g1);have ih:=acF k a b ha ip hl hc t13 t14 cs ch refs ri x (j+1) m (Jl b3.aK cs b3.av refs ch) (Jl b6.aK [] b6.av [] []) (br.mk (gA (gu a b) ip (j+1)) b8.aq) (br.mk [] rr.aq) g2 (by simp at hm;omega)
  have hb:eT (O (gA (gu a b) ip j)) (j:Int)=V j:=gx (by rw[ma];exact g3)
  simp only[J4,Xj,hq,aO,az,hb,ai,cN,oe _ g1,Rk m c a b jm.1 jm.2 ha.1 ha.2,dD _ (show j<O (gA (gu a b) ip j) by rw[ma];exact g3),uB _ g1,bS g3 W]
  exact ih
 |_,_,0,_,_,_,_,_,hm=>by simp at hm
def acE (k:Int->Int->dr->bA->ah->ah->bR->G (ah×dr×bR×bA)) (a b:Int) (ha:om a) (rs:bR) (hl:O rs<=1000) (hr:∀r∈rs,Ca r) (cs:dr) (ch:bA):∀(x:bR) (i m:Nat) (b3 b6:ah),B' i rs=x->O x+1000<m->
  Gq k m a b (O rs:Int) (i:Int) cs ch b3 b6 (gA (gO (gu a b)) rs i)=k a b cs ch (Jl b3.aK cs b3.av (rs.map (gO (gu a b))) ch) (Jl b6.aK [] b6.av [] []) (rs.map (gO (gu a b)))
 | [],i,m+1,b3,b6,hd,hm=>by
  let ⟨hi,hq⟩:=eu hd
  simp only[Gq,Xh,hq,aR,ay,aw,uC _ _ hi]
 |r::x,i,m+1,b3,b6,hd,hm=>by
  let ⟨g1,g2,g3,hq⟩:=dN hd
  have iN:=hr r (bF g1);simp at hm;have ih:=acE k a b ha rs hl hr cs ch x (i+1) m (Jl b3.aK cs b3.av (gA (gO (gu a b)) rs (i+1)) ch) (Jl b6.aK [] b6.av [] []) g2 W
  have hb:eT (O (gA (gO (gu a b)) rs i)) (i:Int)=V i:=gx (by rw[ma];exact g3)
  have inner:=acF (Xi (Gq k m) m) a b ha r.L iN.len iN.rng (O rs:Int) ↑i cs ch (gA (gO (gu a b)) rs i) i r.L 0 m (Jl b3.aK cs b3.av (gA (gO (gu a b)) rs i) ch) (Jl b6.aK [] b6.av [] []) r (br.mk [] r.aq) rfl (by have:=iN.len;omega)
  rw[zP,dD _ (show i<O (gA (gO (gu a b)) rs i) by rw[ma];exact g3),ai] at inner
  have e:(gA (gO (gu a b)) rs i).set i (br.mk (r.L.map (gu a b)) r.aq)=gA (gO (gu a b)) rs (i+1):=uB (gO (gu a b)) g1;rw[show (br.mk ([]:aN) r.aq).aq=r.aq from rfl,e] at inner;simp only[Gq,Xh,hq,aO,az,hb,ai,cN,oe _ g1];refine inner.trans ?_;simp only[Xi,bS g3 (W:O rs<4294967296)]
  exact ih
 |_,_,0,_,_,_,hm=>by simp at hm
def acD (k:dr->bA->ah->ah->bR->G (ah×dr×bR×bA)) (N:Int) (hN:N<=1000) (a b:Int) (ha:om a) (ps:bA) (hl:O ps<=1000) (hp:∀p∈ps,pS N p=I/\gL p<=1000) (cs:dr) (refs:bR):∀(x:bA) (i m:Nat) (b3 b6:ah),B' i ps=x->O x+1000<m->
  J3 k m a b (O ps:Int) (i:Int) cs (gA (og (gu a b)) ps i) b3 b6 refs=k cs (ps.map (og (gu a b))) (Jl b3.aK cs b3.av refs (ps.map (og (gu a b)))) (Jl b6.aK [] b6.av [] []) refs
 | [],i,m+1,b3,b6,hd,hm=>by
  let ⟨hi,hq⟩:=eu hd
  simp only[J3,Xg,hq,aR,ay,aw,uC _ _ hi]
 |p::x,i,m+1,b3,b6,hd,hm=>by
  let ⟨g1,g2,g3,hq⟩:=dN hd
  have CM:=hp p (bF g1);simp at hm;have ih:=acD k N hN a b ha ps hl hp cs refs x (i+1) m (Jl b3.aK cs b3.av refs (gA (og (gu a b)) ps (i+1))) (Jl b6.aK [] b6.av [] []) g2 W
  have hb:eT (O (gA (og (gu a b)) ps i)) (i:Int)=V i:=gx (by rw[ma];exact g3)
  simp only[J3,Xg,hq,aO,az,hb,ai,cN,oe _ g1,aqG N hN a b ha m p W W CM.1,dD _ (show i<O (gA (og (gu a b)) ps i) by rw[ma];exact g3),uB _ g1,bS g3 W]
  exact ih
 |_,_,0,_,_,_,hm=>by simp at hm
def Rh (hN:qr<=1000) (hT:TOK qr H) (a b:Int) (ha:om a) (hn:3000<D):F9 D H a b=V (tT (gu a b) H,H.L,H.ar.map (gO (gu a b)),H.aM.map (og (gu a b))):=by
 unfold F9 amr;have h1:=acE (Xf D) a b ha H.ar hT.refs hT.ref H.L H.aM H.ar 0 D H (Jl I' [] 0 [] []) rfl (by have:=hT.refs;omega)
 rw[zP] at h1;refine h1.trans ?_;unfold Xf;have h2:=acD (ams D) qr hN a b ha H.aM hT.Dt hT.kS H.L (H.ar.map (gO (gu a b))) H.aM 0 D (Jl H.aK H.L H.av (H.ar.map (gO (gu a b))) H.aM) (Jl I' [] 0 [] []) rfl (by have:=hT.Dt;omega)
 rw[zP] at h2;exact h2
def acs (k:Nat->Int->Int->aJ->bC->ah->bR->G aJ) (m0:aF) (gP:m0.aQ=2\/m0.aQ=3) (ha:om m0.bc) (ip:aN) (hl:O ip<=1000) (hc:∀c∈ip,om c) (lq:Nat) (t17 t18:Int) (ts:bC) (refs:bR) (ri:Nat):∀(x:aN) (j m:Nat) (v:Int) (tt:bC) (b5 rr:br) (tr:ah),B' j ip=x->O x<m->
  JP k m lq t17 t18 (O ip:Int) (j:Int) (MH (EY v tt) m0) b5 (gA (lH m0) ip j) ts tr refs rr ri=(M (setAt refs ri (br.mk (ip.map (lH m0)) rr.aq)) λz2=>k lq t17 t18 (MH (EY v ts) m0) ts (Jl tr.aK tr.L tr.av [] tr.aM) z2)
 | [],j,m+1,v,tt,b5,rr,tr,hd,hm=>by
  let ⟨hi,hq⟩:=eu hd
  simp only[JP,WD,hq,aR,ay,aw,uC _ _ hi]
 |c::x,j,m+1,v,tt,b5,rr,tr,hd,hm=>by
  let ⟨g1,g2,g3,hq⟩:=dN hd
  have jm:=hc c (bF g1);have ih:=acs k m0 gP ha ip hl hc lq t17 t18 ts refs ri x (j+1) m v ts (br.mk (gA (lH m0) ip (j+1)) b5.aq) (br.mk [] rr.aq) (Jl tr.aK tr.L tr.av [] tr.aM) g2 (by simp at hm;omega)
  have hb:eT (O (gA (lH m0) ip j)) (j:Int)=V j:=gx (by rw[ma];exact g3)
  have e1:=aqA m c (MH (EY v ts) m0) gP jm ha;simp only[JP,WD,hq,aO,az,hb,ai,cN,oe _ g1,e1,dD _ (show j<O (gA (lH m0) ip j) by rw[ma];exact g3),uB _ g1,bS g3 W]
  exact ih
 |_,_,0,_,_,_,_,_,_,hm=>by simp at hm
def acr (k:Nat->aJ->bC->G aJ) (m0:aF) (gP:m0.aQ=2\/m0.aQ=3) (ha:om m0.bc) (rs:bR) (hl:O rs<=1000) (hr:∀r∈rs,Ca r) (lq:Nat) (ts:bC):∀(x:bR) (i m:Nat) (v:Int) (tt:bC) (tr:ah),B' i rs=x->O x+1000<m->
  Gi k m lq (O rs:Int) (i:Int) (MH (EY v tt) m0) ts tr (gA (gO (lH m0)) rs i)=(M (setAt ts lq (Jl tr.aK tr.L tr.av (rs.map (gO (lH m0))) tr.aM)) λz=>k lq (MH (EY v z) m0) z)
 | [],i,m+1,v,tt,tr,hd,hm=>by
  let ⟨hi,hq⟩:=eu hd
  simp only[Gi,WB,hq,aR,ay,aw,uC _ _ hi]
 |r::x,i,m+1,v,tt,tr,hd,hm=>by
  let ⟨g1,g2,g3,hq⟩:=dN hd
  have iN:=hr r (bF g1);simp at hm;have ih:=acr k m0 gP ha rs hl hr lq ts x (i+1) m v ts (Jl tr.aK tr.L tr.av [] tr.aM) g2 W
  have hb:eT (O (gA (gO (lH m0)) rs i)) (i:Int)=V i:=gx (by rw[ma];exact g3)
  have inner:=acs (WC (Gi k m) m) m0 gP ha r.L iN.len iN.rng lq (O rs:Int) ↑i ts (gA (gO (lH m0)) rs i) i r.L 0 m v ts r (br.mk [] r.aq) (Jl tr.aK tr.L tr.av [] tr.aM) rfl (by have:=iN.len;omega)
  rw[zP,dD _ (show i<O (gA (gO (lH m0)) rs i) by rw[ma];exact g3),ai] at inner
  have e:(gA (gO (lH m0)) rs i).set i (br.mk (r.L.map (lH m0)) r.aq)=gA (gO (lH m0)) rs (i+1):=uB (gO (lH m0)) g1;rw[show (br.mk ([]:aN) r.aq).aq=r.aq from rfl,e] at inner;simp only[Gi,WB,hq,aO,az,hb,ai,cN,oe _ g1];refine inner.trans ?_;simp only[WC,bS g3 (W:O rs<4294967296)]
  exact ih
 |_,_,0,_,_,_,_,hm=>by simp at hm
def acq (N:Int) (hN:N<=1000) (m0:aF) (gP:m0.aQ=2\/m0.aQ=3) (ha:om m0.bc) (ps:bA) (hl:O ps<=1000) (hp:∀p∈ps,pS N p=I/\gL p<=1000) (lq:Nat) (ts:bC):∀(x:bA) (i m:Nat) (v:Int) (tt:bC) (tr:ah),B' i ps=x->O x+1000<m->
  JO m lq (O ps:Int) (i:Int) (MH (EY v tt) m0) (gA (og (lH m0)) ps i) ts tr=(M (setAt ts lq (Jl tr.aK tr.L tr.av tr.ar (ps.map (og (lH m0))))) λz=>V (MH (EY v z) m0))
 | [],i,m+1,v,tt,tr,hd,hm=>by
  let ⟨hi,hq⟩:=eu hd
  simp only[JO,WA,hq,aR,ay,aw,uC _ _ hi]
 |p::x,i,m+1,v,tt,tr,hd,hm=>by
  let ⟨g1,g2,g3,hq⟩:=dN hd
  have CM:=hp p (bF g1);simp at hm;have ih:=acq N hN m0 gP ha ps hl hp lq ts x (i+1) m v ts (Jl tr.aK tr.L tr.av tr.ar []) g2 W
  have hb:eT (O (gA (og (lH m0)) ps i)) (i:Int)=V i:=gx (by rw[ma];exact g3)
  have e1:=alf N hN (MH (EY v ts) m0) gP ha m p W W CM.1
  simp only[JO,WA,hq,aO,az,hb,ai,cN,oe _ g1,e1,dD _ (show i<O (gA (og (lH m0)) ps i) by rw[ma];exact g3),uB _ g1,bS g3 W]
  exact ih
 |_,_,0,_,_,_,_,hm=>by simp at hm
def aqE (hj:aa.aq=(vQ:Int)) (hT:pp[vQ]? =V ab) (gP:aa.aQ=2\/aa.aQ=3) (ha:om aa.bc) (N:Int) (hN:N<=1000) (ht:TOK N ab) (hn:3000<D):
  LW D (MH (EY E pp) aa)=V (MH (EY E (pp.set vQ (tT (lH aa) ab))) aa):=by
 have hl:=(bk.1 hT).1;have e1:GA D (MH (EY E pp) aa)=V vQ:=by
  unfold GA WJ;simp only[hj,gx hl,ai,cN]
 unfold LW alI;rw[e1,ai];simp only[hT,ai];have h1:=acr (Wz D) aa gP ha ab.ar ht.refs ht.ref vQ pp ab.ar 0 D E pp (Jl ab.aK ab.L ab.av [] ab.aM) rfl (by have:=ht.refs;omega)
 rw[zP,dD _ hl,ai] at h1;refine h1.trans ?_;unfold Wz;rw[lR hl,ai];have z6:vQ<O (pp.set vQ (Jl ab.aK ab.L ab.av (ab.ar.map (gO (lH aa))) ab.aM)):=by simpa using hl
 have h2:=acq N hN aa gP ha ab.aM ht.Dt ht.kS vQ (pp.set vQ (Jl ab.aK ab.L ab.av (ab.ar.map (gO (lH aa))) ab.aM)) ab.aM 0 D E (pp.set vQ (Jl ab.aK ab.L ab.av (ab.ar.map (gO (lH aa))) ab.aM)) (Jl ab.aK ab.L ab.av (ab.ar.map (gO (lH aa))) []) rfl (by have:=ht.Dt;omega)
 rw[zP,dD _ z6,ai,vy] at h2;exact h2
def rW:Bool:=ad.aB==1&&ad.dw==E
mutual
def ry (x:Int):aj->Bool
 |⟨op,_,l,r,ge⟩=>(op==3&&(rW x l||rW x r))||sH x ge
def sH (x:Int):bA->Bool
 | []=>U
 |p::ps=>ry x p||sH x ps
end
def l5 (l:aN) (q:Int->Bool) (sz:Nat) (r:aN):Prop:=(∀x,0<=x->(x∈r↔x∈l\/q x=I))/\O r<=O l+sz
def l5.refl {q:Int->Bool} (h:∀x,0<=x->q x=U) (sz:Nat):l5 aD q sz aD:=⟨λx hx=>by simp[h x hx],W⟩
def l5.trans {a b c:aN} {q':Int->Bool} {s s':Nat} (h:l5 a q s b) (k:l5 b q' s' c):l5 a (λx=>q x||q' x) (s+s') c:=
 ⟨λx hx=>by rw[k.1 x hx,h.1 x hx];simp[or_assoc],by have:=h.2;have:=k.2;omega⟩
def l5.mono {a b:aN} {q':Int->Bool} {s s':Nat} (h:l5 a q s b) (hq:∀x,q x=q' x) (hs:s<=s'):l5 a q' s' b:=
 ⟨λx hx=>by rw[h.1 x hx,hq],by have:=h.2;omega⟩
def aMV {xs:List Y} {j:Nat} (h:j<=O xs):cut xs A (V (j:Int))=V (C' j xs):=by
 unfold cut;simp[h]
def ahP {xs:List Y} {j:Nat} (h:j<=O xs):cut xs (V (j:Int)) A=V (B' j xs):=by
 unfold cut;simp[h]
def acp (k:aN->Int->Int->G aN) (l:aN) (c:Int) (hl:O l<=900000):∀(x:aN) (i m:Nat),B' i l=x->O x<m->i<=O l->∃j:Nat,j<=O l/\Gg k m l c (i:Int)=k l c (j:Int)
 | [],i,m+1,hd,hm,hi=>by
  let ⟨this,hq⟩:=eu hd
  exact ⟨i,hi,by simp only[Gg,O3,hq,aR,ay,aw]⟩
 |y::x,i,m+1,hd,hm,hi=>by
  let ⟨g1,g2,g3,hq⟩:=dN hd
  by_cases h:y<c
  .let ⟨j,h1,h2⟩:=acp k l c hl x (i+1) m g2 (by simp at hm;omega) W
   refine ⟨j,h1,?_⟩;simp only[Gg,O3,hq,aO,az,bh,g1,ai,h,bS g3 W,h2]
  .exact ⟨i,hi,by simp only[Gg,O3,hq,aO,az,bh,g1,ai,h,aR,ay,aw]⟩
 |_,_,0,_,hm,_=>by simp at hm
def aLc (n:Nat) (l:aN) (c:Int) (hl:O l<=900000) (hn:O l<n):Ok (YE n l c) λr=>(∀x,x∈r↔x∈l\/x=c)/\O r<=O l+1:=by
 let ⟨j,h1,h2⟩:=acp (Ws n) l c hl l 0 n rfl W W
 have hB:Ok (O2 n l c ↑j) λr=>(∀x,x∈r↔x∈l\/x=c)/\O r<=O l+1:=by
  unfold O2;rw[aMV h1,ai,dm _ _ ap,ai,dm _ _ ap,ai,ahP h1,ai,dm _ _ ap,ai]
  refine Ok.pure ⟨λx=> ?_,ap⟩
  have e:x∈l↔x∈C' j l\/x∈B' j l:=by
   conv=>lhs;rw[<-vC j l]
   exact fk
  rw[e];simp only[jb,fk,gy];constructor
  .rintro ((h|h)|h)
   .exact .inl (.inl h)
   .exact .inr h
   .exact .inl (.inr h)
  .rintro ((h|h)|h)
   .exact .inl (.inl h)
   .exact .inr h
   .exact .inl (.inr h)
 unfold YE aly;rw[show (0:Int)=((0:Nat):Int) from rfl,h2];unfold Ws;by_cases hq:(j:Int)<(O l:Int)
 .have hj:j<O l:=by omega
  simp only[hq,aO,az,bh,bJ hj,ai];by_cases he:l[j]=c
  .simp only[he,gV,az];refine Ok.pure ⟨λx=>⟨.inl,λh=> ?_⟩,W⟩
   rcases h with h|rfl
   .exact h
   .rw[<-he];exact nf hj
  .have:(l[j]==c)=U:=by simpa using he
   simp only[this,ay,aw];exact hB
 .simp only[hq,aR,ay,aw];exact hB
def abz (os:v8) (t:Nat) (o:bP) (ho:os[t]? =V o) (h2:O os=2) (m:Nat) (l:aN) (hl:O l<=800000) (hm:O l+2<m):
  ∃l',l5 l (λx=>rW x o) 1 l'/\ya aS aH (m+1) l (t:Int) Z os=ya aS aH m l' ((t+1:Nat):Int) Z os:=by
 have ht:=(bk.1 ho).1;have hq:(t:Int)<2:=by omega
 have hb:eT (O os) (t:Int)=V t:=gx ht;have hw:ba ((t:Int)+1)=((t+1:Nat):Int):=bS ht W
 by_cases hk:o.aB=1
 .by_cases hi:o.dw<0
  .refine ⟨l,l5.refl l (λx hx=> ?_) 1,?_⟩
   .simp[rW,hk];omega
   .simp only[ya,Kw,hq,aO,az,hb,ai,cN,ho,hk,gV,hi,cO,ay,aw,hw]
  .let ⟨r,e,h1,h3⟩:=aLc m l o.dw W W
   refine ⟨r,⟨λx hx=> ?_,h3⟩,?_⟩
   .rw[h1];simp[rW,hk];constructor
    .rintro (h|h)
     .exact .inl h
     .exact .inr h.symm
    .rintro (h|h)
     .exact .inl h
     .exact .inr h.symm
   .simp only[ya,Kw,hq,aO,az,hb,ai,cN,ho,hk,gV,hi,aR,gb,e,hw]
 .have hkf:(o.aB==1)=U:=by simpa using hk
  refine ⟨l,l5.refl l (λx hx=>by simp[rW,hk]) 1,?_⟩
  simp only[ya,Kw,hq,aO,az,hb,ai,cN,ho,hkf,ay,aw,hw]
def aBl (hl:O aX<=700000) (hm:O aX+10<aW):
  ∃l',l5 aX (λx=>rW x ad||rW x aT) 2 l'/\ya aS aH aW aX 0 Z [ad,aT]=aH l' Z:=by
 obtain ⟨aW,rfl⟩:∃q,aW=q+3:=⟨aW-3,W⟩
 let ⟨l1,c1,e1⟩:=abz aS aH Z [ad,aT] 0 ad rfl rfl (aW+2) aX W W
 have h1:=c1.2;let ⟨l2,c2,e2⟩:=abz aS aH Z [ad,aT] 1 aT rfl rfl (aW+1) l1 W W
 refine ⟨l2,c1.trans c2,?_⟩;refine e1.trans (e2.trans ?_);simp only[ya,Kw,show ¬(((1+1:Nat):Int)<2) by omega,aR,ay,aw]
def aqC:∀(n:Nat) (p:aj) (l:aN),O l+2*gL p+20<=n->O l+2*gL p<=500000->Ok (Iu n p l) (l5 l (λx=>ry x p) (2*gL p))
 |0,_,_,h,_=>W
 |n+1,⟨op,c,a,b,ge⟩,l,h,hb=>by
  simp only[gL] at h hb ⊢;have li:=r4 ge;have loop:∀(xs:bA) (i k:Nat) (l1:aN),B' i ge=xs->O xs<k->O l1+2*mF xs+20<=n->O l1+2*mF xs<=500000->
    Ok (JN (Iu n) (Ww (Iu n) n) k l1 (O ge:Int) ↑i ⟨op,c,a,b,ge⟩) (l5 l1 (λx=>sH x xs) (2*mF xs)):=by
   intro xs;induction xs with
   |nil=>
    intro i k l1 hd hk h1 h2;let ⟨this,hq⟩:=eu hd
    cases k with
    |zero=>simp at hk
    |succ k=>
     simp only[JN,Wx,hq,aR,ay,aw,Ww];exact Ok.pure (l5.refl _ (λx _=>by simp[sH]) _)
   |cons x xs ih=>
    intro i k l1 hd hk h1 h2;let ⟨g1,g2,g3,hq⟩:=dN hd
    simp only[mF] at h1 h2;cases k with
    |zero=>simp at hk
    |succ k=>
     simp only[JN,Wx,hq,aO,az,bh,g1,ai];refine Ok.bind (aqC n x l1 W W) λl2 c2=> ?_
     have z6:=c2.2;rw[bS g3 (W:O ge<4294967296)]
     refine (ih (i+1) k l2 g2 (by simp at hk;omega) W W).mono λr c3=> ?_
     exact (c2.trans c3).mono (λy=>by simp[sH]) (by simp only[mF];omega)
  have tail:∀l1:aN,O l1+2*mF ge+20<=n->O l1+2*mF ge<=500000->Ok (Kv (Iu n) n l1 ⟨op,c,a,b,ge⟩) (l5 l1 (λx=>sH x ge) (2*mF ge)):=λl1 h1 h2=>by
   unfold Kv;exact loop ge 0 n l1 rfl W h1 h2
  unfold Iu alC;by_cases h3:op=3
  .subst h3;simp only[gV,az];let ⟨l1,c1,e1⟩:=aBl (Iu n) (Kv (Iu n) n) ⟨3,c,a,b,ge⟩ a b n l W W
   have hl1:=c1.2;rw[e1];refine (tail l1 W W).mono λr c2=> ?_
   exact (c1.trans c2).mono (λy=>by simp[ry]) W
  .have dd:(op==3)=U:=by simpa using h3
   simp only[dd,ay,aw];refine (tail l W W).mono λr c2=> ?_
   exact c2.mono (λy=>by simp[ry,dd]) W
def aLf (h:2*gL Z+20<=D) (hb:2*gL Z<=500000):Ok (Y3 D Z) (l5 [] (λx=>ry x Z) (2*gL Z)):=by
 unfold Y3 alO;exact Ok.bind (aqC D Z [] (by simpa using h) (by simpa using hb)) λr hr=>Ok.pure hr
def aby (k:mh->Int->aN->aj->G (aN×aN)) (n:Nat) (t16:mh) (t:Int) (l:aN) (b3:aj) (o:bP) (hl:O l<=800000):
  ∃l',l5 l (λx=>rW x o) 1 l'/\O1 aV k n t16 t l b3 o=k t16 (ba (t+1)) l' b3:=by
 unfold O1;by_cases hk:o.aB=1
 .by_cases hi:o.dw<0
  .refine ⟨l,l5.refl l (λx hx=>by simp[rW,hk];omega) 1,by simp[hk,hi]⟩
  .refine ⟨l++ [o.dw],⟨λx hx=> ?_,am⟩,?_⟩
   .simp[rW,hk];constructor
    .rintro (h|h)
     .exact .inl h
     .exact .inr h.symm
    .rintro (h|h)
     .exact .inl h
     .exact .inr h.symm
   .simp only[hk,gV,az,hi,aR,gb,dm l [o.dw] ap,ai]
 .exact ⟨l,l5.refl l (λx hx=>by simp[rW,hk]) 1,by simp[hk]⟩
def aBk (k:aN->aj->G (aN×aN)) (p:aj) (a b:bP) (m:Nat) (l:aN) (hl:O l<=700000) (hm:10<m):
  ∃l',l5 l (λx=>rW x a||rW x b) 2 l'/\xZ aV k m (mh.mk a b) 0 l p=k l' p:=by
 obtain ⟨m,rfl⟩:∃q,m=q+3:=⟨m-3,W⟩
 let ⟨l1,c1,e1⟩:=aby aV (xZ aV k (m+2)) (m+2) (mh.mk a b) 0 l p a W
 have h1:=c1.2;let ⟨l2,c2,e2⟩:=aby aV (xZ aV k (m+1)) (m+1) (mh.mk a b) 1 l1 p b W
 refine ⟨l2,c1.trans c2,?_⟩;have s0:xZ aV k (m+3) (mh.mk a b) 0 l p=xZ aV k (m+2) (mh.mk a b) 1 l1 p:=e1;have s1:xZ aV k (m+2) (mh.mk a b) 1 l1 p=xZ aV k (m+1) (mh.mk a b) 2 l2 p:=e2;rw[s0,s1];rfl
def aqz:∀(n:Nat) (l:aN) (p:aj),2*gL p+20<=n->O l+2*gL p<=500000->Ok (Is n l p) λr=>r.1=r.2/\l5 l (λx=>ry x p) (2*gL p) r.2
 |0,_,_,h,_=>W
 |n+1,l,⟨op,c,a,b,ge⟩,h,hb=>by
  simp only[gL] at h hb ⊢;have li:=r4 ge;have loop:∀(xs:bA) (i k:Nat) (l1:aN),B' i ge=xs->O xs<k->2*mF xs+20<=n->O l1+2*mF xs<=500000->
    Ok (JL (Is n) (Wn (Is n) n) k ge (O ge:Int) ↑i l1) λr=>r.1=r.2/\l5 l1 (λx=>sH x xs) (2*mF xs) r.2:=by
   intro xs;induction xs with
   |nil=>
    intro i k l1 hd hk h1 h2;let ⟨this,hq⟩:=eu hd
    cases k with
    |zero=>simp at hk
    |succ k=>
     simp only[JL,Wo,hq,aR,ay,aw,Wn];exact Ok.pure ⟨rfl,l5.refl _ (λx _=>by simp[sH]) _⟩
   |cons x xs ih=>
    intro i k l1 hd hk h1 h2;let ⟨g1,g2,g3,hq⟩:=dN hd
    simp only[mF] at h1 h2;cases k with
    |zero=>simp at hk
    |succ k=>
     simp only[JL,Wo,hq,aO,az,bh,g1,ai];refine Ok.bind (aqz n l1 x W W) λl2 ⟨_,c2⟩=> ?_
     have z6:=c2.2;rw[bS g3 (W:O ge<4294967296)]
     refine (ih (i+1) k l2.2 g2 (by simp at hk;omega) W W).mono λr ⟨c0,c3⟩=> ?_
     exact ⟨c0,(c2.trans c3).mono (λy=>by simp[sH]) (by simp only[mF];omega)⟩
  have tail:∀l1:aN,O l1+2*mF ge<=500000->Ok (Ku (Is n) n l1 ⟨op,c,a,b,ge⟩) λr=>r.1=r.2/\l5 l1 (λx=>sH x ge) (2*mF ge) r.2:=λl1 h2=>by
   unfold Ku;exact loop ge 0 n l1 rfl W W h2
  unfold Is alw;by_cases h3:op=3
  .subst h3;simp only[gV,az];let ⟨l1,c1,e1⟩:=aBk (Is n) (Ku (Is n) n) ⟨3,c,a,b,ge⟩ a b n l W W
   have hl1:=c1.2;rw[e1];refine (tail l1 W).mono λr ⟨c0,c2⟩=> ?_
   exact ⟨c0,(c1.trans c2).mono (λy=>by simp[ry]) W⟩
  .have dd:(op==3)=U:=by simpa using h3
   simp only[dd,ay,aw];refine (tail l W).mono λr ⟨c0,c2⟩=> ?_
   exact ⟨c0,c2.mono (λy=>by simp[ry,dd]) W⟩
def ac9 (k:mh->Int->aN->aj->G aN) (n:Nat) (t16:mh) (t:Int) (l:aN) (b3:aj) (o:bP) (hl:O l<=800000):
  ∃l',l5 l (λx=>rW x o) 1 l'/\KA k n t16 t l b3 o=k t16 (ba (t+1)) l' b3:=by
 unfold KA;by_cases hk:o.aB=1
 .by_cases hi:o.dw<0
  .refine ⟨l,l5.refl l (λx hx=>by simp[rW,hk];omega) 1,by simp[hk,hi]⟩
  .refine ⟨l++ [o.dw],⟨λx hx=> ?_,am⟩,?_⟩
   .simp[rW,hk];constructor
    .rintro (h|h)
     .exact .inl h
     .exact .inr h.symm
    .rintro (h|h)
     .exact .inl h
     .exact .inr h.symm
   .simp only[hk,gV,az,hi,aR,gb,dm l [o.dw] ap,ai]
 .exact ⟨l,l5.refl l (λx hx=>by simp[rW,hk]) 1,by simp[hk]⟩
def auQ (hl:O aX<=700000) (hm:10<aW):
  ∃l',l5 aX (λx=>rW x ad||rW x aT) 2 l'/\vJ aH aW (mh.mk ad aT) 0 aX Z=aH l' Z:=by
 obtain ⟨aW,rfl⟩:∃q,aW=q+3:=⟨aW-3,W⟩
 let ⟨l1,c1,e1⟩:=ac9 (vJ aH (aW+2)) (aW+2) (mh.mk ad aT) 0 aX Z ad W
 have h1:=c1.2;let ⟨l2,c2,e2⟩:=ac9 (vJ aH (aW+1)) (aW+1) (mh.mk ad aT) 1 l1 Z aT W
 refine ⟨l2,c1.trans c2,?_⟩;have s0:vJ aH (aW+3) (mh.mk ad aT) 0 aX Z=vJ aH (aW+2) (mh.mk ad aT) 1 l1 Z:=e1;have s1:vJ aH (aW+2) (mh.mk ad aT) 1 l1 Z=vJ aH (aW+1) (mh.mk ad aT) 2 l2 Z:=e2;rw[s0,s1];rfl
def aFi (h:4*gL Z+60<=D) (hb:2*gL Z<=400000):Ok (aea D Z) (l5 [] (λx=>ry x Z) (2*gL Z)):=by
 let ⟨op,c,a,b,ge⟩:=Z;simp only[gL] at h hb ⊢;have li:=r4 ge;have loop:∀(xs:bA) (i k:Nat) (l1:aN),B' i ge=xs->O xs+2*mF ge+20<k->O l1+2*mF xs<=500000->
   Ok (EN (RF D) k ge (O ge:Int) ↑i l1) (l5 l1 (λx=>sH x xs) (2*mF xs)):=by
  intro xs;induction xs with
  |nil=>
   intro i k l1 hd hk h2;let ⟨this,hq⟩:=eu hd
   cases k with
   |zero=>simp at hk
   |succ k=>
    simp only[EN,RG,hq,aR,ay,aw,RF];exact Ok.pure (l5.refl _ (λx _=>by simp[sH]) _)
  |cons x xs ih=>
   intro i k l1 hd hk h2;let ⟨g1,g2,g3,hq⟩:=dN hd
   have hx:x∈ge:=bF g1;have hs:=vE hx;simp only[mF] at h2;cases k with
   |zero=>simp at hk
   |succ k=>
    simp at hk;simp only[EN,RG,hq,aO,az,bh,g1,ai];refine Ok.bind (aqz k l1 x W W) λl2 ⟨_,c2⟩=> ?_
    have z6:=c2.2;rw[bS g3 (W:O ge<4294967296)]
    refine (ih (i+1) k l2.2 g2 W W).mono λr c3=> ?_
    exact (c2.trans c3).mono (λy=>by simp[sH]) (by simp only[mF];omega)
 have tail:∀(l1:aN) (q:aj),q.fArgs=ge->O l1+2*mF ge<=500000->Ok (ER D l1 q) (l5 l1 (λx=>sH x ge) (2*mF ge)):=λl1 q hq h2=>by
  unfold ER;rw[hq];exact loop ge 0 D l1 rfl W h2
 unfold aea abE;by_cases h3:op=3
 .subst h3;simp only[gV,az];let ⟨l1,c1,e1⟩:=auQ (ER D) ⟨3,c,a,b,ge⟩ a b D [] am W
  have hl1:=c1.2;simp at hl1;rw[e1];refine (tail l1 _ rfl W).mono λr c2=> ?_
  exact (c1.trans c2).mono (λy=>by simp[ry]) W
 .have dd:(op==3)=U:=by simpa using h3
  simp only[dd,ay,aw];refine (tail [] _ rfl ap).mono λr c2=> ?_
  exact c2.mono (λy=>by simp[ry,dd]) W
def apK (z:Int):∀xs:aN,z∈mO xs↔z∈xs
 | []=>Iff.rfl
 | [x]=>Iff.rfl
 |x::y::l=>by
  have ih:=apK z (y::l);show z∈(if x=y then mO (y::l) else x::mO (y::l))↔_
  split
  .rename_i e;subst e;rw[ih];simp
  .rw[cU,ih,cU (a:=z) (b:=x)]
def aLd (h:4*gL Z+60<=D) (hb:2*gL Z<=400000):Ok (YC D Z) λr=>O r<=2*gL Z/\∀x,0<=x->(x∈r↔ry x Z=I):=by
 unfold YC alA;refine Ok.bind (aFi D Z h hb) λl c=> ?_
 have hl:=c.2;simp at hl;have hp:=pd l;have h1:K3 D l=V (dJ l):=by unfold K3;rw[ax W]
 rw[h1,ai,show nG (O (dJ l)) (O l)=V () by unfold nG;rw[ax hp.length_eq],ai]
 have h2:Ln D (dJ l)=V (mO (dJ l),mO (dJ l)):=by unfold Ln;rw[ax (by rw[hp.length_eq];omega)]
 rw[h2,ai];refine Ok.pure ⟨?_,λx hx=> ?_⟩
 .have:=Oy (dJ l);rw[hp.length_eq] at this;show O (mO (dJ l))<=_;omega
 .show x∈mO (dJ l)↔_;rw[apK,hp.mem_iff,c.1 x hx];simp
def te:Bool:=ao.any λr=>A' (E∈r.L)
def tf (ps:bA):Bool:=ps.any λp=>ry E p
def DT:Bool:=te E H.ar||tf E H.aM
def acJ (k:Int->bR->Int->Int->ah->G Bool) (c:Int) (a0:bR) (a2 a3:Int) (T:ah) (ip:aN) (hl:O ip<=1000):∀(x:aN) (j m:Nat),B' j ip=x->O x<m->
  J6 k m c a0 a2 a3 ip (O ip:Int) (j:Int) T=if c∈x then V I else k c a0 a2 a3 T
 | [],j,m+1,hd,hm=>by
  let ⟨hi,hq⟩:=eu hd
  simp[J6,Xr,hq]
 |y::x,j,m+1,hd,hm=>by
  let ⟨g1,g2,g3,hq⟩:=dN hd
  have ih:=acJ k c a0 a2 a3 T ip hl x (j+1) m g2 (by simp at hm;omega)
  simp only[J6,Xr,hq,aO,az,bh,g1,ai,bS g3 W,ih]
  by_cases h:y=c
  .subst h;simp
  .have h2:¬c=y:=λe=>h e.symm
   simp[h,h2]
 |_,_,0,_,hm=>by simp at hm
def acI (k:Int->ah->G Bool) (c:Int) (T:ah) (rs:bR) (hl:O rs<=1000) (hr:∀r∈rs,Ca r):∀(x:bR) (i m:Nat),B' i rs=x->O x+1000<m->
  Gs k m c rs (O rs:Int) (i:Int) T=if te c x=I then V I else k c T
 | [],i,m+1,hd,hm=>by
  let ⟨hi,hq⟩:=eu hd
  simp[Gs,Xp,hq,te]
 |r::x,i,m+1,hd,hm=>by
  let ⟨g1,g2,g3,hq⟩:=dN hd
  have iN:=hr r (bF g1);simp at hm;have ih:=acI k c T rs hl hr x (i+1) m g2 W
  have inner:=acJ (Xq (Gs k m) m) c rs (O rs:Int) ↑i T r.L iN.len r.L 0 m rfl (by have:=iN.len;omega)
  simp only[Gs,Xp,hq,aO,az,bh,g1,ai];refine inner.trans ?_;simp only[Xq,bS g3 (W:O rs<4294967296),ih]
  have e:te c (r::x)=(A' (c∈r.L)||te c x):=by simp[te]
  rw[e];by_cases h:c∈r.L<;>simp[h]
 |_,_,0,_,hm=>by simp at hm
def acH (k:Int->bA->Int->Int->G Bool) (c:Int) (a0:bA) (a2 a3:Int) (ip:aN) (hl:O ip<=10000):∀(x:aN) (j m:Nat),B' j ip=x->O x<m->
  J5 k m c a0 a2 a3 ip (O ip:Int) (j:Int)=if c∈x then V I else k c a0 a2 a3
 | [],j,m+1,hd,hm=>by
  let ⟨hi,hq⟩:=eu hd
  simp[J5,Xo,hq]
 |y::x,j,m+1,hd,hm=>by
  let ⟨g1,g2,g3,hq⟩:=dN hd
  have ih:=acH k c a0 a2 a3 ip hl x (j+1) m g2 (by simp at hm;omega)
  simp only[J5,Xo,hq,aO,az,bh,g1,ai,bS g3 W,ih]
  by_cases h:y=c
  .subst h;simp
  .have h2:¬c=y:=λe=>h e.symm
   simp[h,h2]
 |_,_,0,_,hm=>by simp at hm
def acG (k:G Bool) (c:Int) (hc:0<=c) (ps:bA) (hl:O ps<=1000) (hp:∀p∈ps,gL p<=1000):∀(x:bA) (i m:Nat),B' i ps=x->O x+10000<m->
  Gr k m c ps (O ps:Int) (i:Int)=if tf c x=I then V I else k
 | [],i,m+1,hd,hm=>by
  let ⟨hi,hq⟩:=eu hd
  simp[Gr,Xm,hq,tf]
 |p::x,i,m+1,hd,hm=>by
  let ⟨g1,g2,g3,hq⟩:=dN hd
  have CM:=hp p (bF g1);simp at hm;have ih:=acG k c hc ps hl hp x (i+1) m g2 W
  let ⟨r,e1,c1,c2⟩:=aLf m p W W
  simp at c2;have inner:=acH (Xn (Gr k m) m) c ps (O ps:Int) ↑i r W r 0 m rfl W
  simp only[Gr,Xm,hq,aO,az,bh,g1,ai,e1];refine inner.trans ?_;simp only[Xn,bS g3 (W:O ps<4294967296),ih]
  have e:tf c (p::x)=(ry c p||tf c x):=by simp[tf]
  have hm:=c1 c hc;simp at hm;rw[e];cases hcp:ry c p with
  |true=>rw[ax (hm.2 hcp)];simp
  |false=>rw[au (λh=>by rw[hm.1 h] at hcp;cases hcp)];simp
 |_,_,0,_,hm=>by simp at hm
def Ri (hc:0<=qr) (hT:Iw H) (hn:20000<D):Dw D H qr=V (DT qr H):=by
 unfold Dw amt;have h1:=acI (Xk D) qr H H.ar hT.len.2.1 hT.ref H.ar 0 D rfl (by have:=hT.len.2.1;omega)
 refine h1.trans ?_;unfold Xk;have h2:=acG (Xl D) qr hc H.aM hT.len.2.2 hT.kS H.aM 0 D rfl (by have:=hT.len.2.2;omega)
 rw[show (0:Int)=((0:Nat):Int) from rfl,h2];unfold DT Xl;cases te qr H.ar<;>cases tf qr H.aM<;>rfl
def aco (v:Int) (l:aN) (hl:O l<=10000) (n0:Nat):∀(x:aN) (j m:Nat),B' j l=x->O x<m->
  Ok (JM (Wp n0) m l v (O l:Int) (j:Int)) λr=>(r<0↔¬v∈x)
 | [],j,m+1,hd,hm=>by
  let ⟨hi,hq⟩:=eu hd
  simp only[JM,Wq,hq,aR,ay,aw,Wp];exact Ok.pure ⟨λ_=>am,λ_=>W⟩
 |y::x,j,m+1,hd,hm=>by
  let ⟨g1,g2,g3,hq⟩:=dN hd
  simp only[JM,Wq,hq,aO,az,bh,g1,ai];by_cases h:v=y
  .subst h;simp only[gV,az];exact Ok.pure ⟨λh=>W,λh=>absurd kr h⟩
  .have:(v==y)=U:=by simpa using h
   simp only[this,ay,aw,bS g3 W]
   refine (aco v l hl n0 x (j+1) m g2 (by simp at hm;omega)).mono λr hr=> ?_
   rw[hr];simp[h]
 |_,_,0,_,hm=>by simp at hm
def aqB (hl:O aD<=10000) (hn:O aD<D):Lk D aD al=V (A' (al∈aD)):=by
 let ⟨r,e,h⟩:=aco al aD hl D aD 0 D rfl hn;unfold Lk alB aEZ alx;rw[show (0:Int)=((0:Nat):Int) from rfl,e,ai];by_cases hv:al∈aD
 .have:¬r<0:=λhr=>(h.1 hr) hv
  simp[hv,this]
 .have:r<0:=h.2 hv;simp[hv,this]
def acv (k:aJ->ah->G Bool) (g:aJ) (T:ah) (rs:bR) (hl:O rs<=1000) (hr:∀r∈rs,Ca r):∀(x:bR) (i m:Nat),B' i rs=x->O x+1000<m->
  JR k m g T rs (O rs:Int) (i:Int)=if te g.fm.bc x=I then V I else k g T
 | [],i,m+1,hd,hm=>by
  let ⟨hi,hq⟩:=eu hd
  simp[JR,WI,hq,te]
 |r::x,i,m+1,hd,hm=>by
  let ⟨g1,g2,g3,hq⟩:=dN hd
  have iN:=hr r (bF g1);simp at hm;have ih:=acv k g T rs hl hr x (i+1) m g2 W
  simp only[JR,WI,hq,aO,az,bh,g1,ai,aqB m r.L g.fm.bc (by have:=iN.len;omega) (by have:=iN.len;omega),bS g3 (W:O rs<4294967296),ih]
  have e:te g.fm.bc (r::x)=(A' (g.fm.bc∈r.L)||te g.fm.bc x):=by simp[te]
  rw[e];by_cases h:g.fm.bc∈r.L<;>simp[h]
 |_,_,0,_,hm=>by simp at hm
def acu (k:G Bool) (g:aJ) (hc:0<=g.fm.bc) (ps:bA) (hl:O ps<=1000) (hp:∀p∈ps,gL p<=1000):∀(x:bA) (i m:Nat),B' i ps=x->O x+10000<m->
  JQ k m g ps (O ps:Int) (i:Int)=if tf g.fm.bc x=I then V I else k
 | [],i,m+1,hd,hm=>by
  let ⟨hi,hq⟩:=eu hd
  simp[JQ,WH,hq,tf]
 |p::x,i,m+1,hd,hm=>by
  let ⟨g1,g2,g3,hq⟩:=dN hd
  have CM:=hp p (bF g1);simp at hm;have ih:=acu k g hc ps hl hp x (i+1) m g2 W
  let ⟨r,e1,c2,c1⟩:=aLd m p W W
  simp only[JQ,WH,hq,aO,az,bh,g1,ai,e1,aqB m r g.fm.bc W W,bS g3 (W:O ps<4294967296),ih]
  have e:tf g.fm.bc (p::x)=(ry g.fm.bc p||tf g.fm.bc x):=by simp[tf]
  have hm:=c1 g.fm.bc hc;rw[e];cases hcp:ry g.fm.bc p with
  |true=>simp[hm.2 hcp]
  |false=>
   have:¬g.fm.bc∈r:=λh=>by rw[hm.1 h] at hcp;cases hcp
   simp[this]
 |_,_,0,_,hm=>by simp at hm
def avl (hj:aa.aq=(vQ:Int)) (hT:pp[vQ]? =V ab):Rj D (MH (EY E pp) aa)=V ab:=by
 unfold Rj abF;simp only[hj,bh,hT,ai]
def Kp (hj:aa.aq=(vQ:Int)) (hl:vQ<O pp):GA D (MH (EY E pp) aa)=V vQ:=by
 unfold GA WJ;simp only[hj,gx hl,ai,cN]
def Rg (hj:aa.aq=(vQ:Int)) (hT:pp[vQ]? =V ab) (c:Int):Tt D (MH (EY E pp) aa) c=V (A' (ab.av<=c)&&A' (c<(O ab.L:Int))):=by
 unfold Tt alK;rw[avl D E pp aa vQ ab hj hT,ai];by_cases h:c<ab.av
 .have:¬ab.av<=c:=by omega
  simp[h,this]
 .have:ab.av<=c:=by omega
  simp[h,this]
def aqF (hj:aa.aq=(vQ:Int)) (hT:pp[vQ]? =V ab) (hc:0<=aa.bc) (ht:Iw ab) (hn:20000<D):LO D (MH (EY E pp) aa)=V (DT aa.bc ab):=by
 unfold LO alJ;rw[avl D E pp aa vQ ab hj hT,ai];have h1:=acv (WE D) (MH (EY E pp) aa) ab ab.ar ht.len.2.1 ht.ref ab.ar 0 D rfl (by have:=ht.len.2.1;omega)
 refine h1.trans ?_;unfold WE;have h2:=acu (WG D) (MH (EY E pp) aa) hc ab.aM ht.len.2.2 ht.kS ab.aM 0 D rfl (by have:=ht.len.2.2;omega)
 rw[show (0:Int)=((0:Nat):Int) from rfl,h2];unfold DT WG;show (if te aa.bc ab.ar=I then _ else if tf aa.bc ab.aM=I then _ else _)=_
 cases te aa.bc ab.ar<;>cases tf aa.bc ab.aM<;>rfl
mutual
def awP:∀p:aj,gL p+1=3*tS p
 |⟨_,_,_,_,ge⟩=>by have:=awQ ge;simp only[gL,tS];omega
def awQ:∀xs:bA,mF xs=3*su xs
 | []=>by simp[mF,su]
 |x::xs=>by have:=awP x;have:=awQ xs;simp only[mF,su];omega
end
def aKa (h:vL ks [] p=0):gL p<=71/\pV ks [] p=I/\mI ks=I:=by
 unfold vL at h;split at h
 .cases h
 .rename_i h0;split at h
  .cases h
  .split at h
   .cases h
   .rename_i h1;split at h
    .cases h
    .rename_i h2;have:=awP p;simp at h0 h1 h2;exact ⟨W,h2,h0⟩
def apV {ks:aN}:∀{ps:bA},uP ks ps=0->∀p∈ps,vL ks [] p=0
 |q::ps,h,p,hp=>by
  unfold uP at h;split at h
  .rename_i h0;rcases cU.1 hp with rfl|hp
   .exact h0
   .exact apV h p hp
  .rename_i h0;exact absurd h h0
def apT:∀{ts:bC},Du ts=0->∀T∈ts,uP (db T) T.aM=0
 |pu::ts,h,T,hT=>by
  unfold Du at h;split at h
  .rename_i h0;rcases cU.1 hT with rfl|hT
   .exact h0
   .exact apT h T hT
  .rename_i h0;exact absurd h h0
def aar {tc:dr}:∀{gs:dr} {cs:aN},r7 tc gs cs=I->O cs<=O gs/\∀c∈cs,0<=c/\c<(O tc:Int)
 |_,[],_=>⟨am,λc hc=>by cases hc⟩
 | [],_::_,h=>by cases h
 |g::gs,c::cs,h=>by
  unfold r7 at h;split at h
  .cases h
  .rename_i x hx;simp only[bI] at h;let ⟨h1,h2⟩:=aar h.2;let ⟨i1,i2,_⟩:=Fw hx;refine ⟨ap,λd hd=> ?_⟩
   rcases cU.1 hd with rfl|hd
   .exact ⟨i1,W⟩
   .exact h2 d hd
def ahL {s:af} {T:ah}:∀{rs:bR},vS s T rs=I->∀r∈rs,SC s T r=I
 |q::rs,h,r,hr=>by
  unfold vS at h;rw[bI] at h;rcases cU.1 hr with rfl|hr
  .exact h.1
  .exact ahL h.2 r hr
def aaG {s:af}:∀{ts:bC},allRefs s ts=I->∀T∈ts,vS s T T.ar=I
 |pu::ts,h,T,hT=>by
  unfold allRefs at h;rw[bI] at h;rcases cU.1 hT with rfl|hT
  .exact h.1
  .exact aaG h.2 T hT
structure TG (k:Nat) (T:ah):Prop where
 lV:1<=T.av
 iA:T.av<=(T.L.length:Int)
 cols:T.L.length<=8
 refs:T.ar.length<=4
 Dt:T.aM.length<=4
 ref:∀r∈T.ar,r.L.length<=8/\(∀c∈r.L,0<=c/\c<(T.L.length:Int))/\0<=r.aq/\r.aq<(k:Int)
 kS:∀p∈T.aM,pS (T.L.length:Int) p=I/\gL p<=71
structure SG (s:af):Prop where
 len:s.ag.length<=8
 v0:0<=s.aC
 v1:s.aC<=1000
 bG:∀T∈s.ag,TG s.ag.length T
def SG.of {s:af} (h:fo s=0):SG s:=by
 have hS:=mW h;unfold fo at h;split at h
 .cases h
 .rename_i h8;split at h
  .rename_i hb;rw[jR] at hb;split at h
   .cases h
   .rename_i v0;split at h
    .cases h
    .rename_i v1;split at h
     .rename_i ht;split at h
      .rename_i hr;refine ⟨W,W,W,λT hT=> ?_⟩
       let ⟨b1,b2,b3⟩:=sW (hb T hT);have t1:=aiI (λT hT=>(sW (hb T hT)).1) ht T hT
       refine ⟨t1.lV,t1.iA,b1,b2,b3,λr iN=> ?_,λp hp=> ?_⟩
       .have q:=ahL (aaG hr T hT) r iN;unfold SC at q;split at q
        .cases q
        .rename_i pu hG;rw[bI] at q;let ⟨c1,c2⟩:=aar q.2;let ⟨i1,i2,i3⟩:=Fw hG;have:=(sW (hb pu (bF i3))).1;exact ⟨W,c2,i1,W⟩
       .let ⟨c1,c2,c3⟩:=aKa (apV (apT h T hT) p hp);have:=aFT c2;rw[show (O (db T):Int)=(O T.L:Int) by simp[db]] at this
        exact ⟨this,c1⟩
      .cases h
     .cases h
  .cases h
def TG.cp {k:Nat} {T:ah} (h:TG k T):Iw T:=
 ⟨⟨by have:=h.cols;omega,by have:=h.refs;omega,by have:=h.Dt;omega⟩,λr hr=>⟨by have:=(h.ref r hr).1;omega,λc hc=>by have:=(h.ref r hr).2.1 c hc;have:=h.cols;exact ⟨W,W⟩⟩,λp hp=>by have:=(h.kS p hp).2;omega⟩
def TG.tok {k:Nat} {T:ah} (h:TG k T):TOK (O T.L:Int) T:=
 ⟨h.cp.len.1,h.cp.len.2.1,h.cp.ref,h.cp.len.2.2,λp hp=>⟨(h.kS p hp).1,by have:=(h.kS p hp).2;omega⟩⟩
def ahv {a b i n:Int} (ha:0<=a) (ha':a<n) (hb:0<=b) (lL:b<n) (hi:0<=i) (sD:i<n):0<=gu a b i/\gu a b i<n:=by
 unfold gu;split
 .omega
 .split
  .omega
  .split
   .omega
   .split<;>omega
def arv {a b i n:Int} (ha:0<=a) (ha':a<n) (hb:0<=b) (lL:b<n) (hi:0<=i) (sD:i<n):gu b a (gu a b i)=i:=by
 unfold gu;rw[au (show ¬b<0 by omega),au (show ¬a<0 by omega)]
 by_cases h1:i=a
 .rw[ax h1,ax rfl,h1]
 .rw[au h1];by_cases h2:a<b/\a<i/\i<=b
  .rw[ax h2,au W,au W,ax W];omega
  .rw[au h2];by_cases h3:b<a/\b<=i/\i<a
   .rw[ax h3,au W,ax W];omega
   .rw[au h3,au W,au W,au W]
def vh {Y:Type} (C:List Y) (a b:Nat):List Y:=C' b (C' a C++B' (a+1) C)++C[a]?.toList++B' b (C' a C++B' (a+1) C)
def apJ {C:List Y} {a:Nat} (ha:a<O C) (i:Nat):(C' a C++B' (a+1) C)[i]? =if i<a then C[i]? else C[i+1]? :=by
 rw[tq,dv,fG W]
 split
 .rename_i h;rw[eO,ax h]
 .rename_i h;rw[fF];congr 1;omega
def zf {C:List Y} {a:Nat} (ha:a<O C):O (C' a C++B' (a+1) C)=O C-1:=ap
def Qb {C:List Y} {a b:Nat} (ha:a<O C) (hb:b<O C):O (vh C a b)=O C:=by
 unfold vh;have:=zf ha;rw[gS,gS,dv,iz,this,bJ ha];simp;omega
def apo {C:List Y} {a b q:Nat} (ha:a<O C) (hb:b<O C) (hq:q<O C):(vh C a b)[q]? =C[Eb (gu b a q)]? :=by
 have hd:=zf ha;unfold vh;rw[bJ ha,Er,tq,gS,dv,hd,fG W,M6]
 unfold gu;rw[au (show ¬((a:Int)<0) by omega)]
 by_cases h1:q<b
 .rw[ax W,nc (by rw[dv,hd];omega),eO,ax h1,apJ ha,au (show ¬((q:Int)=(b:Int)) by omega)]
  by_cases h2:q<a
  .rw[ax h2,au W,au W];congr 1
  .rw[au h2,au W,ax W];congr 1
 .by_cases h2:q=b
  .subst h2;rw[ax W,ax rfl,nW (by rw[dv,hd];omega),dv,hd,fG W,qT,IM,bJ ha]
   rfl
  .rw[au W,fF,apJ ha,au (show ¬((q:Int)=(b:Int)) by omega),show b+(q-(b+1))=q-1 by omega]
   by_cases h3:q-1<a
   .rw[ax h3,ax W];congr 1;omega
   .rw[au h3,au W,au W];congr 1;omega
def aMB {C X:List Y} {a b:Nat} (ha:a<O C) (hb:b<O C) (hl:O X=O C) (hx:∀i:Nat,i<O C->X[Eb (gu a b i)]? =C[i]?):X=vh C a b:=by
 refine pK λq=> ?_
 by_cases hq:q<O C
 .rw[apo ha hb hq];let ⟨i1,i2⟩:=ahv (a:=(b:Int)) (b:=(a:Int)) (i:=(q:Int)) (n:=(O C:Int)) W W W W W W
  have h:=hx (Eb (gu b a q)) W
  rw[avh i1,arv (n:=(O C:Int)) W W W W W W,IM] at h
  exact h
 .rw[mw W,mw (by rw[Qb ha hb];omega)]
def F6:Bool:=B0 F.bp&&(O F.cg==0&&(A' (F.aK=I')&&(F.aB==0&&(F.aq==0&&(F.bc==0&&(F.kY==0&&(A' (F.bu.aK=I')&&(O F.bu.L==0&&(F.bu.av==0&&(O F.bu.ar==0&&O F.bu.aM==0))))))))))
def zT:ah:=Jl I' [] 0 [] []
def T8:aF:=
 if F.aQ=1 then aF.mk F.aQ 0 F.bc F.kY I' 0 zv F.cg F.bu
 else if F.aQ=2 then aF.mk F.aQ 0 0 F.kY F.aK F.aB zv F.cg F.bu
 else if F.aQ=3 then aF.mk F.aQ 0 0 0 F.aK F.aB F.bp F.cg F.bu
 else if F.aQ=4 then aF.mk F.aQ 0 0 F.kY I' F.aB F.bp F.cg F.bu
 else if F.aQ=5 then aF.mk F.aQ 0 F.bc F.kY I' F.aB F.bp F.cg F.bu
 else if F.aQ=6 then aF.mk F.aQ F.aq F.bc F.kY F.aK F.aB F.bp F.cg zT
 else if F.aQ=7 then aF.mk F.aQ 0 F.bc F.kY F.aK F.aB F.bp F.cg F.bu
 else aF.mk F.aQ 0 0 F.kY F.aK F.aB F.bp [] F.bu
def rA:Bool:=A' (1<=F.aQ)&&(A' (F.aQ<=8)&&F6 (T8 F))
def nK:ah:=⟨H.aK,H.L,H.av,H.ar.map λr=>⟨r.L,gu E (-1) r.aq⟩,H.aM⟩
def qi:Bool:=(K.aB==ak.aB)&&((K.dt==ak.dt)&&((A' (K.cH=ak.cH))&&I))
def Ah:Nat:=ac.countP λq=>qi q.f0 K
def Ag:Nat:=ac.countP λq=>qi q.f1 K
def xM:Bool:=A' (1<=O ac)&&(A' (O ac<=16)&&ac.all λp=>fJ p.f0&&(p.f0.aB==E&&(Ah p.f0 ac==1&&Ag p.f0 ac==1)))
inductive lA (s:af) (m:aF):af->Prop
 |Te (j:Nat) (T:ah) (h:m.aQ=1) (hj:m.aq=(j:Int)) (hT:s.ag[j]? =V T) (hv:fJ m.bp=I) (hk:m.bp.aB=m.aB):
   lA s m ⟨s.aC+1,s.ag.set j ⟨T.aK,T.L++ [⟨m.aK,m.aB⟩],T.av,T.ar,T.aM⟩⟩
 |Vq (j c:Nat) (T:ah) (x:bW) (h:m.aQ=2) (hj:m.aq=(j:Int)) (hT:s.ag[j]? =V T) (hc:m.bc=(c:Int)) (hx:T.L[c]? =V x) (hk:T.av<=(c:Int)) (hv:fJ m.bp=I) (xy:m.bp.aB=x.aB) (hu:DT (c:Int) T=U):
   lA s m ⟨s.aC+1,s.ag.set j (tT (gu (c:Int) (-1)) ⟨T.aK,T.L.take c++T.L.drop (c+1),T.av,T.ar,T.aM⟩)⟩
 |move (j c d:Nat) (T:ah) (h:m.aQ=3) (hj:m.aq=(j:Int)) (hT:s.ag[j]? =V T) (hc:m.bc=(c:Int)) (hd:m.kY=(d:Int)) (h1:c<T.L.length) (h2:d<T.L.length) (hk:T.av<=(c:Int)) (xV:T.av<=(d:Int)):
   lA s m ⟨s.aC+1,s.ag.set j (tT (gu (c:Int) (d:Int)) ⟨T.aK,vh T.L c d,T.av,T.ar,T.aM⟩)⟩
 |SD (j c:Nat) (T:ah) (x:bW) (h:m.aQ=4) (hj:m.aq=(j:Int)) (hT:s.ag[j]? =V T) (hc:m.bc=(c:Int)) (hx:T.L[c]? =V x):
   lA s m ⟨s.aC+1,s.ag.set j ⟨T.aK,T.L.set c ⟨m.aK,x.aB⟩,T.av,T.ar,T.aM⟩⟩
 |SH (j:Nat) (T:ah) (h:m.aQ=5) (hj:m.aq=(j:Int)) (hT:s.ag[j]? =V T):
   lA s m ⟨s.aC+1,s.ag.set j ⟨m.aK,T.L,T.av,T.ar,T.aM⟩⟩
 |Nt (h:m.aQ=6):lA s m ⟨s.aC+1,s.ag++ [m.bu]⟩
 |Vp (j:Nat) (T:ah) (h:m.aQ=7) (hj:m.aq=(j:Int)) (hT:s.ag[j]? =V T) (hr:∀i ul,i≠j->s.ag[i]? =V ul->∀r∈ul.ar,r.aq≠(j:Int)):
   lA s m ⟨s.aC+1,(s.ag.take j++s.ag.drop (j+1)).map (nK (j:Int))⟩
 |Cy (j c:Nat) (T:ah) (x:bW) (h:m.aQ=8) (hj:m.aq=(j:Int)) (hT:s.ag[j]? =V T) (hc:m.bc=(c:Int)) (hx:T.L[c]? =V x) (hk:T.av<=(c:Int)) (hp:xM x.aB m.cg=I) (hu:DT (c:Int) T=U):
   lA s m ⟨s.aC+1,s.ag⟩
def aLs:Ok (RL D F) λr=>r=I->rA F=I:=by
 unfold RL Xu;have key:∀q:aF,Ok (sM D q) λr=>r=I->F6 q=I:=λq=>by
  unfold sM;refine Ok.ite (λh1=>Ok.ite (λh2=>Ok.ite (λh3=>Ok.ite (λh4=>Ok.ite (λh5=>Ok.ite (λh6=>Ok.ite (λh7=>Ok.ite (λh8=>Ok.ite (λh9=>Ok.ite (λh10=>Ok.ite (λh11=>Ok.pure λh12=> ?_) ?_) ?_) ?_) ?_) ?_) ?_) ?_) ?_) ?_) ?_) ?_
  .have h12:((O q.bu.aM:Int)==0)=I:=h12;have e:∀k:Nat,((k:Int)==0)=(k==0):=λk=>by rw[oS];simp
   rw[e] at h7 h9 h11 h12;have h6':B0 q.bp=I:=h6;unfold F6;rw[h1,h2,h3,h4,h5,h6',h7,h8,h9,h10,h11,h12];rfl
  all_goals exact λ_=>Ok.pure λh=>by cases h
 have fin:∀q:aF,1<=F.aQ->F.aQ<=8->q=T8 F->Ok (sM D q) λr=>r=I->rA F=I:=λq h1 h8 hq=>(key q).mono λr hr h=>by
  unfold rA;rw[<-hq,hr h];simp[h1,h8]
 refine Ok.ite (λh=> ?_) λn1=>Ok.ite (λh=> ?_) λn2=>Ok.ite (λh=> ?_) λn3=>Ok.ite (λh=> ?_) λn4=>Ok.ite (λh=> ?_) λn5=>Ok.ite (λh=> ?_) λn6=>Ok.ite (λh=> ?_) λn7=>Ok.ite (λh=> ?_) λn8=>Ok.pure λh=>by cases h
 all_goals (simp at h;refine fin _ W W ?_;unfold T8;simp[h,zv,zT])
def aRp (h:rA F=I):F98 D F=V I:=by
 have key:∀q:aF,F6 q=I->AA D q=V I:=λq hq=>by
  unfold F6 at hq;simp only[bI,tD,lB] at hq;let ⟨a1,a2,a3,a4,a5,a6,a7,a8,a9,OL,a11,a12⟩:=hq;have a1':((q.bp.aB==0)&&((q.bp.dt==0)&&((A' (q.bp.cH=I'))&&I)))=I:=a1;unfold AA Ms;simp only[a1',a2,a3,a4,a5,a6,a7,a8,a9,OL,a11,a12];rfl
 unfold rA at h;simp only[bI,lB] at h;let ⟨h1,h8,hb⟩:=h;have hb:=key _ hb;unfold F98 avD;unfold T8 at hb;rcases (W:F.aQ=1\/F.aQ=2\/F.aQ=3\/F.aQ=4\/F.aQ=5\/F.aQ=6\/F.aQ=7\/F.aQ=8) with e|e|e|e|e|e|e|e<;>(simp[e,zv,zT] at hb;simp[e,hb])
def acC (k:gM->Int->Int->Int->gM->Int->Int->Int->Int->gU->G Bool) (l:gM) (hl:O l<=16) (l0:gM) (kind:Int) (t19:gM) (t20 t21 t32 t33:Int) (b6:gU):∀(x:gM) (i m f s:Nat),B' i l=x->O x<m->f+O x<=100->s+O x<=100->
  J2 k m l0 kind (f:Int) (s:Int) t19 t20 t21 t32 t33 l (O l:Int) (i:Int) b6=k l0 kind ((f+Ah b6.f0 x:Nat):Int) ((s+Ag b6.f0 x:Nat):Int) t19 t20 t21 t32 t33 b6
 | [],i,m+1,f,s,hd,hm,_,_=>by
  let ⟨hi,hq⟩:=eu hd
  simp[J2,Xd,hq,Ah,Ag]
 |q::x,i,m+1,f,s,hd,hm,hf,hs=>by
  let ⟨g1,g2,g3,hq⟩:=dN hd
  simp at hm hf hs;have ih:=λf' s' h1 h2=>acC k l hl l0 kind t19 t20 t21 t32 t33 b6 x (i+1) m f' s' g2 W h1 h2
  have w:∀c:Nat,c<=100->ba ((c:Int)+1)=((c+1:Nat):Int):=λc hc=>by rw[cR W W];rfl
  have eF:Ah b6.f0 (q::x)=Ah b6.f0 x+if qi q.f0 b6.f0=I then 1 else 0:=by simp[Ah,List.countP_cons]
  have eS:Ag b6.f0 (q::x)=Ag b6.f0 x+if qi q.f1 b6.f0=I then 1 else 0:=by simp[Ag,List.countP_cons]
  have e1:(q.f0.aB==b6.f0.aB&&(q.f0.dt==b6.f0.dt&&(A' (q.f0.cH=b6.f0.cH)&&I)))=qi q.f0 b6.f0:=rfl;have e2:(q.f1.aB==b6.f0.aB&&(q.f1.dt==b6.f0.dt&&(A' (q.f1.cH=b6.f0.cH)&&I)))=qi q.f1 b6.f0:=rfl;simp only[J2,Xd,hq,aO,az,bh,g1,ai,e1,Xe,e2,bS g3 W,eF,eS]
  cases h1:qi q.f0 b6.f0<;>cases h2:qi q.f1 b6.f0
  .simp only[ay,aw,po];exact ih f s W W
  .simp only[ay,aw,az,po,w s W]
   refine (ih f (s+1) W W).trans ?_
   rw[show s+1+Ag b6.f0 x=s+(Ag b6.f0 x+1) by omega]
  .simp only[ay,aw,az,po,w f W]
   refine (ih (f+1) s W W).trans ?_
   rw[show f+1+Ah b6.f0 x=f+(Ah b6.f0 x+1) by omega]
  .simp only[az,w s W,w f W]
   refine (ih (f+1) (s+1) W W).trans ?_
   rw[show f+1+Ah b6.f0 x=f+(Ah b6.f0 x+1) by omega,show s+1+Ag b6.f0 x=s+(Ag b6.f0 x+1) by omega]
 |_,_,0,_,_,_,hm,_,_=>by simp at hm
def acB (n0:Nat) (l:gM) (hl:O l<=16) (kind:Int):∀(x:gM) (i m:Nat),B' i l=x->O x+100<m->
  Gn (Pc n0) m l kind l (O l:Int) (i:Int)=V (x.all λp=>fJ p.f0&&(p.f0.aB==kind&&(Ah p.f0 l==1&&Ag p.f0 l==1)))
 | [],i,m+1,hd,hm=>by
  let ⟨hi,hq⟩:=eu hd
  simp[Gn,Xb,hq,Pc]
 |p::x,i,m+1,hd,hm=>by
  let ⟨g1,g2,g3,hq⟩:=dN hd
  simp at hm;have ih:=acB n0 l hl kind x (i+1) m g2 W
  have inner:=acC (Xc (Gn (Pc n0) m) m) l hl l kind l (O l:Int) ↑i p.f0.aB kind p l 0 m 0 0 rfl W W W
  simp only[Gn,Xb,hq,aO,az,bh,g1,ai,EP,rZ];cases hr:fJ p.f0 with
  |false=>simp
  |true=>
   by_cases hk:p.f0.aB=kind
   .have hk1:(p.f0.aB !=kind)=U:=by simpa using hk
    have xV:(p.f0.aB==kind)=I:=by simpa using hk
    simp only[cO,ay,aw,hk1,xV,jj];refine inner.trans ?_;simp only[Xc,cN,bS g3 (W:O l<4294967296)]
    have c1:(((Ah p.f0 l:Nat):Int) !=1)= !(Ah p.f0 l==1):=by rw[oS];simp;omega
    have c2:(((Ag p.f0 l:Nat):Int) !=1)= !(Ag p.f0 l==1):=by rw[oS];simp;omega
    rw[c1,c2];cases Ah p.f0 l==1
    .simp
    .cases Ag p.f0 l==1
     .simp
     .simp only[cO,ay,aw,jj];exact ih
   .have hk1:(p.f0.aB !=kind)=I:=by simpa using hk
    have xV:(p.f0.aB==kind)=U:=by simpa using hk
    simp[hk1,xV]
 |_,_,0,_,hm=>by simp at hm
def aqR (hn:1000<D):X5 D ac al=V (xM al ac):=by
 unfold X5 amq xM;by_cases h1:O ac<1
 .have:(O ac:Int)<1:=by omega
  have h2:¬1<=O ac:=by omega
  simp only[this,aO,az,h2,aR,ig]
 .have vZ:¬(O ac:Int)<1:=by omega
  have h2:1<=O ac:=by omega
  by_cases h3:16<O ac
  .have:(16:Int)<(O ac:Int):=by omega
   have h4:¬O ac<=16:=by omega
   simp only[vZ,aR,ay,aw,this,aO,az,h2,h4,jj,ig]
  .have Of:¬(16:Int)<(O ac:Int):=by omega
   have h4:O ac<=16:=by omega
   simp only[vZ,Of,aR,ay,aw,h2,h4,aO,jj];exact acB D ac h4 al ac 0 D rfl W
def kZ {l:List Y} {x:Y} (h:l[i]? =V x):l.set i x=l:=by
 let ⟨h1,h2⟩:=bk.1 h;rw[<-h2,IB]
def avo (k:af->aF->af->af->bC->G (af×Bool)) (ts:bC) (hl:O ts<=1000) (ht:∀T∈ts,Iw T) (s:af) (mg:aF):∀(x:bC) (i m:Nat) (b4 b6:af),B' i ts=x->O x+4000<m->
  QK k m ts (O ts:Int) (i:Int) s mg b4 b6 (C' i ts)=k s mg (EY b4.aC []) (EY b6.aC ts) ts
 | [],i,m+1,b4,b6,hd,hm=>by
  let ⟨hi,hq⟩:=eu hd
  simp only[QK,zy,hq,aR,ay,aw,jc hi]
 |T::x,i,m+1,b4,b6,hd,hm=>by
  let ⟨g1,g2,g3,hq⟩:=dN hd
  have hT:=ht T (bF g1);simp at hm;have ih:=avo k ts hl ht s mg x (i+1) m (EY b4.aC []) (EY b6.aC (C' (i+1) ts)) g2 W
  have e1:O (C' i ts)=i:=by simp;omega
  simp only[QK,zy,hq,aO,az,bh,g1,ai,abu m T hT.len hT.ref W,dm (C' i ts) [T] ap,uh g1,bS g3 W]
  rw[e1,dD _ ap,ai]
  have e2:(C' (i+1) ts).set i T=C' (i+1) ts:=kZ (by rw[eO,ax W];exact g1)
  rw[e2];exact ih
 |_,_,0,_,_,_,hm=>by simp at hm
def avp (k:Nat->aF->af->af->dr->bC->G (af×Bool)) (j:Nat) (mg:aF) (a b:Nat) (ha:mg.bc=(a:Int)) (hb:mg.kY=(b:Int)) (C:dr) (hl:O C<=8) (ha':a<O C) (lL:b<O C) (ts:bC):∀(x:dr) (i m:Nat) (b4 b6:af) (X:dr) (rr:ah),B' i C=x->O x+100<m->O X=O C->(∀q:Nat,q<i->X[Eb (gu a b q)]? =C[q]?)->i<=O C->
  ∃C1,QJ k m j (O C:Int) (i:Int) mg b4 b6 X C ts rr=(M (setAt ts j (Jl rr.aK C rr.av rr.ar rr.aM)) λz2=>k j mg C1 (EY b6.aC z2) (vh C a b) z2)
 | [],i,m+1,b4,b6,X,rr,hd,hm,hX,hx,hi=>by
  have sD:O C<=i:=by simpa using hd
  have hq:¬((i:Int)<(O C:Int)):=by omega
  have e:=aMB ha' lL hX λq hq=>hx q W
  subst e;exact ⟨EY b4.aC [],by simp only[QJ,aeh,hq,aR,ay,aw]⟩
 |c::x,i,m+1,b4,b6,X,rr,hd,hm,hX,hx,hi=>by
  let ⟨g1,g2,g3,hq⟩:=dN hd
  simp at hm;have hbnd:eT (O C) (i:Int)=V i:=gx g3;let ⟨s1,s2⟩:=ahv (a:=(a:Int)) (b:=(b:Int)) (i:=(i:Int)) (n:=(O C:Int)) W W W W W W
  have hsh:gu a b i=(Eb (gu a b i):Int):=(avh s1).symm;have cT:Eb (gu a b i)<O X:=by omega
  have hb1:eT (O X) (gu a b i)=V (Eb (gu a b i)):=by rw[hsh];exact gx (by simpa using cT)
  have hF:=Rk m ↑i (a:Int) ↑b W W W W
  let ⟨C1,ih⟩:=avp k j mg a b ha hb C hl ha' lL ts x (i+1) m (EY b4.aC []) (EY b6.aC ts) (X.set (Eb (gu a b i)) c) (Jl rr.aK [] rr.av rr.ar rr.aM) g2 W (by simpa using hX) (λq zY=>by
   rw[Ep];by_cases he:q=i
   .subst he;rw[ax rfl,ax cT,g1]
   .have:Eb (gu a b i)≠Eb (gu a b q):=λhc=>by
     let ⟨q1,q2⟩:=ahv (a:=(a:Int)) (b:=(b:Int)) (i:=(q:Int)) (n:=(O C:Int)) W W W W W W
     have h3:gu a b i=gu a b q:=by omega
     have h1:=arv (a:=(a:Int)) (b:=(b:Int)) (i:=(i:Int)) (n:=(O C:Int)) W W W W W W
     have h2:=arv (a:=(a:Int)) (b:=(b:Int)) (i:=(q:Int)) (n:=(O C:Int)) W W W W W W
     rw[h3,h2] at h1;omega
    rw[au this];exact hx q W) W
  refine ⟨C1,?_⟩;simp only[QJ,aeh,hq,aO,az,hbnd,ai,cN,g1,ha,hb,hF,hb1,bJ cT,dD _ cT,bS g3 W]
  exact ih
 |_,_,0,_,_,_,_,_,hm,_,_,_=>by simp at hm
def jU:br:=⟨aI.L,gu E (-1) aI.aq⟩
def vg:Bool:=ao.all λr=>r.aq !=E
def akb (k:Int->Int->af->aF->af->af->ah->dr->bA->bC->bC->ah->Nat->Nat->bR->G (af×Bool)) (t299 t300:Int) (s:af) (mg:aF) (a:Nat) (ha:mg.aq=(a:Int)) (ha8:a<=1000) (cs:dr) (ch:bA) (R kw:bC) (j:Nat) (hj:j<O kw) (rs:bR) (hl:O rs<=1000) (hr:∀r∈rs,om r.aq):∀(x:bR) (i m:Nat) (b4 b6:af) (rQ rr:ah),B' i rs=x->O x<m->
  L6 k m t299 t300 (O rs:Int) (i:Int) s mg b4 b6 rQ cs ch R kw rr j j (gA (jU a) rs i)=if vg a x=I then k t299 t300 s mg (EY b4.aC []) (EY b6.aC kw) (Jl rQ.aK cs rQ.av (rs.map (jU a)) ch) cs ch R kw (Jl rr.aK [] rr.av [] []) j j (rs.map (jU a)) else V (s,U)
 | [],i,m+1,b4,b6,rQ,rr,hd,hm=>by
  let ⟨hi,hq⟩:=eu hd
  simp[L6,VV,hq,uC _ _ hi,vg]
 |r::x,i,m+1,b4,b6,rQ,rr,hd,hm=>by
  let ⟨g1,g2,g3,hq⟩:=dN hd
  have iN:=hr r (bF g1);have ih:=akb k t299 t300 s mg a ha ha8 cs ch R kw j hj rs hl hr x (i+1) m (EY b4.aC []) (EY b6.aC kw) (Jl rQ.aK cs rQ.av (gA (jU a) rs (i+1)) ch) (Jl rr.aK [] rr.av [] []) g2 (by simp at hm;omega)
  have hb:eT (O (gA (jU a) rs i)) (i:Int)=V i:=gx (by rw[ma];exact g3)
  have e:vg ↑a (r::x)=(r.aq !=(a:Int)&&vg a x):=by simp[vg]
  have hs:(gA (jU a) rs i).set i (br.mk r.L (gu a (-1) r.aq))=gA (jU a) rs (i+1):=uB (jU a) g1;rw[e];by_cases h:r.aq=(a:Int)
  .have h1:(r.aq==(a:Int))=I:=by simpa using h
   have h2:(r.aq !=(a:Int))=U:=by simpa using h
   simp only[L6,VV,hq,aO,az,hb,ai,cN,oe _ g1,ha,h1,show nG j j=V () by unfold nG;rw[ax rfl],dD _ hj,h2,ig,ay,aw]
  .have h1:(r.aq==(a:Int))=U:=by simpa using h
   have h2:(r.aq !=(a:Int))=I:=by simpa using h
   simp only[L6,VV,hq,aO,az,hb,ai,cN,oe _ g1,ha,h1,h2,jj,ay,aw,Rk m r.aq ↑a (-1) iN.1 iN.2 W W,dD _ (show i<O (gA (jU a) rs i) by rw[ma];exact g3),hs,bS g3 W]
   exact ih
 |_,_,0,_,_,_,_,_,hm=>by simp at hm
def rX:bC:=C' D pp++B' (D+1) pp
def aAG {a:Nat} {ts:bC} {T:ah} (h:ts[i]? =V T) (dd:i≠a):rX a (C' i ts)++ [T]=rX a (C' (i+1) ts):=by
 unfold rX;rw[qO,h,Er];have hl:=(bk.1 h).1;by_cases hi:i<a
 .rw[jc ap,xH ap,jc (l:=C' i ts++ [T]) ap,xH (l:=C' i ts++ [T]) ap]
  simp
 .rw[anO ap,anN ap,l6]
def aAH {a:Nat} {ts:bC}:rX a (C' (a+1) ts)=rX a (C' a ts):=by
 unfold rX;rw[mC,mC,fG W,Nat.min_self,xH ap,xH ap]
def CC:Prop:=∀q ul,q<vQ->q≠D->pp[q]? =V ul->vg D ul.ar=I
def L5 {P:af×Bool->Prop} (k:af->af->bC->bC->Nat->G (af×Bool)) (s:af) (mg:aF) (a:Nat) (ha:mg.aq=(a:Int)) (ha8:a<=1000) (ts:bC) (hl:O ts<=1000) (ht:∀T∈ts,O T.ar<=1000/\∀r∈T.ar,om r.aq) (v:Int) (hP:¬CC a ts (O ts)->P (s,U))
  (hk:∀b4 kb kw g,CC a ts (O ts)->Ok (k b4 (EY v kb) ((rX a ts).map (nK a)) kw g) P):∀(x:bC) (i m:Nat) (b4:af) (tt kw:bC),B' i ts=x->O x+2000<m->O kw=O ts->(∀q,i<=q->kw[q]? =ts[q]?)->CC a ts i->
  Ok (HD k m (O ts:Int) (i:Int) s mg b4 (EY v tt) ((rX a (C' i ts)).map (nK a)) kw i) P
 | [],i,m+1,b4,tt,kw,hd,hm,hc,hcq,xT=>by
  let ⟨hi,hq⟩:=eu hd
  simp only[HD,VU,hq,aR,ay,aw,jc hi];refine hk _ _ _ _ λq ul h1 h2 h3=>xT q ul W h2 h3
 |T::x,i,m+1,b4,tt,kw,hd,hm,hc,hcq,xT=>by
  let ⟨g1,g2,g3,hq⟩:=dN hd
  simp at hm;have hT:=ht T (bF g1);have hb:eT (O kw) (i:Int)=V i:=gx W
  have Ib:kw[i]? =V T:=(hcq i (cM _)).trans g1;have mr:i<O kw:=by omega
  have hsj:nG i i=V ():=by unfold nG;rw[ax rfl]
  by_cases h:i=a
  .have h1:((i:Int)==mg.aq)=I:=by rw[ha,h];exact gV _
   have ih:=L5 k s mg a ha ha8 ts hl ht v hP hk x (i+1) m (EY b4.aC []) (kw.set i (Jl T.aK [] T.av [] [])) (kw.set i (Jl T.aK [] T.av [] [])) g2 W (by simpa using hc) (λq zY=>by rw[ni W];exact hcq q W) (λq ul h1 h2 h3=>xT q ul W h2 h3)
   rw[show rX a (C' (i+1) ts)=rX a (C' i ts) by subst h;exact aAH] at ih
   simp only[HD,VU,hq,aO,az,hb,ai,cN,Ib,hsj,h1,dD _ mr,Ro,bS g3 (W:O ts<4294967296)]
   exact ih
  .have h1:((i:Int)==mg.aq)=U:=by rw[ha];exact avg W
   have inner:=akb (aeg (Ro (HD k m) m) m) (O ts:Int) ↑i s mg a ha ha8 T.L T.aM ((rX a (C' i ts)).map (nK a)) kw i mr T.ar hT.1 hT.2 T.ar 0 m (EY b4.aC []) (EY v kw) T (Jl T.aK [] T.av [] []) rfl W
   rw[zP] at inner;simp only[HD,VU,hq,aO,az,hb,ai,cN,Ib,hsj,h1,ay,aw];rw[show (0:Int)=((0:Nat):Int) from rfl,inner];by_cases hn:vg a T.ar=I
   .rw[ax hn];have rm:O ((rX a (C' i ts)).map (nK a))<=1000:=by
     have:O (rX a (C' i ts))<=O ts:=by unfold rX;simp;omega
     simpa using (W:O (rX a (C' i ts))<=1000)
    have es:((rX a (C' i ts)).map (nK a)++ [Jl T.aK T.L T.av (T.ar.map (jU a)) T.aM])=(rX a (C' (i+1) ts)).map (nK a):=by
     rw[<-aAG g1 h,ky];rfl
    have ih:=L5 k s mg a ha ha8 ts hl ht v hP hk x (i+1) m (EY b4.aC []) (kw.set i (Jl T.aK [] T.av [] [])) (kw.set i (Jl T.aK [] T.av [] [])) g2 W (by simpa using hc) (λq zY=>by rw[ni W];exact hcq q W) (λq ul h1 h2 h3=>by
     by_cases he:q=i
     .subst he;rw[g1] at h3;cases h3;exact hn
     .exact xT q ul W h2 h3)
    unfold aeg;rw[dm _ _ (by simp at rm ⊢;omega),ai,dD _ am,ai,hsj,ai,dD _ mr,ai]
    rw[kZ (l:=(rX a (C' i ts)).map (nK a)++ [Jl T.aK T.L T.av (T.ar.map (jU a)) T.aM]) am]
    simp only[Ro,bS g3 (W:O ts<4294967296)]
    rw[es];exact ih
   .rw[au hn];exact Ok.pure (hP λhh=>hn (hh i T g3 h g1))
 |_,_,0,_,_,_,_,hm,_,_,_=>by simp at hm
structure MB (m:aF):Prop where
 v7:om m.bc
 to:om m.kY
 dfn:Iw m.bu
def aFl (hn:1600000<D) (fB:D<4294967296) (b4 b6:af) (ts:bC) (h:∀T∈ts,Cq T):Ok (oA D b4 b6 ts) λr=>r.1=⟨b6.aC,ts⟩/\(r.2=I->fo r.1=0):=by
 unfold oA;rw[Kn D ⟨b6.aC,ts⟩ h hn fB,ai];exact Ok.pure ⟨rfl,λh=>by simpa using h⟩
def vD {ts:bC} {j:Nat} {T:ah} (h:∀ul∈ts,Cq ul) (hT:Cq T):∀ul∈ts.set j T,Cq ul:=λul hU=>by
 rcases PD hU with h1|rfl
 .exact h ul h1
 .exact hT
def PE {T:ah} (h:Cq T):Cq (tT f T):=λp hp=>by
 obtain ⟨q,hq,rfl⟩:=dL.1 hp;rw[aps];exact h q hq
def TG.yX {k:Nat} {T:ah} (h:TG k T):Cq T:=λp hp=>by have:=(h.kS p hp).2;omega
def Ok.of_eq {x y:G Y} {P:Y->Prop} (h:x=y) (k:Ok y P):Ok x P:=h ▸ k
def bool_and {a b:Bool} (h:(a&&b)=I):a=I/\b=I:=(bI _ _).mp h
def aFk (hn:1700000<D) (fB:D<4294967296) (s:af) (hs:SG s) (m:aF) (hm:MB m) (h1:1<=m.aQ) (h8:m.aQ<=8) (h6:m.aQ≠6) (j:Nat) (T:ah) (hj:m.aq=(j:Int)) (hT:s.ag[j]? =V T) (b4 b6:af) (hv:b6.aC=s.aC+1):
  Ok (xv D j (O T.L:Int) (A' (T.av<=m.bc)&&A' (m.bc<(O T.L:Int))) s m b4 b6 s.ag) λr=>r.2=I->lA s m r.1/\fo r.1=0:=by
 have gI:=(bk.1 hT).1;have hG:=hs.bG T (bF hT);have fH:∀ul∈s.ag,Cq ul:=λul hU=>(hs.bG ul hU).yX
 have hc8:=hG.cols;have hk1:=hG.lV;have no:Ok (V (s,U):G (af×Bool)) λr=>r.2=I->lA s m r.1/\fo r.1=0:=Ok.pure λh=>by cases h
 have done:∀(b4:af) (vv:af) (ts:bC),vv.aC=s.aC+1->(∀ul∈ts,Cq ul)->lA s m ⟨s.aC+1,ts⟩->Ok (oA D b4 vv ts) λr=>r.2=I->lA s m r.1/\fo r.1=0:=λb4 vv ts h2 h3 h4=>
  (aFl D W fB b4 vv ts h3).mono λr ⟨e,hr⟩ h=>⟨by rw[e,h2];exact h4,hr h⟩
 have mL:setAt s.ag j T=V s.ag:=by rw[dD _ gI,kZ hT]
 unfold xv;refine Ok.ite (λq=> ?_) λq1=> ?_
 .have q:m.aQ=1:=by simpa using q
  rw[EP,ai];refine Ok.ite (λ_=>no) λhr=>Ok.ite (λ_=>no) λhk=> ?_
  have hr:fJ m.bp=I:=by simpa using hr
  have hk:m.bp.aB=m.aB:=by simpa using hk
  rw[hT,ai,dm _ _ ap,ai,dD _ gI,ai]
  exact done _ _ _ hv (vD fH hG.yX) (.Te j T q hj hT hr hk)
 refine Ok.ite (λq=> ?_) λq2=> ?_
 .have q:m.aQ=2:=by simpa using q
  rw[hT,ai];refine Ok.ite (λ_=>by rw[mL,ai];exact no) λho=> ?_
  have ho:(A' (T.av<=m.bc)&&A' (m.bc<(O T.L:Int)))=I:=by
   cases hh:(A' (T.av<=m.bc)&&A' (m.bc<(O T.L:Int))) with
   |true=>rfl
   |false=>rw[hh] at ho;cases ho
  let ⟨o1,o2⟩:=bool_and ho;have o1:=ux o1;have o2:=ux o2;obtain ⟨c,hc⟩:∃c:Nat,m.bc=(c:Int):=⟨Eb m.bc,W⟩
  have dX:c<O T.L:=by omega
  have hx:T.L[c]? =V T.L[c]:=bJ dX;rw[EP,ai];refine Ok.ite (λ_=>by rw[mL,ai];exact no) λhr=> ?_
  have hr:fJ m.bp=I:=by simpa using hr
  rw[hc,gx dX,ai,cN,hx,ai];refine Ok.ite (λ_=>by rw[mL,ai];exact no) λhk=> ?_
  have hk:m.bp.aB=T.L[c].aB:=by simpa using hk
  rw[Ri D T ↑c W hG.cp W,ai]
  refine Ok.ite (λ_=>by rw[mL,ai];exact no) λhu=> ?_
  rw[mL,ai,hT,ai];have w:ba ((c:Int)+1)=((c+1:Nat):Int):=bS dX W
  have ct:ou (O T.L) (c:Int)=V c:=by unfold ou;rw[ax ⟨W,W⟩];rfl
  have cl:yH (O T.L) ((c+1:Nat):Int)=V (c+1):=by unfold yH;rw[ax ⟨W,W⟩];rfl
  have an:BK T.L c (C' (O T.L-(c+1)) (B' (0+(c+1)) T.L))=V (C' c T.L++B' (c+1) T.L):=by
   unfold BK;rw[cN,jc (l:=B' (c+1) T.L) am,ax ⟨W,W,ap⟩]
  rw[w,ct,ai,cl,ai,an,ai];have tok:TOK (O T.L:Int) ⟨T.aK,C' c T.L++B' (c+1) T.L,T.av,T.ar,T.aM⟩:=⟨by rw[zf dX];omega,hG.tok.refs,hG.tok.ref,hG.tok.Dt,hG.tok.kS⟩
  rw[Rh D _ (O T.L:Int) W tok ↑c (-1) ⟨W,W⟩ W,ai,dD _ gI,ai]
  exact done _ _ _ hv (vD fH (PE (T:=⟨T.aK,C' c T.L++B' (c+1) T.L,T.av,T.ar,T.aM⟩) hG.yX)) (.Vq j c T T.L[c] q hj hT hc hx W hr hk hu)
 refine Ok.ite (λq=> ?_) λq3=> ?_
 .have q:m.aQ=3:=by simpa using q
  refine Ok.ite (λ_=>no) λho=> ?_
  have ho:(A' (T.av<=m.bc)&&A' (m.bc<(O T.L:Int)))=I:=by
   cases hh:(A' (T.av<=m.bc)&&A' (m.bc<(O T.L:Int))) with
   |true=>rfl
   |false=>rw[hh] at ho;cases ho
  let ⟨o1,o2⟩:=bool_and ho;have o1:=ux o1;have o2:=ux o2;rw[hT,ai];refine Ok.ite (λ_=>no) λhk=>Ok.ite (λ_=>no) λhl=> ?_
  have hk:=Pu hk;have hl:m.kY<(O T.L:Int):=by simpa using hl
  obtain ⟨c,hc⟩:∃c:Nat,m.bc=(c:Int):=⟨Eb m.bc,W⟩
  obtain ⟨d,hd⟩:∃d:Nat,m.kY=(d:Int):=⟨Eb m.kY,W⟩
  have dX:c<O T.L:=by omega
  have qI:d<O T.L:=by omega
  have SU:rT (O T.L:Int) ((bW.mk I' 0):bW)=V (Va (O T.L) (bW.mk I' 0)):=by
   unfold rT;rw[ax ⟨W,W⟩];rfl
  rw[SU,ai,ai];let ⟨C1,e⟩:=avp (Rp (oA D) D) j m c d hc hd T.L hc8 dX qI s.ag T.L 0 D (EY b4.aC []) (EY b6.aC s.ag) (Va (O T.L) (bW.mk I' 0)) (Jl T.aK [] T.av T.ar T.aM) rfl W am (λq hq=>W) W
  refine Ok.of_eq e ?_;rw[mL,ai];unfold Rp;have tok:TOK (O T.L:Int) ⟨T.aK,vh T.L c d,T.av,T.ar,T.aM⟩:=⟨by rw[Qb dX qI];omega,hG.tok.refs,hG.tok.ref,hG.tok.Dt,hG.tok.kS⟩
  rw[hT,ai,Rh D _ (O T.L:Int) W tok m.bc m.kY hm.v7 W,ai,dD _ gI,ai]
  refine done _ _ _ hv (vD fH (PE (T:=⟨T.aK,vh T.L c d,T.av,T.ar,T.aM⟩) hG.yX)) ?_;have:=lA.move (s:=s) (m:=m) j c d T q hj hT hc hd dX qI W W
  rw[<-hc,<-hd] at this;exact this
 refine Ok.ite (λq=> ?_) λq4=> ?_
 .have q:m.aQ=4:=by simpa using q
  refine Ok.ite (λ_=>no) λhk=>Ok.ite (λ_=>no) λhl=> ?_
  have hk:=Pu hk;have hl:m.bc<(O T.L:Int):=by simpa using hl
  obtain ⟨c,hc⟩:∃c:Nat,m.bc=(c:Int):=⟨Eb m.bc,W⟩
  have dX:c<O T.L:=by omega
  have hx:T.L[c]? =V T.L[c]:=bJ dX;rw[hT,ai,hc,gx dX,ai,cN,hx,ai,dD _ dX,ai,dD _ gI,ai];exact done _ _ _ hv (vD fH hG.yX) (.SD j c T T.L[c] q hj hT hc hx)
 refine Ok.ite (λq=> ?_) λq5=> ?_
 .have q:m.aQ=5:=by simpa using q
  rw[hT,ai,dD _ gI,ai];exact done _ _ _ hv (vD fH hG.yX) (.SH j T q hj hT)
 refine Ok.ite (λq=> ?_) λq7=> ?_
 .have q:m.aQ=7:=by simpa using q
  have hl8:=hs.len;have aDv:CC j s.ag 0:=λq ul h=>by omega
  have key:=L5 (P:=λr=>r.2=I->lA s m r.1/\fo r.1=0) (Rn (oA D) D) s m j hj W s.ag W (λul hU=>⟨by have:=(hs.bG ul hU).refs;omega,λr hr=>by let ⟨_,_,r1,r2⟩:=(hs.bG ul hU).ref r hr;exact ⟨W,W⟩⟩) b6.aC (λ_ h=>by cases h) (λC1 kb kw g xT=>by
  unfold Rn;refine done _ _ _ hv (λul hU=> ?_) ?_
  .obtain ⟨or,hV,rfl⟩:=dL.1 hU;have hV':or∈s.ag:=by
    rcases fk.1 hV with h|h
    .exact oB h
    .exact nh h
   exact fH or hV'
  .refine .Vp j T q hj hT λi ul hi hU r hr=> ?_
   have:=xT i ul (bk.1 hU).1 hi hU;unfold vg at this;rw[jR] at this;have:=this r hr;simpa using this) s.ag 0 D (EY b4.aC []) s.ag s.ag rfl W rfl (λ_ _=>rfl) aDv
  rw[show (rX j (C' 0 s.ag)).map (nK ↑j)= [] by simp[rX]] at key
  exact key
 .have q:m.aQ=8:=by simp at q1 q2 q3 q4 q5 q7;omega
  rw[hT,ai];refine Ok.ite (λ_=>by rw[mL,ai];exact no) λho=> ?_
  have ho:(A' (T.av<=m.bc)&&A' (m.bc<(O T.L:Int)))=I:=by
   cases hh:(A' (T.av<=m.bc)&&A' (m.bc<(O T.L:Int))) with
   |true=>rfl
   |false=>rw[hh] at ho;cases ho
  let ⟨o1,o2⟩:=bool_and ho;have o1:=ux o1;have o2:=ux o2;obtain ⟨c,hc⟩:∃c:Nat,m.bc=(c:Int):=⟨Eb m.bc,W⟩
  have dX:c<O T.L:=by omega
  have hx:T.L[c]? =V T.L[c]:=bJ dX;rw[hc,gx dX,ai,cN,hx,ai,aqR D m.cg _ W,ai]
  refine Ok.ite (λ_=>by rw[mL,ai];exact no) λhp=> ?_
  rw[Ri D T ↑c W hG.cp W,ai]
  refine Ok.ite (λ_=>by rw[mL,ai];exact no) λhu=> ?_
  rw[mL,ai];exact done _ _ _ hv fH (.Cy j c T T.L[c] q hj hT hc hx W (by simpa using hp) hu)
def aRq (hn:1700000<D) (fB:D<4294967296) (s:af) (hs:SG s) (m:aF) (hm:MB m):Ok (F95 D s m) λr=>r.2=I->rA m=I/\lA s m r.1/\fo r.1=0:=by
 have no:Ok (V (s,U):G (af×Bool)) λr=>r.2=I->rA m=I/\lA s m r.1/\fo r.1=0:=Ok.pure λh=>by cases h
 have hl8:=hs.len;have hv0:=hs.v0;have FC:=hs.v1;unfold F95 VW;refine Ok.bind (aLs D m) λb hb=>Ok.ite (λ_=>no) λlL=> ?_
 have rm:=hb (by simpa using lL)
 have e:=avo (C7 D) s.ag W (λT hT=>(hs.bG T hT).cp) s m s.ag 0 D (EY 0 []) (EY (ba (s.aC+1)) []) rfl W
 refine Ok.of_eq e ?_;rw[cR W W]
 have h18:1<=m.aQ/\m.aQ<=8:=by
  unfold rA at rm;simp only[bI,lB] at rm;exact ⟨rm.1,rm.2.1⟩
 unfold C7;refine Ok.ite (λq=> ?_) λq6=>Ok.ite (λ_=>no) λt0=>Ok.ite (λ_=>no) λt1=> ?_
 .have q:m.aQ=6:=by simpa using q
  rw[abu D m.bu hm.dfn.len hm.dfn.ref W,ai,dm _ _ ap,ai,dD _ am,ai,kZ am]
  have hz:∀T∈s.ag++ [m.bu],Cq T:=λT hT=>by
   rcases fk.1 hT with h|h
   .exact (hs.bG T h).yX
   .rw[gy.1 h];exact λp hp=>by have:=hm.dfn.kS p hp;omega
  rw[Kn D ⟨s.aC+1,s.ag++ [m.bu]⟩ hz W fB,ai]
  exact Ok.pure λh=>⟨rm,.Nt q,by simpa using h⟩
 .have q6:m.aQ≠6:=by simpa using q6
  have t0:=Pu t0;have t1:m.aq<(O s.ag:Int):=by simpa using t1
  obtain ⟨j,hj⟩:∃j:Nat,m.aq=(j:Int):=⟨Eb m.aq,W⟩
  have gI:j<O s.ag:=by omega
  have hT:s.ag[j]? =V s.ag[j]:=bJ gI;rw[hj,gx gI,ai,cN,hT,ai];have fin:=λb4 b6 hv=>aFk D hn fB s hs m hm h18.1 h18.2 q6 j s.ag[j] hj hT b4 b6 hv
  have mL:setAt s.ag j s.ag[j]=V s.ag:=by rw[dD _ gI,kZ hT]
  refine Ok.ite (λhk=> ?_) λhk=> ?_
  .have hk:s.ag[j].av<=m.bc:=by simpa using hk
   rw[mL,ai];have:=fin (EY 0 []) (EY (s.aC+1) s.ag) rfl;rw[qW hk,jj] at this;exact this.mono λr hr h=>⟨rm,hr h⟩
  .have hk:¬s.ag[j].av<=m.bc:=by simp at hk;omega
   rw[mL,ai];have:=fin (EY 0 []) (EY (s.aC+1) s.ag) rfl;rw[tv hk,ig] at this;exact this.mono λr hr h=>⟨rm,hr h⟩
section
mutual
def aah {N:Int} {f g:Int->Int}:∀{p:aj},pS N p=I->(∀x,0<=x->x<N->ry x p=I->f x=g x)->og f p=og g p
 |⟨op,c,l,r,ge⟩,hp,h=>by
  simp only[pS,bI] at hp;let ⟨rP,N3⟩:=hp;have ha:=abn N3 λx h0 h1 h2=>h x h0 h1 (by simp[ry,h2])
  simp only[og,ha];by_cases h3:op=3
  .subst h3;simp only[gV,az,bI] at rP;have ho:∀o:bP,Di N o=I->(∀x,rW x o=I->ry x ⟨3,c,l,r,ge⟩=I)->ln f o=ln g o:=λo ho hc=>by
    unfold ln;split
    .rename_i hk;have jz:o.aB=1:=by simpa using hk
     simp[Di,jz] at ho;rw[h o.dw ho.1 ho.2 (hc _ (by simp[rW,jz]))]
    .rfl
   rw[ho l rP.1 λx hx=>by simp[ry,hx],ho r rP.2 λx hx=>by simp[ry,hx]]
  .have dd:(op==3)=U:=by simpa using h3
   rw[dd] at rP;simp at rP;rw[zb rP.1,zb rP.1,zb rP.2,zb rP.2]
def abn {N:Int} {f g:Int->Int}:∀{xs:bA},NC N xs=I->(∀x,0<=x->x<N->sH x xs=I->f x=g x)->j0 f xs=j0 g xs
 | [],_,_=>by simp[j0]
 |p::xs,hp,h=>by
  simp only[NC,bI] at hp;simp only[j0,aah hp.1 λx h0 h1 h2=>h x h0 h1 (by simp[sH,h2]),abn hp.2 λx h0 h1 h2=>h x h0 h1 (by simp[sH,h2])]
end
def aai {N:Int} {g:Int->Int} {T:ah} (hr:∀r∈T.ar,∀c∈r.L,f c=g c) (hp:∀p∈T.aM,pS N p=I/\∀x,0<=x->x<N->ry x p=I->f x=g x):tT f T=tT g T:=by
 unfold tT;have e1:T.ar.map (gO f)=T.ar.map (gO g):=EV λr h=>by
  unfold gO;rw[EV λc hc=>hr r h c hc]
 have e2:T.aM.map (og f)=T.aM.map (og g):=EV λp h=>aah (hp p h).1 (hp p h).2
 rw[e1,e2]
def abo:RO D K ae=V (fJ K&&K.aB==ae):=by
 unfold RO alL;rw[abr,ai];cases fJ K<;>simp
def ahX {C:List Y} {c:Nat} (h:c<O C):Ub C (c:Int) ((c+1:Nat):Int)=V (C' c C++B' (c+1) C,C' c C++B' (c+1) C):=by
 unfold Ub;rw[ax ⟨W,W,W⟩]
 rfl
section
variable {n:Nat} {s:af} {m:aF} {j:Nat} {T:ah}
variable (hs:SG s) (hj:m.aq=(j:Int)) (hT:s.ag[j]? =V T)
def aLr (v:Int) (hv:fJ m.bp=I) (hk:m.bp.aB=m.aB):Fo n (MH (EY v s.ag) m)=V (I,MH (EY v (s.ag.set j ⟨T.aK,T.L++ [⟨m.aK,m.aB⟩],T.av,T.ar,T.aM⟩)) m):=by
 have gI:=(bk.1 hT).1;have hG:=hs.bG T (bF hT);have h8:=hG.cols;unfold Fo amo;rw[Kp n v s.ag m j hj gI,ai];simp only[hT,ai,dm T.L [(⟨m.aK,m.aB⟩:bW)] ap,abo,hv,hk,gV,jj,dD _ gI]
def aLq (v:Int) (gP:m.aQ=2) (c:Nat) (x:bW) (hc:m.bc=(c:Int)) (hx:T.L[c]? =V x) (hk:T.av<=(c:Int)) (hv:fJ m.bp=I) (xy:m.bp.aB=x.aB) (hu:DT (c:Int) T=U) (hn:100000<n):
  Fp n (MH (EY v s.ag) m)=V (I,MH (EY v (s.ag.set j (tT (gu (c:Int) (-1)) ⟨T.aK,C' c T.L++B' (c+1) T.L,T.av,T.ar,T.aM⟩))) m):=by
 have gI:=(bk.1 hT).1;have dX:=(bk.1 hx).1;have hG:=hs.bG T (bF hT);have h8:=hG.cols;have mL:setAt s.ag j T=V s.ag:=by rw[dD _ gI,kZ hT]
 have Og:=Rg n v s.ag m j T hj hT m.bc;rw[hc,qW hk,qW (show (c:Int)<(O T.L:Int) by omega)] at Og
 have NL:=aqF n v s.ag m j T hj hT W hG.cp W
 rw[hc,hu] at NL;have w:ba ((c:Int)+1)=((c+1:Nat):Int):=bS dX W
 unfold Fp amn;rw[Kp n v s.ag m j hj gI,ai];simp only[hT,ai,mL,hc,Og,qN,cO,ay,aw,gx dX,cN,hx,abo,hv,xy,gV,NL,w];rw[show LU n T.L ↑c ((c+1:Nat):Int)=V (C' c T.L++B' (c+1) T.L,C' c T.L++B' (c+1) T.L) from ahX dX,ai];simp only[dD _ gI,ai];have tok:TOK (O T.L:Int) ⟨T.aK,C' c T.L++B' (c+1) T.L,T.av,T.ar,T.aM⟩:=⟨by rw[zf dX];omega,hG.tok.refs,hG.tok.ref,hG.tok.Dt,hG.tok.kS⟩
 rw[aqE n v _ m j _ hj (lR gI) (.inl gP) (by rw[hc];exact ⟨W,W⟩) (O T.L:Int) W tok W,ai,vy]
 have vk:te ↑c T.ar=U/\tf ↑c T.aM=U:=by
  unfold DT at hu;exact T4.1 hu
 have at2:∀y:Int,0<=y->y≠(c:Int)->lH m y=gu ↑c (-1) y:=λy h0 h1=>by
  unfold lH gu;rw[ax gP,hc,au (show ¬y<0 by omega),au h1,ax (show (-1:Int)<0 by omega)]
 have hmt:tT (lH m) ⟨T.aK,C' c T.L++B' (c+1) T.L,T.av,T.ar,T.aM⟩=tT (gu ↑c (-1)) ⟨T.aK,C' c T.L++B' (c+1) T.L,T.av,T.ar,T.aM⟩:=by
  refine aai (N:=(O T.L:Int)) (λr hr y hy=> ?_) λp hp=>⟨(hG.kS p hp).1,λy h0 h1 h2=> ?_⟩
  .refine at2 y ((hG.ref r hr).2.1 y hy).1 λe=> ?_
   have h3:=vk.1;unfold te at h3;rw[List.any_eq_false] at h3;exact h3 r hr (by rw[<-e];exact qW hy)
  .refine at2 y h0 λe=> ?_
   have h3:=vk.2;unfold tf at h3;rw[List.any_eq_false] at h3;exact h3 p hp (by rw[<-e];exact h2)
 rw[hmt]
def aLp (v:Int) (gP:m.aQ=3) (c d:Nat) (hc:m.bc=(c:Int)) (hd:m.kY=(d:Int)) (h1:c<O T.L) (h2:d<O T.L) (hk:T.av<=(c:Int)) (xV:T.av<=(d:Int)) (hn:100000<n):
  H4 n (MH (EY v s.ag) m)=V (I,MH (EY v (s.ag.set j (tT (gu (c:Int) (d:Int)) ⟨T.aK,vh T.L c d,T.av,T.ar,T.aM⟩))) m):=by
 have gI:=(bk.1 hT).1;have hG:=hs.bG T (bF hT);have h8:=hG.cols;have hk1:=hG.lV;have Og:=Rg n v s.ag m j T hj hT m.bc;rw[hc,qW hk,qW (show (c:Int)<(O T.L:Int) by omega)] at Og
 have aHp:=Rg n v s.ag m j T hj hT m.kY;rw[hd,qW xV,qW (show (d:Int)<(O T.L:Int) by omega)] at aHp
 have w:ba ((c:Int)+1)=((c+1:Nat):Int):=bS h1 W
 have qI:=zf h1;have hins:R8 (C' c T.L++B' (c+1) T.L) ↑d [T.L[c]]=V (vh T.L c d,vh T.L c d):=by
  unfold R8;rw[ax ⟨W,W,W,am,W,am⟩]
  unfold vh;rw[bJ h1];rfl
 unfold H4 amm;rw[Kp n v s.ag m j hj gI,ai];simp only[hc,Og,ai,qN,cO,ay,aw,hd,aHp,hT,gx h1,cN,bJ h1,w];rw[show LU n T.L ↑c ((c+1:Nat):Int)=V (C' c T.L++B' (c+1) T.L,C' c T.L++B' (c+1) T.L) from ahX h1,ai];rw[show aFf n (C' c T.L++B' (c+1) T.L) ↑d [T.L[c]]=V (vh T.L c d,vh T.L c d) from hins,ai];simp only[dD _ gI,ai];have tok:TOK (O T.L:Int) ⟨T.aK,vh T.L c d,T.av,T.ar,T.aM⟩:=⟨by rw[Qb h1 h2];omega,hG.tok.refs,hG.tok.ref,hG.tok.Dt,hG.tok.kS⟩
 rw[aqE n v _ m j _ hj (lR gI) (.inr gP) (by rw[hc];exact ⟨W,W⟩) (O T.L:Int) W tok W,ai,vy]
 have at3:∀y:Int,0<=y->lH m y=gu ↑c (d:Int) y:=λy h0=>by
  unfold lH gu;rw[au (show ¬m.aQ=2 by omega),ax gP,hc,hd,au (show ¬y<0 by omega),au (show ¬(d:Int)<0 by omega)]
  by_cases e1:y=(c:Int)
  .rw[ax e1,ax e1]
  .rw[au e1,au e1];by_cases e2:(c:Int)<y/\y<=(d:Int)
   .rw[ax e2,ax (show (c:Int)<(d:Int)/\(c:Int)<y/\y<=(d:Int) by omega)]
   .rw[au e2,au (show ¬((c:Int)<(d:Int)/\(c:Int)<y/\y<=(d:Int)) by omega)]
    by_cases e3:(d:Int)<=y/\y<(c:Int)
    .rw[ax e3,ax (show (d:Int)<(c:Int)/\(d:Int)<=y/\y<(c:Int) by omega)]
    .rw[au e3,au (show ¬((d:Int)<(c:Int)/\(d:Int)<=y/\y<(c:Int)) by omega)]
 have hmt:tT (lH m) ⟨T.aK,vh T.L c d,T.av,T.ar,T.aM⟩=tT (gu ↑c (d:Int)) ⟨T.aK,vh T.L c d,T.av,T.ar,T.aM⟩:=aai (N:=(O T.L:Int)) (λr hr y hy=>at3 y ((hG.ref r hr).2.1 y hy).1) λp hp=>⟨(hG.kS p hp).1,λy h0 h1 h2=>at3 y h0⟩
 rw[hmt]
def aLo (hs:SG s) (hj:m.aq=(j:Int)) (hT:s.ag[j]? =V T) (v:Int) (c:Nat) (x:bW) (hc:m.bc=(c:Int)) (hx:T.L[c]? =V x):
  HW n (MH (EY v s.ag) m)=V (I,MH (EY v (s.ag.set j ⟨T.aK,T.L.set c ⟨m.aK,x.aB⟩,T.av,T.ar,T.aM⟩)) m):=by
 have gI:=(bk.1 hT).1;have dX:=(bk.1 hx).1;unfold HW aml;rw[Kp n v s.ag m j hj gI,ai];have q1:¬((c:Int)<0):=by omega
 have q2:(c:Int)<(O T.L:Int):=by omega
 simp only[hT,ai,hc,q1,q2,aR,aO,cO,ay,aw,gx dX,cN,hx,dD _ dX,dD _ gI]
def aLn (v:Int):
  Ic n (MH (EY v s.ag) m)=V (I,MH (EY v (s.ag.set j ⟨m.aK,T.L,T.av,T.ar,T.aM⟩)) m):=by
 have gI:=(bk.1 hT).1;unfold Ic amk;rw[Kp n v s.ag m j hj gI,ai];simp only[hT,ai,dD _ gI]
def aLm (hm:MB m) (v:Int) (hn:100000<n):
  Ih n (MH (EY v s.ag) m)=V (I,MH (EY v (s.ag++ [m.bu])) m):=by
 have h8:=hs.len;unfold Ih amj;rw[aBv n m.bu hm.dfn.len hm.dfn.ref hm.dfn.kS W,ai]
 simp only[dm s.ag [m.bu] ap,ai]
 rw[dD _ am,ai,kZ am]
end
def acA (k:Int->Int->aJ->bC->G (Bool×aJ)) (i3 t16 t17:Int) (mg:aF) (a:Nat) (ha:mg.aq=(a:Int)) (v:Int) (kw:bC) (j:Nat) (ch:bA) (cs:dr) (rs:bR) (hl:O rs<=1000) (ho:i3=(a:Int)\/vg a rs=I):∀(x:bR) (i m:Nat) (tt:bC) (rr:ah),B' i rs=x->O x<m->
  J0 k m i3 t16 t17 (O rs:Int) (i:Int) (MH (EY v tt) mg) kw rr j ch cs rs=(M (setAt kw j (Jl rr.aK cs rr.av rs ch)) λz2=>k t16 t17 (MH (EY v z2) mg) z2)
 | [],i,m+1,tt,rr,hd,hm=>by
  let ⟨hi,hq⟩:=eu hd
  simp only[J0,W8,hq,aR,ay,aw]
 |r::x,i,m+1,tt,rr,hd,hm=>by
  let ⟨g1,g2,g3,hq⟩:=dN hd
  have ih:=acA k i3 t16 t17 mg a ha v kw j ch cs rs hl ho x (i+1) m kw (Jl rr.aK [] rr.av [] []) g2 (by simp at hm;omega)
  have hs:setAt rs i r=V rs:=by rw[dD _ g3,kZ g1]
  simp only[J0,W8,hq,aO,az,gx g3,ai,cN,g1,ha,hs,bS g3 W]
  by_cases h:i3=(a:Int)
  .have h1:(i3 !=(a:Int))=U:=by simpa using h
   simp only[h1,ay,aw];exact ih
  .have h1:(i3 !=(a:Int))=I:=by simpa using h
   have h2:(r.aq==(a:Int))=U:=by
    rcases ho with ho|ho
    .exact absurd ho h
    .unfold vg at ho;rw[jR] at ho;have:=ho r (bF g1);simpa using this
   simp only[h1,az,h2,ay,aw];exact ih
 |_,_,0,_,_,_,hm=>by simp at hm
def acz (k:aJ->bC->G (Bool×aJ)) (mg:aF) (a:Nat) (ha:mg.aq=(a:Int)) (v:Int) (ts:bC) (hl:O ts<=1000) (ht:∀T∈ts,O T.ar<=1000) (xT:CC a ts (O ts)):∀(x:bC) (i m:Nat) (tt:bC),B' i ts=x->O x+1000<m->
  Gm k m (O ts:Int) (i:Int) (MH (EY v tt) mg) ts=k (MH (EY v ts) mg) ts
 | [],i,m+1,tt,hd,hm=>by
  let ⟨hi,hq⟩:=eu hd
  simp only[Gm,W6,hq,aR,ay,aw]
 |T::x,i,m+1,tt,hd,hm=>by
  let ⟨g1,g2,g3,hq⟩:=dN hd
  simp at hm;have hT:=ht T (bF g1);have ih:=acz k mg a ha v ts hl ht xT x (i+1) m ts g2 W
  have inner:=acA (W7 (Gm k m) m) ↑i (O ts:Int) ↑i mg a ha v ts i T.aM T.L T.ar hT (by
   by_cases h:i=a
   .exact .inl W
   .exact .inr (xT i T g3 h g1)) T.ar 0 m ts (Jl T.aK [] T.av [] []) rfl W
  have hs:setAt ts i T=V ts:=by rw[dD _ g3,kZ g1]
  simp only[Gm,W6,hq,aO,az,gx g3,ai,cN,g1];refine inner.trans ?_;show (setAt ts i T).bind _=_;rw[hs,ai];simp only[W7,bS g3 (W:O ts<4294967296)]
  exact ih
 |_,_,0,_,_,hm=>by simp at hm
def acy (k:Int->Int->aJ->bC->G (Bool×aJ)) (t74 t75:Int) (mg:aF) (a:Nat) (ha:mg.aq=(a:Int)) (ha8:a<=1000) (v:Int) (cs:dr) (ch:bA) (kw:bC) (j:Nat) (rs:bR) (hl:O rs<=1000) (hr:∀r∈rs,om r.aq):∀(x:bR) (i m:Nat) (tt:bC) (b8 rr:ah),B' i rs=x->O x<m->
  Gl k m t74 t75 (O rs:Int) (i:Int) (MH (EY v tt) mg) b8 cs ch kw rr j (gA (jU a) rs i)=(M (setAt kw j (Jl rr.aK cs rr.av (rs.map (jU a)) ch)) λz2=>k t74 t75 (MH (EY v z2) mg) z2)
 | [],i,m+1,tt,b8,rr,hd,hm=>by
  let ⟨hi,hq⟩:=eu hd
  simp only[Gl,O9,hq,aR,ay,aw,uC _ _ hi]
 |r::x,i,m+1,tt,b8,rr,hd,hm=>by
  let ⟨g1,g2,g3,hq⟩:=dN hd
  have iN:=hr r (bF g1);have ih:=acy k t74 t75 mg a ha ha8 v cs ch kw j rs hl hr x (i+1) m kw (Jl b8.aK cs b8.av (gA (jU a) rs (i+1)) ch) (Jl rr.aK [] rr.av [] []) g2 (by simp at hm;omega)
  have N5:i<O (gA (jU a) rs i):=by rw[ma];exact g3
  have hs:setAt (gA (jU a) rs i) i r=V (gA (jU a) rs i):=by rw[dD _ N5,kZ (oe _ g1)]
  have hs2:(gA (jU a) rs i).set i r=gA (jU a) rs i:=kZ (oe _ g1);have e:=uB (jU a) g1;by_cases h:(a:Int)<r.aq
  .have hd:jU ↑a r=br.mk r.L (r.aq-1):=by
    unfold jU gu;rw[ax W,ax h]
   rw[hd] at e;simp only[Gl,O9,hq,aO,az,gx N5,ai,cN,oe _ g1,ha,h,hs,hs2,cR (x:=r.aq-1) (by have:=iN.1;omega) (by have:=iN.2;omega),dD _ N5,e,bS g3 W]
   exact ih
  .have hd:jU ↑a r=r:=by
    unfold jU gu;rw[ax W,au h]
   rw[hd] at e;have e2:gA (jU a) rs i=gA (jU a) rs (i+1):=by rw[<-e,kZ (oe _ g1)]
   simp only[Gl,O9,hq,aO,az,gx N5,ai,cN,oe _ g1,ha,h,aR,ay,aw,hs,bS g3 W]
   rw[e2];exact ih
 |_,_,0,_,_,_,_,hm=>by simp at hm
def acx (k:aJ->bC->G (Bool×aJ)) (mg:aF) (a:Nat) (ha:mg.aq=(a:Int)) (ha8:a<=1000) (v:Int) (ts:bC) (hl:O ts<=1000) (ht:∀T∈ts,O T.ar<=1000/\∀r∈T.ar,om r.aq):∀(x:bC) (i m:Nat) (tt:bC),B' i ts=x->O x+1000<m->
  Gk k m (O ts:Int) (i:Int) (MH (EY v tt) mg) (gA (nK a) ts i)=k (MH (EY v (ts.map (nK a))) mg) (ts.map (nK a))
 | [],i,m+1,tt,hd,hm=>by
  let ⟨hi,hq⟩:=eu hd
  simp only[Gk,W4,hq,aR,ay,aw,uC _ _ hi]
 |T::x,i,m+1,tt,hd,hm=>by
  let ⟨g1,g2,g3,hq⟩:=dN hd
  simp at hm;have hT:=ht T (bF g1);have ih:=acx k mg a ha ha8 v ts hl ht x (i+1) m (gA (nK a) ts (i+1)) g2 W
  have N5:i<O (gA (nK a) ts i):=by rw[ma];exact g3
  have inner:=acy (W5 (Gk k m) m) (O ts:Int) ↑i mg a ha ha8 v T.L T.aM (gA (nK a) ts i) i T.ar hT.1 hT.2 T.ar 0 m (gA (nK a) ts i) T (Jl T.aK [] T.av [] []) rfl W
  rw[zP] at inner;have e:(gA (nK a) ts i).set i (Jl T.aK T.L T.av (T.ar.map (jU a)) T.aM)=gA (nK a) ts (i+1):=uB (nK a) g1;simp only[Gk,W4,hq,aO,az,gx N5,ai,cN,oe _ g1];refine inner.trans ?_;show (setAt _ i (Jl T.aK T.L T.av (T.ar.map (jU a)) T.aM)).bind _=_;rw[dD _ N5,e,ai];simp only[W5,bS g3 (W:O ts<4294967296)]
  exact ih
 |_,_,0,_,_,hm=>by simp at hm
def aLl {n:Nat} {s:af} {m:aF} {j:Nat} (hs:SG s) (hj:m.aq=(j:Int)) (gI:j<O s.ag) (v:Int) (hr:∀i ul,i≠j->s.ag[i]? =V ul->∀r∈ul.ar,r.aq≠(j:Int)) (hn:100000<n):
  Ik n (MH (EY v s.ag) m)=V (I,MH (EY v ((C' j s.ag++B' (j+1) s.ag).map (nK (j:Int)))) m):=by
 have h8:=hs.len;have xT:CC j s.ag (O s.ag):=λq ul _ dd hU=>by
  unfold vg;rw[jR];intro r iN;have:=hr q ul dd hU r iN;simpa using this
 have qI:=zf gI;unfold Ik amh;have e1:=acz (W3 n) m j hj v s.ag W (λT hT=>by have:=(hs.bG T hT).refs;omega) xT s.ag 0 n s.ag rfl W
 refine Eq.trans e1 ?_;unfold W3;have w:ba ((j:Int)+1)=((j+1:Nat):Int):=bS gI W
 simp only[hj,w];rw[show aFe n s.ag ↑j ((j+1:Nat):Int)=V (C' j s.ag++B' (j+1) s.ag,C' j s.ag++B' (j+1) s.ag) from ahX gI,ai];have FF:∀T∈C' j s.ag++B' (j+1) s.ag,T∈s.ag:=λT hT=>by
  rcases fk.1 hT with h|h
  .exact oB h
  .exact nh h
 have e2:=acx (ami n) m j hj W v (C' j s.ag++B' (j+1) s.ag) W (λT hT=>⟨by have:=(hs.bG T (FF T hT)).refs;omega,λr iN=>by let ⟨_,_,r1,r2⟩:=(hs.bG T (FF T hT)).ref r iN;exact ⟨W,W⟩⟩) (C' j s.ag++B' (j+1) s.ag) 0 n (C' j s.ag++B' (j+1) s.ag) rfl W
 rw[zP] at e2;exact e2
end
def ab2:∀{a b c:List UInt8},Sx a b=I->Sx b c=I->Sx a c=I
 |_,[],_,h,_=>by cases ‹List UInt8› <;>simp[Sx] at h
 |_,_::_,[],_,h=>by simp[Sx] at h
 | [],_::_,_::_,_,_=>by simp[Sx]
 |x::a,y::b,z::c,h1,h2=>by
  rw[aaV] at h1 h2 ⊢;simp only[tG,lB,bI,tD] at h1 h2 ⊢;rcases h1 with h1|⟨rfl,h1⟩<;>rcases h2 with h2|⟨rfl,h2⟩
  .exact .inl (UInt8.lt_trans h1 h2)
  .exact .inl h1
  .exact .inl h2
  .exact .inr ⟨rfl,ab2 h1 h2⟩
def amY {a b:aP}:mV a b= -1↔a.aB<b.aB\/(a.aB=b.aB/\(a.dt<b.dt\/(a.dt=b.dt/\Sx a.cH.toList b.cH.toList=I))):=by
 unfold mV;split
 .rename_i h;simp[h]
 .split
  .rename_i h1 h;constructor
   .intro h;omega
   .intro h;omega
  .have e:a.aB=b.aB:=by omega
   split
   .rename_i h;simp[e,h]
   .split
    .constructor
     .intro h;omega
     .intro h;omega
    .have e2:a.dt=b.dt:=by omega
     split
     .rename_i h;simp[e,e2,h]
     .rename_i h;split
      .constructor
       .intro h;omega
       .rintro (h'|⟨_,h'|⟨_,h'⟩⟩)
        .omega
        .omega
        .exact absurd h' h
      .constructor
       .intro h;omega
       .rintro (h'|⟨_,h'|⟨_,h'⟩⟩)
        .omega
        .omega
        .exact absurd h' h
def art {a b c:aP} (h1:mV a b= -1) (h2:mV b c= -1):mV a c= -1:=by
 rw[amY] at*;rcases h1 with h1|⟨e1,h1⟩<;>rcases h2 with h2|⟨e2,h2⟩
 .left;omega
 .left;omega
 .left;omega
 .right;refine ⟨W,?_⟩
  rcases h1 with h1|⟨e3,h1⟩<;>rcases h2 with h2|⟨e4,h2⟩
  .left;omega
  .left;omega
  .left;omega
  .exact .inr ⟨W,ab2 h1 h2⟩
def I1 {a b:aP} (h:mV a b=0):a=b:=by
 unfold mV at h;split at h
 .cases h
 .split at h
  .cases h
  .split at h
   .cases h
   .split at h
    .cases h
    .split at h
     .cases h
     .split at h
      .rename_i h5;let ⟨x,y,z⟩:=a;let ⟨x',y',z'⟩:=b;simp only at*;rw[show x=x' by omega,show y=y' by omega,h5]
      .cases h
def tO:∀{x y:aU},eJ x y=0->x=y
 | [],[],_=>rfl
 | [],_::_,h=>by simp[eJ] at h
 |_::_,[],h=>by simp[eJ] at h
 |a::x,b::y,h=>by
  simp only[eJ] at h;split at h
  .rename_i h0;rw[I1 h0,tO h]
  .exact absurd h (by assumption)
def BY {y:aU}:eJ x y=0↔x=y:=⟨tO,λh=>h ▸ sn x⟩
def aaq:∀{x y z:aU},eJ x y= -1->eJ y z= -1->eJ x z= -1
 | [],[],_,h,_=>by simp[eJ] at h
 | [],_::_,[],_,h=>by simp[eJ] at h
 | [],_::_,_::_,_,_=>by simp[eJ]
 |_::_,[],_,h,_=>by simp[eJ] at h
 |_::_,_::_,[],_,h=>by simp[eJ] at h
 |a::x,b::y,c::z,h1,h2=>by
  simp only[eJ] at h1 h2 ⊢;split at h1
  .rename_i e1;have e1:=I1 e1;subst e1;split at h2
   .rename_i e2;rw[ax e2];exact aaq h1 h2
   .rename_i e2;rw[au e2];exact h2
  .split at h2
   .rename_i e2;have e2:=I1 e2;subst e2;rw[au W];exact h1
   .have:=art h1 h2;rw[au W];exact this
abbrev eV (T:ah) (r:aU):aU:=C' (Eb T.av) r
def lt:Prop:=eJ S aL= -1
instance (a b:aU):Decidable (lt a b):=inferInstanceAs (Decidable (_=_))
def lt_irrefl:¬lt S S:=λh=>by have:=sn S;unfold lt at h;omega
def lt_trans {a b c:aU} (h1:lt a b) (h2:lt b c):lt a c:=aaq h1 h2
def lt_asymm {a b:aU} (h:lt a b):¬lt b a:=λh'=>lt_irrefl a (lt_trans h h')
def UU:lt S aL\/S=aL\/lt aL S:=by
 rcases DY S aL with h|h|h
 .exact .inl h
 .exact .inr (.inl (tO h))
 .exact .inr (.inr (by show eJ aL S= -1;rw[Fi S aL,h]))
def xf {a b:aU}:eJ a b<0↔lt a b:=by
 unfold lt;rcases DY a b with h|h|h<;>omega
def Ord (T:ah) (ii:bz):Prop:=ii.Pairwise λa b=>lt (eV T a) (eV T b)
def mX (N ii:bz):bz:=ii.filter (λr=>A' (lt (eV H r) S))++N++ii.filter (λr=>A' (lt S (eV H r)))
def Br {T:ah} {k:aU} {N ii:bz}:r∈mX T k N ii↔(r∈ii/\eV T r≠k)\/r∈N:=by
 unfold mX;simp only[fk,uX,lB];constructor
 .rintro ((⟨h1,h2⟩|h)|⟨h1,h2⟩)
  .exact .inl ⟨h1,λe=>lt_irrefl _ (e ▸ h2)⟩
  .exact .inr h
  .exact .inl ⟨h1,λe=>lt_irrefl _ (e ▸ h2)⟩
 .rintro (⟨h1,h2⟩|h)
  .rcases UU (eV T r) k with h|h|h
   .exact .inl (.inl ⟨h1,h⟩)
   .exact absurd h h2
   .exact .inr ⟨h1,h⟩
  .exact .inl (.inr h)
def ahQ {T:ah} {k:aU} {N ii:bz} (h:Ord T ii) (hN:N= []\/∃r,N= [r]/\eV T r=k):Ord T (mX T k N ii):=by
 unfold Ord mX at*;have hN1:∀r∈N,eV T r=k:=by
  rcases hN with rfl|⟨r,rfl,e⟩
  .simp
  .simpa using e
 rw[AZ,AZ];refine ⟨⟨h.filter _,?_,λa ha b hb=> ?_⟩,h.filter _,λa ha b hb=> ?_⟩
 .rcases hN with rfl|⟨r,rfl,e⟩<;>simp
 .rw[hN1 b hb];simpa using (uX.1 ha).2
 .have hb:lt k (eV T b):=by simpa using (uX.1 hb).2
  rcases fk.1 ha with ha|ha
  .exact lt_trans (by simpa using (uX.1 ha).2) hb
  .rw[hN1 a ha];exact hb
def filter_all {p:Y->Bool} {l:List Y} (h:∀x∈l,p x=I):l.filter p=l:=IG.2 h
def filter_none {p:Y->Bool} {l:List Y} (h:∀x∈l,p x=U):l.filter p= []:=Eu.2 λx hx=>by rw[h x hx];simp
def aCt {T:ah} {k:aU} {N rt B:bz} (hA:∀r∈rt,lt (eV T r) k) (hB:∀r∈B,lt k (eV T r)):mX T k N (rt++B)=rt++N++B:=by
 unfold mX;rw[Ew,Ew,filter_all (λx hx=>by simpa using hA x hx),filter_none (λx hx=>by simpa using lt_asymm (hB x hx)),filter_none (l:=rt) (λx hx=>by simpa using lt_asymm (hA x hx)),filter_all (l:=B) (λx hx=>by simpa using hB x hx)]
 simp
def ayg {T:ah} {k q:aU} {N rt B:bz} (hA:∀r∈rt,lt (eV T r) k) (hq:eV T q=k) (hB:∀r∈B,lt k (eV T r)):mX T k N (rt++q::B)=rt++N++B:=by
 unfold mX;have h1:A' (lt (eV T q) k)=U:=by rw[hq];simpa using lt_irrefl k
 have h2:A' (lt k (eV T q))=U:=by rw[hq];simpa using lt_irrefl k
 rw[Ew,Ew,mD,mD,h1,h2,filter_all (λx hx=>by simpa using hA x hx),filter_none (λx hx=>by simpa using lt_asymm (hB x hx)),filter_none (l:=rt) (λx hx=>by simpa using lt_asymm (hA x hx)),filter_all (l:=B) (λx hx=>by simpa using hB x hx)]
 simp
def w01:ba (0+1)=1:=cR W W
def w10:ba (1-1)=0:=cR W W
def w11:ba (1+1)=2:=cR W W
def w20:ba (2-0)=2:=cR W W
def w1_0:ba (1-0)=1:=cR W W
def YV (x y:Y):eT [x,y].length 0=V 0:=rfl
def aEE (x y:Y):eT [x,y].length 1=V 1:=rfl
def bl10 (x:Y):eT [x].length 0=V 0:=rfl
def aEY (hn:10<D) (x:aU):Tn D [x] 0 1=V [x]:=by
 obtain ⟨m,rfl⟩:∃q,D=q+3:=⟨D-3,W⟩
 simp only[Tn,Wm,w01,vt,Kr,show ¬((1:Int)<1) by omega,aR,ay,aw]
def aEX (hn:100<D) (x y:aU) (hx:O x<=10) (hy:O y<=10):Tn D [x,y] 0 2=V (if eJ y x<0 then [y,x] else [x,y]):=by
 obtain ⟨m,rfl⟩:∃q,D=q+4:=⟨D-4,W⟩
 have tail:∀l:bz,AD (vt (m+3)) (m+3) 0 2 1 l=V l:=λl=>by
  simp only[AD,w11,vt,Kr,show ¬((2:Int)<2) by omega,aR,ay,aw]
 have e:Tn (m+4) [x,y] 0 2=JK (AD (vt (m+3)) (m+3)) (m+3) 0 2 1 1 [x,y]:=by
  simp only[Tn,Wm,w01];show Kr (vt (m+3)) (m+3) 0 2 1 [x,y]=_;simp only[Kr,show ((1:Int)<2) by omega,aO,az]
 rw[e];show Ks (AD (vt (m+3)) (m+3)) (JK (AD (vt (m+3)) (m+3)) (m+2)) (m+2) 0 2 1 1 [x,y]=_;simp only[Ks,show ((0:Int)<1) by omega,aO,az,aEE,w10,YV,ai,cN,yO,uW,yc (m+2) y x W W]
 by_cases h:eJ y x<0
 .have s1:setAt [x,y] 1 x=V [x,x]:=rfl;have s2:setAt [x,x] 0 y=V [y,x]:=rfl;simp only[h,aO,az,s1,ai,yO,s2];show Ks (AD (vt (m+3)) (m+3)) (JK (AD (vt (m+3)) (m+3)) (m+1)) (m+1) 0 2 1 0 [y,x]=_;simp only[Ks,show ¬((0:Int)<0) by omega,aR,ay,aw]
  exact tail _
 .simp only[h,aR,ay,aw];exact tail _
def aRH:RP D (Hk .u64 (((1:Nat)):Int))=V 1:=bv
def aRG:RP D (Hk .u64 (((2:Nat)):Int))=V 2:=bv
def Cu:nG D D=V ():=by unfold nG;rw[ax rfl]
def aFd (hn:100<D) (x:aU) (hx:O x<=10):Tp D [x]=V [x]:=by
 obtain ⟨m,rfl⟩:∃q,D=q+4:=⟨D-4,W⟩
 have aDG:RR (m+4) [x]=V [x]:=by
  unfold RR Wu;show (app [] [x]).bind _=_;rw[dm _ _ am];rfl
 have aDE:RT (m+4) [x] 0 1 1=V [x]:=by
  show Kt (OS (m+3)) (m+3) 0 1 1 I I [x]=_;simp only[Kt,w1_0,show ¬((12:Int)<1) by omega,aR,gb,az,aEY (m+3) W,ai,Cu]
 have aDF:RS (m+4) [x]=V [x]:=by
  unfold RS Wt;show (RP (m+4) (Hk .u64 (((1:Nat)):Int))).bind _=_;rw[aRH,ai];show (RT (m+4) [x] 0 1 1).bind _=_;rw[aDE,ai,Cu];rfl
 unfold Tp Wy;rw[aDG,ai,aDF,ai,Cu,ai];show vw (rD (m+4)) (Aq (rD (m+4)) (m+3)) (m+3) 1 0 [x] []=_;simp only[vw,show ((0:Int)<1) by omega,aO,az,bl10,ai,cN,yO,gV,dm [] x ap,jb,dm [] [x] am,w01]
 show vw (rD (m+4)) (Aq (rD (m+4)) (m+2)) (m+2) 1 1 [x] [x]=_;simp only[vw,show ¬((1:Int)<1) by omega,aR,ay,aw,rD]
def akF (hn:200<D) (x y:aU) (hx:O x<=10) (hy:O y<=10) (dd:eJ x y≠0) (hne2:eJ y x≠0):Tp D [x,y]=V (if eJ y x<0 then [y,x] else [x,y]):=by
 obtain ⟨m,rfl⟩:∃q,D=q+4:=⟨D-4,W⟩
 have aDG:RR (m+4) [x,y]=V [x,y]:=by
  unfold RR Wu;show (app [] [x,y]).bind _=_;rw[dm _ _ am];rfl
 have aDE:RT (m+4) [x,y] 0 2 2=V (if eJ y x<0 then [y,x] else [x,y]):=by
  show Kt (OS (m+3)) (m+3) 0 2 2 I I [x,y]=_;simp only[Kt,w20,show ¬((12:Int)<2) by omega,aR,gb,az,aEX (m+3) W x y hx hy,ai]
  split<;>rfl
 have aDF:RS (m+4) [x,y]=V (if eJ y x<0 then [y,x] else [x,y]):=by
  unfold RS Wt;show (RP (m+4) (Hk .u64 (((2:Nat)):Int))).bind _=_;rw[aRG,ai];show (RT (m+4) [x,y] 0 2 2).bind _=_;rw[aDE,ai];split<;>rfl
 have fin:∀p q:aU,O p<=10->O q<=10->eJ p q≠0->Aq (rD (m+4)) (m+4) 2 0 [p,q] []=V [p,q]:=λp q hp hq h=>by
  show vw (rD (m+4)) (Aq (rD (m+4)) (m+3)) (m+3) 2 0 [p,q] []=_;simp only[vw,show ((0:Int)<2) by omega,aO,az,YV,ai,cN,yO,gV,dm [] p ap,jb,dm [] [p] am,w01]
  show vw (rD (m+4)) (Aq (rD (m+4)) (m+2)) (m+2) 2 1 [p,q] [p]=_;have hn:(eJ p q !=0)=I:=by simpa using h
  simp only[vw,show ((1:Int)<2) by omega,aO,az,aEE,ai,cN,yO,uW,show ((1:Int)==0)=U from rfl,ay,aw,w10,YV,yc (m+2) p q W W,hn,dm [] q ap,jb,dm [p] [q] am,xa,w11]
  show vw (rD (m+4)) (Aq (rD (m+4)) (m+1)) (m+1) 2 2 [p,q] [p,q]=_;simp only[vw,show ¬((2:Int)<2) by omega,aR,ay,aw,rD]
 unfold Tp Wy;rw[aDG,ai,aDF,ai];split
 .rw[show nG [y,x].length [x,y].length=V () from Cu 2,ai];exact fin y x hy hx hne2
 .rw[show nG [x,y].length [x,y].length=V () from Cu 2,ai];exact fin x y hx hy dd
def pO {a b:aP}:qi a b=I↔a=b:=by
 let ⟨k,i,t⟩:=a;let ⟨k',i',t'⟩:=b;simp[qi]
def avx:eJ [K] [ak]=mV K ak:=by
 unfold eJ;by_cases h:mV K ak=0
 .rw[ax h,h];rfl
 .rw[au h]
def fq (l:gM):Prop:=(∃a,l= [⟨a,a⟩])\/∃a b,qi a b=U/\l= [⟨a,b⟩,⟨b,a⟩]
def acw (k:aJ->bz->bz->G Bool) (g:aJ) (T:ah) (c:Nat) (x:bW) (hx:T.L[c]? =V x) (l:gM) (hl:O l<=16) (hp:∀p∈l,fJ p.f0=I/\p.f0.aB=x.aB):∀(y:gM) (i m:Nat) (zj zi:bz),B' i l=y->O y<m->O zj+O y<=100->O zi+O y<=100->
  JZ k m g T (c:Int) l (O l:Int) (i:Int) zj zi=k g (zj++y.map λp=> [p.f0]) (zi++y.map λp=> [p.f1])
 | [],i,m+1,zj,zi,hd,hm,_,_=>by
  let ⟨hi,hq⟩:=eu hd
  simp[JZ,W0,hq]
 |p::y,i,m+1,zj,zi,hd,hm,h1,h2=>by
  let ⟨g1,g2,g3,hq⟩:=dN hd
  simp at hm h1 h2;let ⟨p1,p2⟩:=hp p (bF g1);have ih:=acw k g T c x hx l hl hp y (i+1) m (zj++ [[p.f0]]) (zi++ [[p.f1]]) g2 W ap ap
  simp only[JZ,W0,hq,aO,az,bh,g1,ai,hx,abo,p1,p2,gV,qN,cO,ay,aw,dm zj [[p.f0]] ap,dm zi [[p.f1]] ap,bS g3 W,ih]
  simp
 |_,_,0,_,_,_,hm,_,_=>by simp at hm
def akL {k:Int} (h:xM k l=I):∀p∈l,fJ p.f0=I/\p.f0.aB=k:=λp hp=>by
 unfold xM at h;simp only[bI,jR] at h;have:=h.2.2 p hp;exact ⟨this.1,by simpa using this.2.1⟩
def auP (hn:10<D) (a:aP):yb (qy D) D 1 0 [[a]] [[a]]=V I:=by
 obtain ⟨m,rfl⟩:∃q,D=q+3:=⟨D-3,W⟩
 show vx (qy (m+3)) (yb (qy (m+3)) (m+2)) (m+2) 1 0 [[a]] [[a]]=_;have e:(a.aB==a.aB&&(a.dt==a.dt&&(A' (a.cH=a.cH)&&I)))=I:=pO.2 rfl;simp only[vx,show ((0:Int)<1) by omega,aO,az,bl10,ai,cN,yO,show idx [a] 0=V a from rfl,gV,qN,cO,ay,aw,w01]
 show vx (qy (m+3)) (yb (qy (m+3)) (m+1)) (m+1) 1 1 [[a]] [[a]]=_;simp only[vx,show ¬((1:Int)<1) by omega,aR,ay,aw,qy]
def aaD (hn:10<D) (a b:aP):yb (qy D) D 2 0 [[a],[b]] [[a],[b]]=V I:=by
 obtain ⟨m,rfl⟩:∃q,D=q+3:=⟨D-3,W⟩
 have e:∀a:aP,(a.aB==a.aB&&(a.dt==a.dt&&(A' (a.cH=a.cH)&&I)))=I:=λa=>pO.2 rfl
 show vx (qy (m+3)) (yb (qy (m+3)) (m+2)) (m+2) 2 0 [[a],[b]] [[a],[b]]=_;simp only[vx,show ((0:Int)<2) by omega,aO,az,YV,ai,cN,yO,show idx [a] 0=V a from rfl,gV,qN,cO,ay,aw,w01]
 show vx (qy (m+3)) (yb (qy (m+3)) (m+1)) (m+1) 2 1 [[a],[b]] [[a],[b]]=_;simp only[vx,show ((1:Int)<2) by omega,aO,az,aEE,ai,cN,yO,uW,show idx [b] 0=V b from rfl,gV,qN,cO,ay,aw,w11]
 show vx (qy (m+3)) (yb (qy (m+3)) m) m 2 2 [[a],[b]] [[a],[b]]=_;simp only[vx,show ¬((2:Int)<2) by omega,aR,ay,aw,qy]
def aBK (hn:1000<D) (g:aJ) (h:fq g.fm.cg):O8 D g (g.fm.cg.map λp=> [p.f0]) (g.fm.cg.map λp=> [p.f1])=V I:=by
 unfold O8;rcases h with ⟨a,h⟩|⟨a,b,dd,h⟩
 .rw[h];simp only[j2,wa,aFd D W [a] am,ai]
  exact auP D W a
 .rw[h];have FM:a≠b:=λe=>by rw[pO.2 e] at dd;cases dd
  have n1:eJ [a] [b]≠0:=by rw[avx];exact λe=>FM (I1 e)
  have n2:eJ [b] [a]≠0:=by rw[avx];exact λe=>FM (I1 e).symm
  simp only[j2,wa,akF D W [a] [b] am am n1 n2,akF D W [b] [a] am am n2 n1,ai]
  have Yl:=afH a b;simp only[avx] at n1 n2 ⊢;by_cases cT:mV b a<0
  .rw[ax cT,au (show ¬mV a b<0 by omega)]
   simp only[l7,IU,iw,ay,aw];exact aaD D W b a
  .rw[au cT,ax (show mV a b<0 by omega)]
   simp only[l7,IU,iw,ay,aw];exact aaD D W a b
def aLk {n:Nat} {s:af} {m:aF} {j:Nat} {T:ah} (hs:SG s) (hj:m.aq=(j:Int)) (hT:s.ag[j]? =V T) (v:Int) (c:Nat) (x:bW) (hc:m.bc=(c:Int)) (hx:T.L[c]? =V x) (hk:T.av<=(c:Int)) (hp:xM x.aB m.cg=I) (hu:DT (c:Int) T=U) (hM:fq m.cg) (hn:100000<n):
  Il n (MH (EY v s.ag) m)=V I:=by
 have gI:=(bk.1 hT).1;have dX:=(bk.1 hx).1;have hG:=hs.bG T (bF hT);have Og:=Rg n v s.ag m j T hj hT m.bc;rw[hc,qW hk,qW (show (c:Int)<(O T.L:Int) by omega)] at Og
 have NL:=aqF n v s.ag m j T hj hT W hG.cp W
 rw[hc,hu] at NL;have hl:1<=O m.cg/\O m.cg<=16:=by
  unfold xM at hp;simp only[bI,lB] at hp;exact ⟨hp.1,hp.2.1⟩
 unfold Il amg;rw[avl n v s.ag m j T hj hT,ai];have q1:¬((O m.cg:Int)<1):=by omega
 have q2:¬((16:Int)<(O m.cg:Int)):=by omega
 simp only[hc,Og,ai,qN,cO,ay,aw,NL,q1,q2,aR];have e:=acw (O8 n) (MH (EY v s.ag) m) T c x hx m.cg hl.2 (akL hp) m.cg 0 n [] [] rfl W ap ap
 refine Eq.trans e ?_;simp only[jb];exact aBK n W (MH (EY v s.ag) m) hM
def aRC {n:Nat} {s t:af} {m:aF} (hs:SG s) (hm:MB m) (hb:rA m=I) (h:lA s m t) (hM:m.aQ=8->fq m.cg) (hn:100000<n):F42 n s m=V (t,I):=by
 have hv0:=hs.v0;have FC:=hs.v1;have h8:=hs.len;have h41:F41 n s=V s:=aBy n s W (λT hT=>(hs.bG T hT).cp) W
 have w:ba (s.aC+1)=s.aC+1:=cR W W
 have h18:1<=m.aQ/\m.aQ<=8:=by
  unfold rA at hb;simp only[bI,lB] at hb;exact ⟨hb.1,hb.2.1⟩
 have h97:F97 n=V [148,149,150,151,152,153,154,155]:=rfl;have wop:ba (m.aQ-1)=m.aQ-1:=cR W W
 have front:(m.aQ=6\/∃j:Nat,m.aq=(j:Int)/\j<O s.ag)->F42 n s m=yl n (m.aQ-1) s m (EY 0 []) [148,149,150,151,152,153,154,155]:=λht=>by
  unfold F42 awk;rw[h97,ai];have q1:¬(m.aQ<1):=by omega
  have q2:(m.aQ-1)<(O ([148,149,150,151,152,153,154,155]:List Nat):Int):=by simp;omega
  simp only[q1,aR,ay,aw,wop,q2,aO,cO,aRp n m hb,ai];rcases ht with h6|⟨j,hj,gI⟩
  .simp[h6]
  .by_cases h6:m.aQ=6
   .simp[h6]
   .have q3:(m.aQ !=6)=I:=by simpa using h6
    have q4:¬(m.aq<0):=by omega
    have q5:m.aq<(O s.ag:Int):=by omega
    simp only[q3,az,q4,aR,ay,aw,q5,aO,cO]
 have p7:∀(o:Nat) (t:af),m.aQ-1=(o:Int)->o<8->True->True:=λ_ _ _ _ _=>trivial
 cases h with
 |Te j T gP hj hT hv hk=>
  have gI:=(bk.1 hT).1;rw[front (.inr ⟨j,hj,gI⟩)];unfold yl;rw[h41,ai,gP];show (Fo n (MH (EY (ba (s.aC+1)) s.ag) m)).bind _=_;rw[w,aLr hs hj hT (s.aC+1) hv hk];rfl
 |Vq j c T x gP hj hT hc hx hk hv xy hu=>
  have gI:=(bk.1 hT).1;rw[front (.inr ⟨j,hj,gI⟩)];unfold yl;rw[h41,ai,gP];show (Fp n (MH (EY (ba (s.aC+1)) s.ag) m)).bind _=_;rw[w,aLq hs hj hT (s.aC+1) gP c x hc hx hk hv xy hu W]
  rfl
 |move j c d T gP hj hT hc hd h1 h2 hk xV=>
  have gI:=(bk.1 hT).1;rw[front (.inr ⟨j,hj,gI⟩)];unfold yl;rw[h41,ai,gP];show (H4 n (MH (EY (ba (s.aC+1)) s.ag) m)).bind _=_;rw[w,aLp hs hj hT (s.aC+1) gP c d hc hd h1 h2 hk xV W]
  rfl
 |SD j c T x gP hj hT hc hx=>
  have gI:=(bk.1 hT).1;rw[front (.inr ⟨j,hj,gI⟩)];unfold yl;rw[h41,ai,gP];show (HW n (MH (EY (ba (s.aC+1)) s.ag) m)).bind _=_;rw[w,aLo hs hj hT (s.aC+1) c x hc hx];rfl
 |SH j T gP hj hT=>
  have gI:=(bk.1 hT).1;rw[front (.inr ⟨j,hj,gI⟩)];unfold yl;rw[h41,ai,gP];show (Ic n (MH (EY (ba (s.aC+1)) s.ag) m)).bind _=_;rw[w,aLn hj hT (s.aC+1)];rfl
 |Nt gP=>
  rw[front (.inl gP)];unfold yl;rw[h41,ai,gP];show (Ih n (MH (EY (ba (s.aC+1)) s.ag) m)).bind _=_;rw[w,aLm (j:=0) hs hm (s.aC+1) W]
  rfl
 |Vp j T gP hj hT hr=>
  have gI:=(bk.1 hT).1;rw[front (.inr ⟨j,hj,gI⟩)];unfold yl;rw[h41,ai,gP];show (Ik n (MH (EY (ba (s.aC+1)) s.ag) m)).bind _=_;rw[w,aLl hs hj gI (s.aC+1) hr W]
  rfl
 |Cy j c T x gP hj hT hc hx hk hp hu=>
  have gI:=(bk.1 hT).1;rw[front (.inr ⟨j,hj,gI⟩)];unfold yl;rw[h41,ai,gP];show (Il n (MH (EY (ba (s.aC+1)) s.ag) m)).bind _=_;rw[w,aLk hs hj hT (s.aC+1) c x hc hx hk hp hu (hM gP) W]
  rfl
def di:af->cj->gg->Prop
 |_,[],[]=>True
 |s,m::ms,t::ts=>rA m=I/\lA s m t/\fo t=0/\di t ms ts
 |_,_,_=>False
def di.len:∀{s:af} {ms:cj} {ts:gg},di s ms ts->O ts=O ms
 |_,[],[],_=>rfl
 |_,_::_,_::_,h=>by simp[di.len h.2.2.2]
 |_,[],_::_,h=>by cases h
 |_,_::_,[],h=>by cases h
def di.kS:∀{s:af} {ms:cj} {ts:gg},di s ms ts->∀t∈ts,fo t=0
 |_,[],[],_,t,ht=>by cases ht
 |_,_::_,_::_,h,t,ht=>by
  rcases cU.1 ht with rfl|ht
  .exact h.2.2.1
  .exact di.kS h.2.2.2 t ht
 |_,[],_::_,h,_,_=>by cases h
 |_,_::_,[],h,_,_=>by cases h
def lA.ver {s t:af} {m:aF} (h:lA s m t):t.aC=s.aC+1:=by cases h<;>rfl
def akR {l:List Y} {x:Y} (h:l.getLast? =V x):l≠ []/\l[O l-1]? =V x:=by
 cases l with
 |nil=>cases h
 |cons a l=>exact ⟨am,by rw[<-anL];exact h⟩
def akp (n0:Nat) (ms:cj) (hl:O ms<=8) (hm:∀m∈ms,MB m):∀(x:cj) (i k:Nat) (b:gg) (kw:af),B' i ms=x->O x+1700000<k->k<4294967296->O b<=100+i->i<=8->b.getLast? =V kw->fo kw=0->
  Ok (Ej (Ru n0) k (O ms:Int) (i:Int) ms b) λr=>r.2=0->∃ts,r.1=b++ts/\di kw x ts
 | [],i,k+1,b,kw,hd,hk,jz,hb,hi8,hc,hs=>by
  let ⟨hi,hq⟩:=eu hd
  simp only[Ej,Rv,hq,aR,ay,aw,Ru];exact Ok.pure λ_=>⟨[],am,trivial⟩
 |mg::x,i,k+1,b,kw,hd,hk,jz,hb,hi8,hc,hs=>by
  let ⟨g1,g2,g3,hq⟩:=dN hd
  simp at hk;let ⟨dd,D6⟩:=akR hc;have rm:0<O b:=IS.2 dd;have w:ba ((O b:Int)-1)=((O b-1:Nat):Int):=by rw[cR W W];omega
  simp only[Ej,Rv,hq,aO,az,gx g3,ai,cN,g1,w,gx (show O b-1<O b by omega),D6]
  refine Ok.bind (aRq k W W kw (.of hs) mg (hm mg (bF g1))) λr hr=> ?_
  refine Ok.ite (λ_=>Ok.pure λh=>by cases h) λh2=> ?_
  have h2:r.2=I:=by simpa using h2
  let ⟨q1,q2,q3⟩:=hr h2;rw[dm b [r.1] ap,ai,bS g3 W]
  refine (akp n0 ms hl hm x (i+1) k (b++ [r.1]) r.1 g2 W W ap W am q3).mono λr' iN h=> ?_
  let ⟨ts,e1,e2⟩:=iN h;exact ⟨r.1::ts,by rw[e1];simp,q1,q2,q3,e2⟩
 |_,_,0,_,_,_,hk,_,_,_,_,_=>by simp at hk
def aBz (hn:1800000<D) (fB:D<4294967296) (s:af) (hs:fo s=0) (ms:cj) (hm:∀m∈ms,MB m) (hl:O ms<=100000):Ok (F40 D s ms) λr=>r.2=0->O ms<=8/\s.aC+(O ms:Int)<=1000/\∃ts,r.1=s::ts/\di s ms ts:=by
 have hG:=SG.of hs;have hv0:=hG.v0;have FC:=hG.v1;unfold F40 aeS;rw[Kn D s (λT hT=>(hG.bG T hT).yX) W fB,ai,hs]
 refine Ok.ite (λh=>by cases h) λ_=>Ok.ite (λ_=>Ok.pure λh=>by cases h) λh8=>Ok.ite (λ_=>Ok.pure λh=>by cases h) λhv=> ?_
 have h8:=Pu h8;have hv:=Pu hv;rw[cR W W] at hv
 have h:=akp D ms W hm ms 0 D [s] s rfl W fB am W rfl hs
 exact Ok.mono h λr hr h0=>⟨W,W,hr h0⟩
def akw (n0:Nat) (ms:cj) (hl:O ms<=8) (hm:∀m∈ms,MB m/\(m.aQ=8->fq m.cg)):∀(x:cj) (i k:Nat) (b ts:gg) (kw:af),B' i ms=x->O x+1700000<k->k<4294967296->O b<=100+i->i<=8->b.getLast? =V kw->fo kw=0->di kw x ts->
  Rf (ZQ n0) k ms (O ms:Int) (i:Int) b=V (b++ts,0)
 | [],i,k+1,b,[],kw,hd,hk,jz,hb,hi8,hc,hs,pb=>by
  let ⟨hi,hq⟩:=eu hd
  simp only[Rf,ZP,hq,aR,ay,aw,ZQ,rE]
 |mg::x,i,k+1,b,t::ts,kw,hd,hk,jz,hb,hi8,hc,hs,pb=>by
  let ⟨g1,g2,g3,hq⟩:=dN hd
  simp at hk;let ⟨dd,D6⟩:=akR hc;have rm:0<O b:=IS.2 dd;have w:ba ((O b:Int)-1)=((O b-1:Nat):Int):=by rw[cR W W];omega
  let ⟨c1,c2,c3,c4⟩:=pb;let ⟨m1,m2⟩:=hm mg (bF g1);have h42:=aRC (n:=k) (SG.of hs) m1 c1 c2 m2 W
  have FO:=VQ k t (λT hT=>((SG.of c3).bG T hT).yX) W W
  rw[c3] at FO;simp only[Rf,ZP,hq,aO,az,bh,gx (show O b-1<O b by omega),ai,cN,g1,w,D6,h42,cO,ay,aw,FO,iw,dm b [t] ap,bS g3 W]
  rw[akw n0 ms hl hm x (i+1) k (b++ [t]) ts t g2 W W ap W am c3 c4]
  simp
 |_,_,0,_,_,_,_,hk,_,_,_,_,_,_=>by simp at hk
 | [],_,_+1,_,_::_,_,_,_,_,_,_,_,_,h=>by cases h
 |_::_,_,_+1,_,[],_,_,_,_,_,_,_,_,h=>by cases h
def aRK (hn:1800000<D) (fB:D<4294967296) (s:af) (hs:fo s=0) (ms:cj) (hm:∀m∈ms,MB m/\(m.aQ=8->fq m.cg)) (hl:O ms<=8) (hv:s.aC+(O ms:Int)<=1000) (ts:gg) (hc:di s ms ts):F14 D s ms=V (s::ts,0):=by
 have hG:=SG.of hs;have hv0:=hG.v0;have h8:=hG.len;have FO:=VQ D s (λT hT=>(hG.bG T hT).yX) W W
 rw[hs] at FO;unfold F14 awB;have q1:¬((8:Int)<(O ms:Int)):=by omega
 have w:ba (s.aC+(O ms:Int))=s.aC+(O ms:Int):=cR W W
 have q2:¬((1000:Int)<s.aC+(O ms:Int)):=by omega
 simp only[FO,ai,iw,ay,aw,q1,aR,w,q2,aBy D s W (λT hT=>(hG.bG T hT).cp) W]
 exact akw D ms hl hm ms 0 D [s] ts s rfl W fB am W rfl hs hc
def aFh (h:rA F=I):RL D F=V I:=by
 have key:∀q:aF,F6 q=I->sM D q=V I:=λq hq=>by
  unfold F6 at hq;simp only[bI,tD,lB] at hq;let ⟨a1,a2,a3,a4,a5,a6,a7,a8,a9,OL,a11,a12⟩:=hq;have a1':((q.bp.aB==0)&&((q.bp.dt==0)&&((A' (q.bp.cH=I'))&&I)))=I:=a1;unfold sM;simp only[a1',a2,a3,a4,a5,a6,a7,a8,a9,OL,a11,a12];rfl
 unfold rA at h;simp only[bI,lB] at h;let ⟨h1,h8,hb⟩:=h;have hb:=key _ hb;unfold RL Xu;unfold T8 at hb;rcases (W:F.aQ=1\/F.aQ=2\/F.aQ=3\/F.aQ=4\/F.aQ=5\/F.aQ=6\/F.aQ=7\/F.aQ=8) with e|e|e|e|e|e|e|e<;>(simp[e,zv,zT] at hb;simp[e,hb])
def aRr (hn:1700000<D) (fB:D<4294967296) (s:af) (hs:SG s) (m:aF) (hm:MB m) {t:af} (hb:rA m=I) (h:lA s m t) (ht:fo t=0):F95 D s m=V (t,I):=by
 have hl8:=hs.len;have hv0:=hs.v0;have FC:=hs.v1;unfold F95 VW;rw[aFh D m hb,ai,cO,au nY];refine (avo (C7 D) s.ag W (λT hT=>(hs.bG T hT).cp) s m s.ag 0 D (EY 0 []) (EY (ba (s.aC+1)) []) rfl W).trans ?_
 rw[cR W W]
 have fH:∀ul∈s.ag,Cq ul:=λul hU=>(hs.bG ul hU).yX
 have done:∀(b4:af) (vv:af) (ts:bC),vv.aC=s.aC+1->(∀ul∈ts,Cq ul)->t=⟨s.aC+1,ts⟩->oA D b4 vv ts=V (t,I):=λb4 vv ts h2 h3 h4=>by
  unfold oA;rw[Kn D ⟨vv.aC,ts⟩ h3 W fB,ai,h2,<-h4,ht]
  rfl
 have ji:m.aQ≠6->∀(j:Nat) (T:ah),m.aq=(j:Int)->s.ag[j]? =V T->(∀b4,xv D j (O T.L:Int) (A' (T.av<=m.bc)&&A' (m.bc<(O T.L:Int))) s m b4 ⟨s.aC+1,s.ag⟩ s.ag=V (t,I))->C7 D s m (EY 0 []) (EY (s.aC+1) s.ag) s.ag=V (t,I):=λh6 j T hj hT hk=>by
  have gI:=(bk.1 hT).1;have mL:setAt s.ag j T=V s.ag:=by rw[dD _ gI,kZ hT]
  have q6:(m.aQ==6)=U:=avg h6;have q1:¬((j:Int)<0):=by omega
  have q2:(j:Int)<(O s.ag:Int):=by omega
  unfold C7;simp only[q6,ay,aw,hj,q1,aR,q2,aO,cO,gx gI,ai,cN,hT];by_cases hc:T.av<=m.bc
  .have jm:¬m.bc<T.av:=by omega
   simp only[jm,aR,gb,az,mL,ai];have:=hk (EY 0 []);rwa[qW hc,jj] at this
  .have jm:m.bc<T.av:=by omega
   simp only[jm,aO,cO,ay,aw,mL,ai];have:=hk (EY 0 []);rwa[tv hc,ig] at this
 cases h with
 |Te j T q hj hT hv hk=>
  refine ji W j T hj hT λb4=> ?_
  have gI:=(bk.1 hT).1;have hG:=hs.bG T (bF hT);have hc8:=hG.cols;simp only[xv,q,Oo,az,EP,ai,hv,cO,ay,aw,hk,iw,hT,dm _ _ (show O T.L+ [(bW.mk m.aK m.aB)].length<=1000000 by simp;omega),dD _ gI]
  show oA _ _ _ _=_;exact done _ _ _ rfl (vD fH hG.yX) rfl
 |Vq j c T x q hj hT hc hx hk hv xy hu=>
  refine ji W j T hj hT λb4=> ?_
  have gI:=(bk.1 hT).1;have hG:=hs.bG T (bF hT);have hc8:=hG.cols;have mL:setAt s.ag j T=V s.ag:=by rw[dD _ gI,kZ hT]
  have dX:=(bk.1 hx).1;have w:ba ((c:Int)+1)=((c+1:Nat):Int):=bS dX W
  have ct:ou (O T.L) (c:Int)=V c:=by unfold ou;rw[ax ⟨W,W⟩];rfl
  have cl:yH (O T.L) ((c+1:Nat):Int)=V (c+1):=by unfold yH;rw[ax ⟨W,W⟩];rfl
  have an:BK T.L c (C' (O T.L-(c+1)) (B' (c+1) T.L))=V (C' c T.L++B' (c+1) T.L):=by
   unfold BK;rw[jc (l:=B' (c+1) T.L) am,ax ⟨W,W,ap⟩]
  have tok:TOK (O T.L:Int) ⟨T.aK,C' c T.L++B' (c+1) T.L,T.av,T.ar,T.aM⟩:=⟨by rw[zf dX];omega,hG.tok.refs,hG.tok.ref,hG.tok.Dt,hG.tok.kS⟩
  have q1:T.av<=(c:Int):=hk;have q2:(c:Int)<(O T.L:Int):=by omega
  simp only[xv,q,Oo,ay,aw,az,hT,ai,hc,q1,q2,aO,qN,cO,EP,hv,gx dX,cN,hx,xy,iw,Ri D T ↑c W hG.cp W,hu,kZ hT,w,ct,cl,an,Rh D _ (O T.L:Int) W tok ↑c (-1) ⟨W,W⟩ W,dD _ gI]
  show oA _ _ _ _=_;exact done _ _ _ rfl (vD fH (PE (T:=⟨T.aK,C' c T.L++B' (c+1) T.L,T.av,T.ar,T.aM⟩) hG.yX)) rfl
 |move j c d T q hj hT hc hd h1 h2 hk xV=>
  refine ji W j T hj hT λb4=> ?_
  have gI:=(bk.1 hT).1;have hG:=hs.bG T (bF hT);have hc8:=hG.cols;have mL:setAt s.ag j T=V s.ag:=by rw[dD _ gI,kZ hT]
  have q1:T.av<=(c:Int):=hk;have q2:(c:Int)<(O T.L:Int):=by omega
  have q3:¬(d:Int)<T.av:=by omega
  have q4:(d:Int)<(O T.L:Int):=by omega
  have SU:rT (O T.L:Int) ((bW.mk I' 0):bW)=V (Va (O T.L) (bW.mk I' 0)):=by
   unfold rT;rw[ax ⟨W,W⟩];rfl
  simp only[xv,q,Oo,ay,aw,az,hT,ai,hc,hd,q1,q2,q3,q4,aO,aR,qN,cO,SU];let ⟨C1,e⟩:=avp (Rp (oA D) D) j m c d hc hd T.L hc8 h1 h2 s.ag T.L 0 D (EY b4.aC []) (EY (s.aC+1) s.ag) (Va (O T.L) (bW.mk I' 0)) (Jl T.aK [] T.av T.ar T.aM) rfl W am (λq hq=>W) W
  refine e.trans ?_;rw[mL,ai];unfold Rp;have tok:TOK (O T.L:Int) ⟨T.aK,vh T.L c d,T.av,T.ar,T.aM⟩:=⟨by rw[Qb h1 h2];omega,hG.tok.refs,hG.tok.ref,hG.tok.Dt,hG.tok.kS⟩
  rw[hT,ai,Rh D _ (O T.L:Int) W tok m.bc m.kY hm.v7 W,ai,dD _ gI,ai,hc,hd]
  show oA _ _ _ _=_;exact done _ _ _ rfl (vD fH (PE (T:=⟨T.aK,vh T.L c d,T.av,T.ar,T.aM⟩) hG.yX)) rfl
 |SD j c T x q hj hT hc hx=>
  refine ji W j T hj hT λb4=> ?_
  have gI:=(bk.1 hT).1;have hG:=hs.bG T (bF hT);have dX:=(bk.1 hx).1;have q1:¬(c:Int)<0:=by omega
  have q2:(c:Int)<(O T.L:Int):=by omega
  simp only[xv,q,Oo,ay,aw,az,hT,ai,hc,q1,q2,aO,aR,cO,gx dX,cN,hx,dD _ dX,dD _ gI];show oA _ _ _ _=_;exact done _ _ _ rfl (vD fH hG.yX) rfl
 |SH j T q hj hT=>
  refine ji W j T hj hT λb4=> ?_
  have gI:=(bk.1 hT).1;have hG:=hs.bG T (bF hT);simp only[xv,q,Oo,ay,aw,az,hT,ai,dD _ gI];show oA _ _ _ _=_;exact done _ _ _ rfl (vD fH hG.yX) rfl
 |Nt q=>
  have hz:∀T∈s.ag++ [m.bu],Cq T:=λT hT=>by
   rcases fk.1 hT with h|h
   .exact (hs.bG T h).yX
   .rw[gy.1 h];exact λp hp=>by have:=hm.dfn.kS p hp;omega
  unfold C7;rw[ax (by rw[q];rfl),abu D m.bu hm.dfn.len hm.dfn.ref W,ai,dm _ _ ap,ai,dD _ am,ai,kZ am]
  rw[Kn D ⟨s.aC+1,s.ag++ [m.bu]⟩ hz W fB,ai,ht]
  rfl
 |Vp j T q hj hT hr=>
  refine ji W j T hj hT λb4=> ?_
  have gI:=(bk.1 hT).1;have aDv:CC j s.ag 0:=λq ul h=>by omega
  have xT:CC j s.ag (O s.ag):=λi ul _ hi hU=>by
   unfold vg;rw[jR];exact λr h=>by simpa using hr i ul hi hU r h
  obtain ⟨r,e,hP⟩:=L5 (P:=λr=>r=(_,I)) (Rn (oA D) D) s m j hj W s.ag W (λul hU=>⟨by have:=(hs.bG ul hU).refs;omega,λr hr=>by let ⟨_,_,r1,r2⟩:=(hs.bG ul hU).ref r hr;exact ⟨W,W⟩⟩) (s.aC+1) (λh=>absurd xT h) (λC1 kb kw g _=>by
   unfold Rn;exact ⟨_,done _ _ _ rfl (λul hU=>by
    obtain ⟨or,hV,rfl⟩:=dL.1 hU;have hV':or∈s.ag:=by
     rcases fk.1 hV with h|h
     .exact oB h
     .exact nh h
    exact fH or hV') rfl,rfl⟩) s.ag 0 D (EY b4.aC []) s.ag s.ag rfl W rfl (λ_ _=>rfl) aDv
  rw[show (rX j (C' 0 s.ag)).map (nK ↑j)= [] by simp[rX]] at e
  rw[hP] at e;simp only[xv,q,Oo,ay,aw,az];exact e
 |Cy j c T x q hj hT hc hx hk hp hu=>
  refine ji W j T hj hT λb4=> ?_
  have gI:=(bk.1 hT).1;have hG:=hs.bG T (bF hT);have hc8:=hG.cols;have mL:setAt s.ag j T=V s.ag:=by rw[dD _ gI,kZ hT]
  have dX:=(bk.1 hx).1;have q1:T.av<=(c:Int):=hk;have q2:(c:Int)<(O T.L:Int):=by omega
  simp only[xv,q,Oo,ay,aw,az,hT,ai,hc,q1,q2,aO,qN,cO,gx dX,cN,hx,aqR D m.cg _ W,hp,Ri D T ↑c W hG.cp W,hu,mL]
  show oA _ _ _ _=_;exact done _ _ _ rfl fH rfl
def akq (n0:Nat) (ms:cj) (hl:O ms<=8) (hm:∀m∈ms,MB m):∀(x:cj) (i k:Nat) (b ts:gg) (kw:af),B' i ms=x->O x+1700000<k->k<4294967296->O b<=100+i->i<=8->b.getLast? =V kw->fo kw=0->di kw x ts->
  Ej (Ru n0) k (O ms:Int) (i:Int) ms b=V (b++ts,0)
 | [],i,k+1,b,[],kw,hd,hk,jz,hb,hi8,hc,hs,pb=>by
  let ⟨hi,hq⟩:=eu hd
  simp only[Ej,Rv,hq,aR,ay,aw,Ru,rE]
 |mg::x,i,k+1,b,t::ts,kw,hd,hk,jz,hb,hi8,hc,hs,pb=>by
  let ⟨g1,g2,g3,hq⟩:=dN hd
  simp at hk;let ⟨dd,D6⟩:=akR hc;have rm:0<O b:=IS.2 dd;have w:ba ((O b:Int)-1)=((O b-1:Nat):Int):=by rw[cR W W];omega
  let ⟨c1,c2,c3,c4⟩:=pb;have e95:=aRr k W W kw (.of hs) mg (hm mg (bF g1)) c1 c2 c3
  simp only[Ej,Rv,hq,aO,az,gx g3,ai,cN,g1,w,gx (show O b-1<O b by omega),D6,e95,cO,ay,aw,dm b [t] ap,bS g3 W]
  rw[akq n0 ms hl hm x (i+1) k (b++ [t]) ts t g2 W W ap W am c3 c4]
  simp
 |_,_,0,_,_,_,_,hk,_,_,_,_,_,_=>by simp at hk
 | [],_,_+1,_,_::_,_,_,_,_,_,_,_,_,h=>by cases h
 |_::_,_,_+1,_,[],_,_,_,_,_,_,_,_,h=>by cases h
def aRD (hn:1800000<D) (fB:D<4294967296) (s:af) (hs:fo s=0) (ms:cj) (hm:∀m∈ms,MB m) (hl:O ms<=8) (hv:s.aC+(O ms:Int)<=1000) (ts:gg) (hc:di s ms ts):F40 D s ms=V (s::ts,0):=by
 have hG:=SG.of hs;have hv0:=hG.v0;unfold F40 aeS;have q1:¬((8:Int)<(O ms:Int)):=by omega
 have w:ba (s.aC+(O ms:Int))=s.aC+(O ms:Int):=cR W W
 have q2:¬((1000:Int)<s.aC+(O ms:Int)):=by omega
 rw[Kn D s (λT hT=>(hG.bG T hT).yX) W fB,ai,hs]
 simp only[iw,ay,aw,q1,aR,w,q2];exact akq D ms hl hm ms 0 D [s] ts s rfl W fB am W rfl hs hc
section
def aa7:(Utf8.encode E).size<=4:=by
 unfold Utf8.encode;simp only;repeat' split
 all_goals simp[ByteArray.size]
def aAF {a b:xN} (h:a.size+b.size<=1000000):cat a b=V (a++b):=by unfold cat;rw[ax h]
structure Y6 (m:aF):Prop where
 mb:MB m
 prs:m.aQ=8->fq m.cg\/m.cg= []
def lA.prs {s t:af} {m:aF} (h:lA s m t) (h8:m.aQ=8):m.cg≠ []:=by
 cases h with
 |Cy j c T x gP hj hT hc hx hk hp hu=>
  intro e;rw[e] at hp;simp[xM] at hp
 |_=>omega
structure Lst (s:af) (l:cj):Prop where
 mem:∀m∈l,MB m/\(m.aQ=8->fq m.cg)
 chain:∃ts,di s l ts
def di.apr:∀{s:af} {ms:cj} {ts:gg},di s ms ts->∀m∈ms,m.aQ=8->m.cg≠ []
 |_,[],[],_,m,hm,_=>by cases hm
 |_,_::_,_::_,h,m,hm,h8=>by
  rcases cU.1 hm with rfl|hm
  .exact h.2.1.prs h8
  .exact di.apr h.2.2.2 m hm h8
 |_,[],_::_,h,_,_,_=>by cases h
 |_,_::_,[],h,_,_,_=>by cases h
def Gf (r:cj×aG):Prop:=cL r.2/\Lst J r.1/\O r.1<=5
section
variable {s:af} {n:Nat}
def als (hs:fo s=0) (hn:1800000<n) (fB:n<4294967296) (k:Int->aG->af->cj->G (cj×aG)) (n8:Int) (c:aG) (hc:cL c) (l:cj) (hl:Lst s l) (hl5:O l<=100) (m:aF) (hm:Y6 m) (hk:∀l',Lst s l'->O l'<=O l+1->Ok (k n8 c s l') (Gf s)):
  Ok (We k n n8 c s l m) (Gf s):=by
 unfold We;rw[dm _ _ ap,ai,jb,dm _ _ ap,ai]
 refine Ok.bind (aBz n hn fB s hs (l++ [m]) (λx hx=> ?_) ap) λr hr=> ?_
 .rcases fk.1 hx with h|h
  .exact (hl.mem x h).1
  .rw[gy.1 h];exact hm.mb
 refine Ok.ite (λh0=> ?_) λ_=>hk l hl W
 let ⟨_,_,ts,_,pb⟩:=hr (by simpa using h0)
 rw[ai];refine hk (l++ [m]) ⟨λx hx=> ?_,ts,pb⟩ am
 rcases fk.1 hx with h|h
 .exact hl.mem x h
 .rw[gy.1 h];refine ⟨hm.mb,λh8=> ?_⟩
  rcases hm.prs h8 with h|h
  .exact h
  .exact absurd h (pb.apr m am h8)
def aFn (hs:fo s=0) (hn:1800000<n) (fB:n<4294967296) (k:Int->aG->af->cj->G (cj×aG)) (n8:Int) (hn8:0<n8) (hn88:n8<=100) (c:aG) (hc:cL c) (l:cj) (hl:Lst s l) (hl5:O l<=100) (gD:af) (m:aF) (hm:Y6 m) (hk:∀l',Lst s l'->O l'<=O l+1->Ok (k (n8-1) c s l') (Gf s)):
  Ok (uU k n n8 c s l gD m) (Gf s):=by
 have e:∀l',HL k n n8 c s l'=k (n8-1) c s l':=λl'=>by unfold HL;rw[cR W W]
 unfold uU;refine Ok.ite (λ_=>Ok.ite (λ_=> ?_) λ_=> ?_) λ_=> ?_
 .rw[e];exact hk l hl W
 .exact als hs hn fB (HL k n) n8 c hc l hl hl5 m hm λl' h1 h2=>by rw[e];exact hk l' h1 h2
 .exact als hs hn fB (HL k n) n8 c hc l hl hl5 m hm λl' h1 h2=>by rw[e];exact hk l' h1 h2
def apR (a:xN) (cs:dr) (k:Int) (h:O cs<=10):Iw ⟨a,cs,k,[],[]⟩:=⟨⟨by show O cs<=1000;omega,am,am⟩,λr hr=>by simp at hr,λp hp=>by simp at hp⟩
def TabZ:Prop:=0<=H.av/\H.av<=(O H.L:Int)/\O H.L<=8/\∀x∈H.L,3<=x.aB/\x.aB<=5
def alr (hs:fo s=0) (hn:1800000<n) (fB:n<4294967296) (k:Int->aG->af->cj->G (cj×aG)) (n8:Int) (hn8:0<n8) (hn88:n8<=100) (c:aG) (hc:cL c) (l:cj) (hl:Lst s l) (hl5:O l<=100) (gD:af) (op tb:Int) (lM:ah) (hT:TabZ lM) (hk:∀l' c',cL c'->Lst s l'->O l'<=O l+1->Ok (k (n8-1) c' s l') (Gf s)):
  Ok (Wd k n n8 c s l gD (aF.mk op tb 0 0 I' 0 pr [] (Jl I' [] 0 [] [])) lM) (Gf s):=by
 let ⟨t1,t2,t3,t4⟩:=hT;have fin:∀(c':aG) (m:aF),cL c'->Y6 m->Ok (uU k n n8 c' s l gD m) (Gf s):=λc' m h1 h2=>aFn hs hn fB k n8 hn8 hn88 c' h1 l hl hl5 gD m h2 λl' h3 h4=>hk l' c' h1 h3 h4
 have cz:∀(op tb v7 to:Int) (nm:xN) (kd:Int) (v:aP) (ps:gM) (d:ah),om v7->om to->Iw d->(op=8->fq ps\/ps= [])->Y6 (aF.mk op tb v7 to nm kd v ps d):=λop tb v7 to nm kd v ps d h1 h2 h3 h4=>⟨⟨h1,h2,h3⟩,h4⟩
 have z0:om 0:=⟨W,W⟩
 have d0:Iw (Jl I' [] 0 [] []):=apR _ _ _ am
 unfold Wd;have w1:ba ((O lM.L:Int)-lM.av)=(O lM.L:Int)-lM.av:=cR W W
 rw[w1];refine Ok.bind (kg n c _ hc) λdG ⟨c11,a0,_,_,a1⟩=> ?_
 have w2:ba (lM.av+dG.1)=lM.av+dG.1:=cR W W
 have rk:om (lM.av+dG.1):=⟨W,W⟩
 rw[w2];have s1:(NB #[110]).size=1:=rfl;have e1:=aa7 (Hk .i32 (ba (97+(O l:Int))));rw[aAF W,ai]
 refine Ok.bind (kg n dG.2 26 c11) λiq ⟨c23,_,_,_,_⟩=> ?_
 have e2:=aa7 (Hk .i32 (ba (97+iq.1)));rw[aAF (by rw[asl];omega),ai]
 refine Ok.ite (λq=> ?_) λq1=> ?_
 .refine Ok.bind (kg n iq.2 3 c23) λuZ ⟨c37,p0,p1,_,_⟩=> ?_
  have p1:=p1 W
  rw[cR (x:=3+uZ.1) W W]
  refine Ok.bind (Gy n W uZ.2 (3+uZ.1) c37 W W) λIV hx=> ?_
  exact fin _ _ hx.1 (cz _ _ _ _ _ _ _ _ _ z0 z0 d0 λh=>.inr rfl)
 refine Ok.ite (λq=> ?_) λq2=> ?_
 .refine Ok.ite (λh=> ?_) λ_=>fin _ _ c23 (cz _ _ _ _ _ _ _ _ _ rk z0 d0 λh=>.inr rfl)
  have h:=ux h;obtain ⟨i,hi⟩:∃i:Nat,lM.av+dG.1=(i:Int):=⟨Eb (lM.av+dG.1),W⟩
  have mr:i<O lM.L:=by omega
  rw[hi,bh,bJ mr,ai];have xy:=t4 _ (nf mr);refine Ok.bind (Gy n W iq.2 _ c23 xy.1 xy.2) λx53 hx=> ?_
  exact fin _ _ hx.1 (cz _ _ _ _ _ _ _ _ _ (hi ▸ rk) z0 d0 λh=>.inr rfl)
 refine Ok.ite (λq=> ?_) λq3=> ?_
 .refine Ok.bind (kg n iq.2 _ c23) λx50 ⟨c50,p0,_,_,p1⟩=> ?_
  rw[cR (x:=lM.av+x50.1) W W]
  exact fin _ _ c50 (cz _ _ _ _ _ _ _ _ _ rk ⟨W,W⟩ d0 λh=>.inr rfl)
 refine Ok.ite (λq=> ?_) λq4=> ?_
 .refine Ok.bind (kg n iq.2 _ c23) λDz ⟨c46,p0,_,_,p1⟩=> ?_
  exact fin _ _ c46 (cz _ _ _ _ _ _ _ _ _ ⟨W,W⟩ z0 d0 λh=>.inr rfl)
 refine Ok.ite (λq=> ?_) λq5=> ?_
 .exact fin _ _ c23 (cz _ _ _ _ _ _ _ _ _ z0 z0 d0 λh=>.inr rfl)
 refine Ok.ite (λq=> ?_) λq6=> ?_
 .rw[show ∀a k,Gz n a k=V (bW.mk a k) from λ_ _=>rfl,ai,show ∀a k,Gz n a k=V (bW.mk a k) from λ_ _=>rfl,ai]
  exact fin _ _ c23 (cz _ _ _ _ _ _ _ _ _ z0 z0 (apR _ _ _ am) λh=>.inr rfl)
 refine Ok.ite (λq=> ?_) λq8=> ?_
 .refine Ok.ite (λh=> ?_) λ_=>fin _ _ c23 (cz _ _ _ _ _ _ _ _ _ rk z0 d0 λh=>.inr rfl)
  have h:=ux h;obtain ⟨i,hi⟩:∃i:Nat,lM.av+dG.1=(i:Int):=⟨Eb (lM.av+dG.1),W⟩
  have mr:i<O lM.L:=by omega
  rw[hi,bh,bJ mr,ai];have xy:=t4 _ (nf mr);refine Ok.bind (Gy n W iq.2 _ c23 xy.1 xy.2) λqX hx=> ?_
  refine Ok.bind (Gy n W qX.2 _ hx.1 xy.1 xy.2) λs9 hy=> ?_
  have aHn:om ((i:Nat):Int):=hi ▸ rk;refine Ok.ite (λhe=> ?_) λhe=> ?_
  .have he:qX.1=s9.1:=pO.1 he;have ct:ou 2 1=V 1:=rfl;rw[ct,ai];refine fin _ _ hy.1 (cz _ _ _ _ _ _ _ _ _ aHn z0 d0 λh=>.inl (.inl ⟨qX.1,?_⟩))
   rw[he];rfl
  .exact fin _ _ hy.1 (cz _ _ _ _ _ _ _ _ _ aHn z0 d0 λh=>.inl (.inr ⟨qX.1,s9.1,he,rfl⟩))
 .exact fin _ _ c23 (cz _ _ _ _ _ _ _ _ _ z0 z0 d0 λh=>.inr rfl)
end
def afz {s:Y} {ts:List Y}:(s::ts)[O (s::ts)-1]? =V ((s::ts).getLast am):=by
 rw[<-anL,List.getLast?_eq_some_getLast]
def akr (s:af) (hs:fo s=0) (n0:Nat):∀(k:Nat) (i:Nat) (c:aG) (l:cj),i+1900000<k->k<4294967296->cL c->Lst s l->O l+i<=5->Ok (HF (Rw n0) k (i:Int) c s l) (Gf s)
 |0,_,_,_,hk,_,_,_,_=>W
 |k+1,0,c,l,hk,jz,hc,hl,h5=>by
  have hq:¬((0:Int)<((0:Nat):Int)):=by omega
  simp only[HF,aeT,hq,aR,ay,aw,Rw];exact Ok.pure ⟨hc,hl,W⟩
 |k+1,i+1,c,l,hk,jz,hc,hl,h5=>by
  have hq:((0:Int)<((i+1:Nat):Int)):=by omega
  simp only[HF,aeT,hq,aO,az];refine Ok.bind (aBz k W W s hs l (λm hm=>(hl.mem m hm).1) W) λr hr=> ?_
  refine Ok.ite (λ_=>Ok.pure ⟨hc,⟨λm hm=>by simp at hm,[],trivial⟩,am⟩) λh0=> ?_
  let ⟨_,_,ts,e,pb⟩:=hr (by simpa using h0)
  have hchk:∀t∈s::ts,fo t=0:=λt ht=>by
   rcases cU.1 ht with rfl|ht
   .exact hs
   .exact pb.kS t ht
  have li:=pb.len;rw[e];have hL:O (s::ts)=O ts+1:=rfl;have w:ba ((O (s::ts):Int)-1)=((O (s::ts)-1:Nat):Int):=by rw[cR (by rw[hL];omega) (by rw[hL];omega),hL];omega
  rw[w,gx (by rw[hL];omega),ai,cN,afz,ai]
  have aDu:=hchk _ (IL (l:=s::ts) am)
  generalize (s::ts).getLast am=now at aDu
  have hG:=SG.of aDu;have hS:=mW aDu;have h8:=hG.len;refine Ok.bind (kg k c 10 hc) λim ⟨c25,p0,p1,_,_⟩=> ?_
  have p1:=p1 W
  rw[cR (x:=1+im.1) W W]
  refine Ok.bind (kg k im.2 _ c25) λoD ⟨c33,u0,u1,_,_⟩=> ?_
  have rest:∀(c':aG) (op:Int),cL c'->Ok (Wc (HF (Rw n0) k) k ((i+1:Nat):Int) c' s l now (aF.mk op oD.1 0 0 I' 0 pr [] (Jl I' [] 0 [] []))) (Gf s):=λc' op jm=>by
   have f7:∀l' c'',cL c''->Lst s l'->O l'<=O l+1->Ok (HF (Rw n0) k (((i+1:Nat):Int)-1) c'' s l') (Gf s):=λl' c'' h1 h2 h3=>by
    rw[show (((i+1:Nat):Int)-1)=(i:Int) by omega]
    exact akr s hs n0 k i c'' l' W W h1 h2 W
   unfold Wc;refine Ok.ite (λht=> ?_) λht=> ?_
   .have ht:=ux ht;have cT:oD.1<(O now.ag:Int):=by
     by_cases h1:(1:Int)<(O now.ag:Int)
     .rw[ax h1] at u1;exact u1 W
     .rw[au h1] at u1;have:=u1 W
      omega
    obtain ⟨j,hj⟩:∃j:Nat,oD.1=(j:Int):=⟨Eb oD.1,W⟩
    have gI:j<O now.ag:=by omega
    have hT:now.ag[j]? =V now.ag[j]:=bJ gI;show Ok ((idx now.ag oD.1).bind _) _;rw[hj,bh,hT,ai];have tg:=hG.bG _ (nf gI);have tk:=hS.bG ↑j now.ag[j] (by rw[bh];exact hT)
    have a1:=tg.lV;refine alr hs W W _ ((i+1:Nat):Int) W W c' jm l hl W now op ↑j now.ag[j] ⟨W,tg.iA,tg.cols,λx hx=> ?_⟩ f7
    have CN:=tk.ks;unfold db mI at CN;rw[jR] at CN;exact CF (CN x.aB (dL.2 ⟨x,hx,rfl⟩))
   .exact alr hs W W _ ((i+1:Nat):Int) W W c' jm l hl W now op oD.1 _ ⟨am,am,am,λx hx=>by simp at hx⟩ f7
  refine Ok.ite (λ_=> ?_) λ_=>rest _ _ c33
  refine Ok.bind (kg k oD.2 2 c33) λx42 ⟨c42,_,_,_,_⟩=>rest _ _ c42
def aRE (hn:2000000<D) (fB:D<4294967296) (c:aG) (hc:cL c) (s:af) (hs:fo s=0):Ok (F39 D c s 5) (Gf s):=by
 unfold F39 awn;rw[show ba (5+1)=6 from cR W W]
 refine Ok.bind (kg D c 6 hc) λx7 ⟨c7,p0,p1,_,_⟩=> ?_
 have p1:=p1 W
 obtain ⟨i,hi⟩:∃i:Nat,x7.1=(i:Int):=⟨Eb x7.1,W⟩
 rw[hi];exact akr s hs D D i x7.2 [] W fB c7 ⟨λm hm=>by simp at hm,[],trivial⟩ ap
def aRM (hn:2000000<D) (fB:D<4294967296) (c:aG) (hc:cL c):Ok (F12 D c) λr=>cL r.2.2.2.2/\OV r.1/\Lst r.1 r.2.1/\O r.2.1<=5/\∃(ts:gg) (k:Nat),di r.1 r.2.1 ts/\r.2.2.1=r.1::ts/\r.2.2.2.1=(k:Int)/\k<=O ts:=by
 unfold F12 awD;refine Ok.bind (aRF D W fB c hc) λx6 ⟨h1,h2⟩=> ?_
 refine Ok.bind (aRE D hn fB x6.2 h1 x6.1 h2.kS) λiK ⟨g1,g2,g3⟩=> ?_
 let ⟨ts,pb⟩:=g2.chain;have FC:x6.1.aC<=2:=by
  let ⟨v,id,k,r1,r2,r3,ch,hp,e⟩:=h2;rw[e];exact hp.v1
 rw[aRD D W fB x6.1 h2.kS iK.1 (λm hm=>(g2.mem m hm).1) W W ts pb,ai]
 refine Ok.bind (kg D iK.2 _ g1) λse ⟨k1,k2,k3,_⟩=> ?_
 have k3:=k3 ap
 obtain ⟨k,hk⟩:∃k:Nat,se.1=(k:Int):=⟨Eb se.1,W⟩
 exact Ok.pure ⟨k1,h2,g2,g3,ts,k,pb,rfl,hk,by simp at k3;omega⟩
def di.ver:∀{s:af} {ms:cj} {ts:gg},di s ms ts->∀(i:Nat) t,(s::ts)[i]? =V t->t.aC=s.aC+(i:Int)
 |s,ms,ts,h,0,t,ht=>by simp at ht;subst ht;simp
 |s,[],[],_,i+1,t,ht=>by simp at ht
 |s,m::ms,u::ts,h,i+1,t,ht=>by
  have:=di.ver h.2.2.2 i t (by simpa using ht)
  rw[this,h.2.1.ver];omega
 |_,[],_::_,h,_+1,_,_=>by cases h
 |_,_::_,[],h,_+1,_,_=>by cases h
end
section
def aRw:F69 D K ak=V (mV K ak):=by
 unfold F69 avX mV;by_cases h1:K.aB<ak.aB
 .simp[h1]
 .by_cases h2:ak.aB<K.aB
  .simp[h1,h2]
  .by_cases h3:K.dt<ak.dt
   .simp[h1,h2,h3]
   .by_cases h4:ak.dt<K.dt
    .simp[h1,h2,h3,h4]
    .by_cases h5:Sx K.cH.toList ak.cH.toList=I
     .simp[h1,h2,h3,h4,h5]
     .by_cases h6:K.cH=ak.cH
      .simp[h1,h2,h3,h4,h6,rz]
      .have h7:¬K.cH.toList=ak.cH.toList:=λe=>h6 (akY (by rw[zh,zh] at e;exact e))
       simp[h1,h2,h3,h4,h5,h6,h7]
def aBj (n0:Nat) (a b:aU) (ha:O a<4294967296):∀(x:aU) (i m:Nat),B' i a=x->i<=O a->i<=O b->O x<m->Q7 (Wk n0) m a b (i:Int)=V (eJ (B' i a) (B' i b))
 | [],i,m+1,hd,h1,h2,hm=>by
  let ⟨hl,hq⟩:=eu hd
  simp only[Q7,Zg,Wk,hq,aR,ay,aw];rw[hd];cases hb:B' i b with
  |nil=>
   have:O b<=i:=by simpa using hb
   have e1:¬(O a:Int)<O b:=by omega
   have e2:¬(O b:Int)<O a:=by omega
   simp[e1,e2,eJ]
  |cons y l=>
   let ⟨_,_,g3⟩:=oY hb;have e1:(O a:Int)<O b:=by omega
   simp[e1,eJ]
 |x::xs,i,m+1,hd,h1,h2,hm=>by
  let ⟨g1,g2,g3,hq⟩:=dN hd
  simp only[Q7,Zg,hq,aO,az];cases hb:B' i b with
  |nil=>
   have hl:O b<=i:=by simpa using hb
   have e0:¬(i:Int)<O b:=by omega
   have e1:¬(O a:Int)<O b:=by omega
   have e2:(O b:Int)<O a:=by omega
   simp[e0,e1,e2,Wk,hd,eJ]
  |cons y l=>
   let ⟨k1,k2,k3⟩:=oY hb;have e0:(i:Int)<O b:=by omega
   simp only[e0,aO,az,bh,g1,k1,ai,aRw];rw[hd,bS g3 ha];simp only[eJ];by_cases h:mV x y=0
   .simp only[h,iw,ay,aw,az];rw[aBj n0 a b ha xs (i+1) m g2 W W (by simp at hm;omega),g2,k2]
   .have:(mV x y !=0)=I:=by simpa using h
    simp only[this,h,az,aw]
 |_,_,0,_,_,_,hm=>by simp at hm
def VP (ha:O S<4294967296) (hn:O S<D):F27 D S aL=V (eJ S aL):=by
 have:=aBj D S aL ha S 0 D rfl W W hn
 simp only[oQ] at this;exact this
variable {s:af} {t:Int} {T:ah} {n:Nat}
def Rl (h:O S<=1000000):TA n S=V S:=by
 simp only[TA,amQ];rw[dm _ _ (by simpa using h)]
 rfl
def VN (hT:idx s.ag t=V T) (ht:fP T) (r:aU) (hr:O r=O T.L):F52 n s t r=V (C' (Eb T.av) r):=by
 let ⟨h0,h1,_⟩:=Fw hT;have:=ht.cols;have k1:=ht.lV;have k2:=ht.iA;have e1:¬t<0:=by omega
 have e2:t<(O s.ag:Int):=by omega
 have e3:¬(O r:Int)<T.av:=by omega
 have e4:0<T.av:=by omega
 simp only[F52,awf,e1,e2,aR,aO,cO,ay,aw,hT,ai,e3,e4,az];rw[ajx W W,ai,Rl _ ap]
 rfl
end

section
def oh {T:ah} {c:bW} (h:T.L[i]? =V c):(db T)[i]? =V c.aB:=by simp[db,h]
def anx {T:ah} {c:bW} (h:T.L[i]? =V c):B' i (db T)=c.aB::B' (i+1) (db T):=by
 have h1:i<O (db T):=by rw[kK];exact (bk.1 h).1
 have h2:=oh h;rw[tE h1];rw[bJ h1] at h2;rw[kh h2]
def OB (l:List Y):((O l:Int)==0)=l.isEmpty:=by cases l<;>simp;omega
def behind:G aU->aU->Bool
 |none,_=>I
 |some q,r=>A' (eJ (C' (Eb H.av) q) (C' (Eb H.av) r)<0)
def total:dA->Nat
 | []=>0
 |rs::rss=>O rs+total rss
def awM {x:dA} (h:rs∈x):O rs<=total x:=by
 induction x with
 |nil=>simp at h
 |cons y x ih=>
  simp only[total];rcases cU.1 h with rfl|h
  .omega
  .have:=ih h;omega
section
variable {s:af} {t n:Nat} {T:ah}
def C6 (hT:idx s.ag t=V T) (ht:fP T) (r:aU) (hr:O r=O T.L):OW n s t r=V (C' (Eb T.av) r):=by
 let ⟨h0,h1,_⟩:=Fw hT;have:=ht.cols;have k1:=ht.lV;have k2:=ht.iA;have e1:¬(t:Int)<0:=by omega
 have e2:(t:Int)<(O s.ag:Int):=by omega
 have e3:¬(O r:Int)<T.av:=by omega
 have e4:0<T.av:=by omega
 simp only[OW,avY,e1,e2,aR,aO,cO,ay,aw,hT,ai,e3,e4,az];rw[ajx W W,ai]
end
abbrev gQ:=dA
def nL (v:aP):Bool:=oT v&&A' (v.aB=al\/(¬(vQ:Int)<qr/\((v.aB=2/\E≠1)\/(v.aB=1/\E=3))))
def fL (md key:Int):Nat->aN->aU->Bool
 |_,[],[]=>I
 |i,k::ks,v::vs=>nL md key i k v&&fL md key (i+1) ks vs
 |_,_,_=>U
section
variable {md key:Int}
def Bm:∀{i:Nat} {ks:aN} {vs:aU},fL md key i ks vs=I->O vs=O ks
 |_,[],[],_=>rfl
 |_,k::ks,v::vs,h=>by simp[fL] at h;simp[Bm h.2]
 |_,[],_::_,h=>by simp[fL] at h
 |_,_::_,[],h=>by simp[fL] at h
def aJW (h:¬O r=O ks):fL md key i ks r=U:=by
 cases hr:fL md key i ks r with
 |false=>rfl
 |true=>exact absurd (Bm hr) h
def abS:∀{i:Nat} {ks:aN} {vs:aU} {k:Int} {v:aP},fL md key i ks vs=I->nL md key (i+O ks) k v=I->fL md key i (ks++ [k]) (vs++ [v])=I
 |i,[],[],k,v,_,h1=>by simpa[fL] using h1
 |i,k'::ks,v'::vs,k,v,h,h1=>by
  simp only[fL,bI] at h;simp only[xa,fL,bI];exact ⟨h.1,abS h.2 (by rw[show i+1+O ks=i+O (k'::ks) by simp;omega];exact h1)⟩
 |_,[],_::_,_,_,h,_=>by simp[fL] at h
 |_,_::_,[],_,_,h,_=>by simp[fL] at h
def ack {k:Int} (h1:v.aB=k) (h2:fJ v=I):nL md key i k v=I:=by
 unfold fJ at h2;rw[bI] at h2;unfold nL;rw[bI];exact ⟨h2.1,by simp[h1]⟩
def yo:∀{i:Nat} {ks:aN} {vs:aU},mI ks=I->fL 1 key i ks vs=lU ks vs
 |_,[],[],_=>rfl
 |i,k::ks,v::vs,h=>by
  have h1:AN k=I:=ahI h (i:=0) rfl;have h2:mI ks=I:=aAe h 1;simp only[fL,lU,yo (i:=i+1) (vs:=vs) h2];have e:nL 1 key i k v=(fJ v&&v.aB==k):=by
   unfold nL;by_cases he:v.aB=k
   .rw[aCP h1 he];simp[he]
   .have e1:(v.aB==k)=U:=by simpa using he
    simp[he,e1]
  rw[e]
 |_,[],_::_,h=>rfl
 |_,_::_,[],h=>rfl
end
def aIU (n0:Nat) (md:Int) (T:ah) (r:aU) (hr:O r=O T.L) (hl:O r<4294967296):∀(x:aU) (i m:Nat),B' i r=x->i<=O r->O x<m->L8 (V6 n0) m md r (O r:Int) (i:Int) T=V (fL md T.av i (B' i (db T)) (B' i r))
 | [],i,m+1,hd,h1,hm=>by
  have zY:O r<=i:=by simpa using hd
  have hq:¬((i:Int)<(O r:Int)):=by omega
  simp only[L8,Zo,V6,hq,aR,ay,aw];rw[hd,xH (by rw[kK];omega)]
  rfl
 |x::xs,i,m+1,hd,h1,hm=>by
  let ⟨g1,g2,g3,hq⟩:=dN hd
  have cT:i<O T.L:=by omega
  have hc:T.L[i]? =V T.L[i]:=bJ cT;have hk:=anx hc;generalize T.L[i]=c at hc hk;have ih:=aIU n0 md T r hr hl xs (i+1) m g2 W (by simp at hm;omega)
  rw[g2] at ih;have key:∀b:Bool,Rq (L8 (V6 n0) m) m md ↑i b r (O r:Int) ↑i T x=if x.aB=c.aB\/b=I\/(¬(i:Int)<T.av/\x.aB=1/\md=3) then V (fL md T.av (i+1) (B' (i+1) (db T)) xs) else V U:=by
   intro b;unfold Rq V7;simp only[bh,hc,ai,bS g3 hl,ih];by_cases he:x.aB=c.aB
   .simp[he]
   .by_cases e1:x.aB=1
    .by_cases m3:md=3
     .by_cases hk:(i:Int)<T.av<;>cases b<;>simp[he,e1,m3,hk]<;>(intro hh;exact absurd (e1.trans hh) he)
     .cases b<;>simp[he,e1,m3]<;>(intro hh;exact absurd (e1.trans hh) he)
    .cases b<;>simp[he,e1]
  simp only[L8,Zo,hq,aO,az,bh,g1,ai,aqV,key];rw[hd,hk];simp only[fL,nL];cases hv:oT x with
  |false=>simp
  |true=>
   simp only[cO,ay,aw,jj];by_cases he:x.aB=c.aB
   .by_cases h2:x.aB=2
    .by_cases m1:md=1<;>simp[he,h2,m1]
    .by_cases h1:x.aB=1<;>simp[he,h1,h2]
   .by_cases h2:x.aB=2
    .have f2:¬(2:Int)=c.aB:=λh=>he (h2.trans h)
     by_cases m1:md=1
     .subst m1;simp[he,h2,f2]
     .by_cases hk:(i:Int)<T.av<;>simp[he,h2,m1,hk,f2]
    .by_cases h1:x.aB=1
     .have f1:¬(1:Int)=c.aB:=λh=>he (h1.trans h)
      by_cases m3:md=3<;>by_cases hk:(i:Int)<T.av<;>simp[he,h1,m3,hk,f1]
     .simp[he,h1,h2]
 |_,_,0,_,_,hm=>by simp at hm
section
variable {s:af} {t md:Int} {T:ah} {n:Nat}
def BL:Prop:=E=1\/E=2\/E=3
def auS (hm:BL md) (hT:idx s.ag t=V T) (ht:fP T) (r:aU) (hn:1000<n):F66 n s t r md=V (fL md T.av 0 (db T) r):=by
 have hc:=ht.cols;have hl:=kK T;have e0:F66 n s t r md=Mu n t r md U s:=by
  rcases hm with rfl|rfl|rfl<;>simp[F66,avZ,Rm hT]
 rw[e0];simp only[Mu,ay,aw,hT,ai];by_cases h:O r=O T.L
 .have e:((O r:Int) !=(O T.L:Int))=U:=by simp[h]
  rw[e];simp only[ay,aw];have:=aIU n md T r h W r 0 n rfl W W
  simp only[oQ] at this;exact this
 .have e:((O r:Int) !=(O T.L:Int))=I:=by simp;omega
  rw[e,aJW W]
  rfl
end
def aDx {md key k:Int} (h1:md≠1) (h2:¬(i:Int)<key):nL md key i k ⟨2,0,I'⟩=I:=by
 have:oT ⟨2,0,I'⟩=I:=by simp[oT]
 simp[nL,this,h1,h2]
def aCF {md key k:Int} (h1:md=3) (h2:¬(i:Int)<key):nL md key i k ⟨1,0,I'⟩=I:=by
 have:oT ⟨1,0,I'⟩=I:=by simp[oT]
 simp[nL,this,h1,h2]
def aIV (md:Int) (ks:aN) (hk:mI ks=I) (hl:O ks<=100) (key:Int) (n0:Nat):∀(xs:aN) (i m:Nat) (out:aU) (c:aG),B' i ks=xs->300+O xs<m->cL c->fL md key 0 (C' i ks) out=I->
  Ok (HE (Rt n0) m key md ks (O ks:Int) (i:Int) c out) λr=>cL r.2/\fL md key 0 ks r.1=I
 | [],i,m+1,out,c,hd,hm,hc,ho=>by
  let ⟨this,hq⟩:=eu hd
  simp only[HE,aeG,Rt,hq,aR,ay,aw];exact Ok.pure ⟨hc,by rwa[jc this] at ho⟩
 |x::xs,i,m+1,out,c,hd,hm,hc,ho=>by
  let ⟨g1,g2,g3,hq⟩:=dN hd
  have hx:=ahI hk g1;have N6:=CF hx;have li:=Bm ho;rw[dv] at li;have vW:O (C' i ks)=i:=by rw[dv];omega
  simp only[HE,aeG,hq,aO,az,bh,g1,ai];simp at hm;have next:∀v c',cL c'->nL md key i x v=I->Ok (Cd (HE (Rt n0) m) m key md ks (O ks:Int) ↑i c' (out++ [v])) λr=>cL r.2/\fL md key 0 ks r.1=I:=by
   intro v c' jm hv;unfold Cd;rw[bS g3 W]
   refine aIV md ks hk hl key n0 xs (i+1) m _ _ g2 W jm ?_
   rw[IN,g1];exact abS ho (by rw[vW,cN];exact hv)
  have cell:∀c' b,cL c'->(b=I->md=3/\¬(i:Int)<key)->Ok (HK (Cd (HE (Rt n0) m) m) m key md x ks (O ks:Int) ↑i b c' out) λr=>cL r.2/\fL md key 0 ks r.1=I:=by
   intro c' b jm hb;unfold HK;refine Ok.ite (λh=> ?_) λ_=> ?_
   .rw[dm _ _ ap,ai]
    exact next _ _ jm (aCF (hb h).1 (hb h).2)
   .refine Ok.bind (Gy m W c' x jm N6.1 N6.2) λr ⟨hr,r1,r2⟩=> ?_
    rw[dm _ _ ap,ai]
    exact next _ _ hr (ack r1 r2)
  refine Ok.ite (λhge=> ?_) λ_=>cell _ _ hc (λh=>by cases h)
  have hge:¬(i:Int)<key:=by simpa using hge
  refine Ok.ite (λh1=> ?_) λ_=> ?_
  .have h1:md≠1:=by simpa using h1
   refine Ok.bind (qx m c 5 hc) λb hb=> ?_
   refine Ok.ite (λ_=> ?_) λ_=> ?_
   .rw[dm _ _ ap,ai]
    exact next _ _ hb (aDx h1 hge)
   .refine Ok.ite (λh3=> ?_) λ_=>cell _ _ hb (λh=>by cases h)
    refine Ok.bind (qx m b.2 5 hb) λd hd=> ?_
    exact cell _ _ hd λ_=>⟨by simpa using h3,hge⟩
  .refine Ok.ite (λh3=> ?_) λ_=>cell _ _ hc (λh=>by cases h)
   refine Ok.bind (qx m c 5 hc) λd hd=> ?_
   exact cell _ _ hd λ_=>⟨by simpa using h3,hge⟩
 |_,_,0,_,_,_,hm,_,_=>by simp at hm
def aJa (hn:1000<=D) (c:aG) (ks:aN) (key:Int) (hk:mI ks=I) (hl:O ks<=100) (hc:cL c):Ok (F49 D c ks key E) λr=>cL r.2/\fL E key 0 ks r.1=I:=
 aIV E ks hk hl key D ks 0 D [] c rfl W hc rfl
end
section
def fC {md key:Int} {T:ah} (h:fL md key 0 (db T) r=I):O r=O T.L:=by rw[Bm h,kK]
def BV (md:Int) (T:ah):G aU->bz->Bool
 |_,[]=>I
 |p,r::rs=>fL md T.av 0 (db T) r&&(behind T p r&&BV md T (V r) rs)
def DU (md:Int):bC->dA->Bool
 |T::Ts,rs::rss=>BV md T A rs&&DU md Ts rss
 |_,_=>I
def Ud (ts:dA):Int:=
 if ae=0 then (if 512<total ts then 2 else if O ts=O J.ag then (if DU E J.ag ts then 0 else 80) else 80) else ae
variable {s:af} {t n:Nat} {T:ah} {md:Int}
def aXr (vn:BL md) (he:Kq n s=V e):F64 n s md=V e:=by
 unfold F64 awa;rw[he,ai];rcases vn with rfl|rfl|rfl<;>simp<;>omega
def aqm (vn:BL md) (hT:idx s.ag (t:Int)=V T) (ht:fP T) (ii:bz) (hl:O ii<=2000000) (k:Int->dA->Int->Int->af->G Int) (a:dA) (a1 a2:Int):
  ∀(x:bz) (i m:Nat),B' i ii=x->O x+1100<m->(i=0\/∃q,ii[i-1]? =V q/\O q=O T.L)->
   Q8 k m md (t:Int) ii a a1 a2 ii (O ii:Int) (i:Int) s=if BV md T (if i=0 then A else ii[i-1]?) x then k md a a1 a2 s else V 80
 | [],i,m+1,hd,hm,_=>by
  have zY:O ii<=i:=by simpa using hd
  have hq:¬((i:Int)<(O ii:Int)):=by omega
  simp only[Q8,Zd,hq,aR,ay,aw,BV,az]
 |r::x,i,m+1,hd,hm,hp=>by
  let ⟨g1,g2,g3,hq⟩:=dN hd
  simp at hm;simp only[Q8,Zd,hq,aO,az,bh,g1,ai,auS vn hT ht r (W:1000<m),BV]
  rcases lQ (fL md T.av 0 (db T) r) with hr|hr
  rotate_left
  .simp[hr]
  .have hc:=fC hr;have h8:=ht.cols;have ih:=aqm vn hT ht ii hl k a a1 a2 x (i+1) m g2 W (.inr ⟨r,by rw[Nat.add_sub_cancel];exact g1,hc⟩)
   rw[au (W:¬i+1=0),Nat.add_sub_cancel,g1] at ih
   simp only[hr,cO,ay,aw,jj,bS g3 (W:O ii<4294967296),ih]
   by_cases h0:i=0
   .subst h0;simp[behind]
   .let ⟨q,hg,CL⟩:=hp.resolve_left h0;have h0':0<(i:Int):=by omega
    have hw:ba ((i:Int)-1)=((i-1:Nat):Int):=by rw[cR W W];omega
    simp only[h0',aO,az,hw,bh,hg,ai,h0,aw,C6 hT ht q CL,C6 hT ht r hc,yc m (C' (Eb T.av) q) (C' (Eb T.av) r) ap ap,behind]
    by_cases h5:eJ (C' (Eb T.av) q) (C' (Eb T.av) r)<0
    .simp[h5]
    .simp[h5]
 |_,_,0,_,hm,_=>by simp at hm
def aql (vn:BL md) (hs:nF s) (n0:Nat) (ts:dA) (li:O ts=O s.ag) (hl:total ts<=512):
  ∀(x:dA) (i m:Nat),B' i ts=x->O x+2000<m->
   Mi (Wl n0) m md ts (O ts:Int) (i:Int) s=V (if DU md (B' i s.ag) x then 0 else 80)
 | [],i,m+1,hd,hm=>by
  have zY:O ts<=i:=by simpa using hd
  have hq:¬((i:Int)<(O ts:Int)):=by omega
  simp only[Mi,Zf,Wl,hq,aR,ay,aw];cases B' i s.ag<;>simp[DU]
 |rs::x,i,m+1,hd,hm=>by
  let ⟨g1,g2,g3,hq⟩:=dN hd
  have h8:=hs.len;have wF:=awM (bF g1);simp at hm;have hi:i<O s.ag:=by omega
  have hT:idx s.ag (i:Int)=V (s.ag[i]):=by rw[bh];exact bJ _
  have ih:=aql vn hs n0 ts li hl x (i+1) m g2 W
  simp only[Mi,Zf,hq,aO,az,bh,g1,ai];have e:=aqm vn hT (hs.bG _ _ hT) rs W (Ze (Mi (Wl n0) m) m) ts (O ts:Int) ↑i rs 0 m rfl W (.inl rfl)
  rw[ax rfl,show ((0:Nat):Int)=0 from rfl] at e;rw[e,tE hi];simp only[Ze,bS g3 (W:O ts<4294967296),ih,DU]
  rcases lQ (BV md s.ag[i] A rs) with hb|hb<;>simp[hb]
 |_,_,0,_,hm=>by simp at hm
def akh (k:Int->G Int) (ts:dA) (hl:O ts+total ts<=2000000):∀(x:dA) (i m a:Nat),B' i ts=x->O x<m->a+total x<=2000000->QT k m (a:Int) ts (O ts:Int) (i:Int)=k ((a+total x:Nat):Int)
 | [],i,m+1,a,hd,hm,ha=>by
  have zY:O ts<=i:=by simpa using hd
  have hq:¬((i:Int)<(O ts:Int)):=by omega
  simp only[QT,Zm,hq,aR,ay,aw,total,po]
 |rs::x,i,m+1,a,hd,hm,ha=>by
  let ⟨g1,g2,g3,hq⟩:=dN hd
  simp at hm;simp only[total] at ha;have hw:ba ((a:Int)+(O rs:Int))=((a+O rs:Nat):Int):=by rw[cR W W];omega
  simp only[QT,Zm,hq,aO,az,bh,g1,ai,bS g3 (W:O ts<4294967296),hw]
  rw[akh k ts hl x (i+1) m (a+O rs) g2 W W]
  simp only[total,il]
 |_,_,0,_,_,hm,_=>by simp at hm
def auW (vn:BL md) (n:Nat) (s:af) (e:Int) (he:Kq n s=V e) (hs:e=0->nF s) (st:aE) (hl:O st.ag+total st.ag<=2000000) (hn:2000100<=n):F26 n s md st=V (Ud md s e st.ag):=by
 unfold F26 awv Ud;rw[aXr vn he,ai];by_cases h0:e=0
 .subst h0;have h57:=akh (V8 n) st.ag hl st.ag 0 n 0 rfl W W
  simp only[iw,ay,aw,az,ai,F65,Zn,show ((0:Nat):Int)=0 from rfl,cN] at h57 ⊢;rw[h57];simp only[V8,ai];by_cases h1:512<total st.ag
  .have vZ:(512:Int)<(total st.ag:Int):=by omega
   simp only[h1,vZ,aO,az]
  .have vZ:¬(512:Int)<(total st.ag:Int):=by omega
   simp only[h1,vZ,aR,ay,aw];by_cases h2:O st.ag=O s.ag
   .have Jw:((O st.ag:Int) !=(O s.ag:Int))=U:=by simp[h2]
    rw[Jw,ax h2,au am]
    have h8:=(hs rfl).len;have:=aql vn (hs rfl) n st.ag h2 W st.ag 0 n rfl W
    rw[oQ,show ((0:Nat):Int)=0 from rfl] at this;exact this
   .have Jw:((O st.ag:Int) !=(O s.ag:Int))=I:=by simp;omega
    simp only[Jw,az,h2,aw]
 .have:(e !=0)=I:=by simpa using h0
  simp[this,h0]
end
section
def eE (T:ah) (key row:aU):Bool->bz->bz
 |done,[]=>if done=I then [] else [row]
 |done,r::x=>if eJ (eV T r) key<0 then r::eE T key row done x else (if done=I then [] else [row])++(if eJ (eV T r) key=0 then [] else [r])++eE T key row I x
section
variable {s:af} {t n:Nat} {T:ah} {md:Int} {ts:gQ} {ii:bz} {key row:aU}
def aoN:∀{x:bz},(∀y∈x,lt key (eV T y))->eE T key row I x=x
 | [],_=>rfl
 |r::x,h=>by
  have h1:=h r am
  have h2:¬eJ (eV T r) key<0:=λh=>lt_asymm h1 (xf.1 h)
  have h3:¬eJ (eV T r) key=0:=λe=>by rw[tO e] at h1;exact lt_irrefl _ h1
  have ih:=aoN (x:=x) λy hy=>h y (by simp[hy])
  simp only[eE,h2,h3,aw,az,jb,avi,ih]
def aoO:∀{done:Bool} {x:bz},Ord T x->eE T key row done x=mX T key (if done=I then [] else [row]) x
 |done,[],_=>by simp[eE,mX]
 |done,r::x,h=>by
  let ⟨h1,h2⟩:=nk.1 h;by_cases hl:eJ (eV T r) key<0
  .have AU:=xf.1 hl;have e1:A' (lt (eV T r) key)=I:=by simpa using AU
   have e2:A' (lt key (eV T r))=U:=by simpa using lt_asymm AU
   have ih:=aoO (done:=done) h2;simp only[eE,hl,az,ih,mX,mD,e1,e2,ay,aw,xa]
  .have AU:¬lt (eV T r) key:=λh=>hl (xf.2 h)
   have gt:∀y∈x,lt key (eV T y):=λy hy=>by
    rcases UU (eV T r) key with h|h|h
    .exact absurd h AU
    .rw[<-h];exact h1 y hy
    .exact lt_trans h (h1 y hy)
   have e1:A' (lt (eV T r) key)=U:=by simpa using AU
   have e3:x.filter (λr=>A' (lt (eV T r) key))= []:=filter_none λy hy=>by simpa using lt_asymm (gt y hy)
   have e4:x.filter (λr=>A' (lt key (eV T r)))=x:=filter_all λy hy=>by simpa using gt y hy
   simp only[eE,hl,aw,aoN gt,mX,mD,e1,e3,e4,ay,jb];by_cases h0:eJ (eV T r) key=0
   .have e5:A' (lt key (eV T r))=U:=by
     rw[tO h0];simpa using lt_irrefl key
    simp only[h0,az,e5,ay,aw,rE]
   .have e5:A' (lt key (eV T r))=I:=by
     rcases UU (eV T r) key with h|h|h
     .exact absurd h AU
     .exact absurd (BY.2 h) h0
     .simpa using h
    simp only[h0,aw,e5,az,l6,avi]
def abe {T:ah} (k:aU):∀ii:bz,O (ii.filter λr=>A' (lt (eV T r) k))+O (ii.filter λr=>A' (lt k (eV T r)))<=O ii
 | []=>am
 |r::ii=>by
  have ih:=abe (T:=T) k ii;rw[mD,mD];by_cases h1:lt (eV T r) k
  .have h2:¬lt k (eV T r):=lt_asymm h1;simp only[h1,h2,aO,aR,az,ay,aw,l7];omega
  .by_cases h2:lt k (eV T r)
   .simp only[h1,h2,aO,aR,az,ay,aw,l7];omega
   .simp only[h1,h2,aR,ay,aw,l7];omega
def avv {T:ah} (k:aU) (N ii:bz):O (mX T k N ii)<=O ii+O N:=by
 have:=abe (T:=T) k ii;unfold mX;simp only[gS];omega
def abf (n0:Nat) (hT:s.ag[t]? =V T) (ht:fP T) (xU:O key<=100) (N1:O row<=100) (hr:∀r∈ii,O r=O T.L) (wF:O ii<=1000) (mU:t<O ts):∀(x:bz) (i m:Nat) (done:Bool) (out:bz) (z1 z2:aE),B' i ii=x->O x+1100<m->O out+2*O x<=100000->
  L9 (V9 n0) m (t:Int) key row done ii (O ii:Int) (i:Int) ts s z1 z2 out=V (⟨ts.set t (out++eE T key row done x)⟩,ts.set t (out++eE T key row done x))
 | [],i,m+1,done,out,z1,z2,hd,hm,ho=>by
  have zY:O ii<=i:=by simpa using hd
  have hq:¬((i:Int)<(O ii:Int)):=by omega
  have e1:eT (O ts) (t:Int)=V t:=by unfold eT;rw[ax W];rfl
  have e2:ts[0+t]? =V ts[t]:=by rw[cN];exact bJ mU
  have e3:∀o,setAt ts (0+t) o=V (ts.set t o):=λo=>by rw[cN];unfold setAt;rw[ax mU]
  simp only[L9,aeD,V9,aeC,hq,aR,ay,aw,e1,e2,e3,ai,Rl (n:=n0) row W,eE]
  cases done with
  |true=>simp
  |false=>
   simp only[gb,az,ay,aw];rw[dm _ _ (by simp at ho ⊢;omega),ai]
 |r::x,i,m+1,done,out,z1,z2,hd,hm,ho=>by
  let ⟨g1,g2,g3,hq⟩:=dN hd
  have mM:=hr r (bF g1);have dX:=ht.cols;have xV:=ht.iA;simp at hm ho;have vp:idx s.ag (t:Int)=V T:=by rw[bh];exact hT
  have step:∀(dn:Bool) (c:Int) (S3:bz),O S3<=O out+1->Rs (L9 (V9 n0) m) m ↑t key row dn r c ii (O ii:Int) ↑i ts s ⟨ts⟩ ⟨[]⟩ S3=V (⟨ts.set t (S3++(if c=0 then [] else [r])++eE T key row dn x)⟩,ts.set t (S3++(if c=0 then [] else [r])++eE T key row dn x)):=by
   intro dn c S3 h1;unfold Rs;rw[bS g3 W]
   by_cases hc:c=0
   .subst hc;simp only[iw,ay,aw,az,rE];exact abf n0 hT ht xU N1 hr wF mU x (i+1) m dn _ _ _ g2 W W
   .have jm:(c !=0)=I:=by simpa using hc
    simp only[jm,az,hc,aw];rw[dm _ _ ap,ai]
    exact abf n0 hT ht xU N1 hr wF mU x (i+1) m dn _ _ _ g2 W ap
  simp only[L9,aeD,hq,aO,az,bh,g1,ai,VN (n:=m) vp ht r mM,VP m (C' (Eb T.av) r) key ap ap,Rl (n:=m) row W,eE]
  by_cases hl:eJ (eV T r) key<0
  .have h0:¬eJ (eV T r) key=0:=by omega
   simp only[hl,aO,cO,ay,aw,az];rw[step done _ out W]
   simp only[h0,aw,l6,avi]
  .simp only[hl,aR,gb,az,aw];cases done with
   |true=>
    simp only[cO,ay,aw,az,jb];rw[step I _ out W]
    simp only[l6]
   |false=>
    simp only[gb,az,ay,aw];rw[dm _ _ ap,ai,step I _ _ am]
    simp only[l6]
 |_,_,0,_,_,_,_,_,hm,_=>by simp at hm
def lC:bz:=if S= [] then [] else [S]
def aLb (hT:s.ag[t]? =V T) (ht:fP T) (xU:O key<=100) (N1:O row<=100) (fK:ts[t]? =V ii) (hr:∀r∈ii,O r=O T.L) (wF:O ii<=1000) (hO:Ord T ii) (hn:3000<n):
  F51 n s ⟨ts⟩ (t:Int) key row=V (⟨ts.set t (mX T key (lC row) ii)⟩,ts.set t (mX T key (lC row) ii)):=by
 have mU:t<O ts:=(bk.1 fK).1;have e1:eT (O ts) (t:Int)=V t:=by unfold eT;rw[ax W];rfl
 unfold F51 awg;simp only[e1,ai,cN,fK];have h:=abf (key:=key) n hT ht xU N1 hr wF mU ii 0 n ((O row:Int)==0) [] ⟨ts⟩ ⟨[]⟩ rfl W ap
 rw[show ((0:Nat):Int)=0 from rfl,jb,aoO hO] at h;rw[h,OB];have:(if row.isEmpty=I then [] else [row])=lC row:=by unfold lC;cases row<;>simp
 rw[this]
end
structure StM (md:Int) (s:af) (ts:gQ):Prop where
 len:ts.length=s.ag.length
 row:∀(t:Nat) T rows,s.ag[t]? =V T->ts[t]? =V rows->(∀r∈rows,fL md T.av 0 (db T) r=I)/\Ord T rows
structure mu (md:Int) (s:af) (ts:gQ):Prop where
 len:ts.length=s.ag.length
 row:∀(t:Nat) T rows,s.ag[t]? =V T->ts[t]? =V rows->rows.length<=24/\∀r∈rows,fL md T.av 0 (db T) r=I
 ord:∀(t:Nat) T rows,s.ag[t]? =V T->ts[t]? =V rows->Ord T rows
def RU (ts:gQ):Prop:=∀(t:Nat) ii,ts[t]? =V ii->O ii<=8
def mu.m {md:Int} {s:af} {ts:gQ} (h:mu md s ts):StM md s ts:=⟨h.len,λt T ii hT hr=>⟨(h.row t T ii hT hr).2,h.ord t T ii hT hr⟩⟩
def aqq (md:Int) (k:Int->Int->Int->aG->af->aE->aE->dA->G (aE×aG)) (s:af) (t:Nat) (T:ah) (hT:s.ag[t]? =V T) (ht:fP T) (a1 a2:Int) (Q:aE×aG->Prop):∀(j m:Nat) (c:aG) (z1 z2:aE) (ts:dA) (ii:bz),4000+j<m->cL c->ts[t]? =V ii->O ii+j<=8->(∀r∈ii,fL md T.av 0 (db T) r=I)->Ord T ii->
  (∀c' z1' z2' io,cL c'->O io<=8->(∀r∈io,fL md T.av 0 (db T) r=I)->Ord T io->Ok (k md a1 a2 c' s z1' z2' (ts.set t io)) Q)->
  Ok (Rb k m md (t:Int) (j:Int) a1 a2 c s z1 z2 ts) Q
 |0,m+1,c,z1,z2,ts,ii,hm,hc,hg,hl,hr,hO,hk=>by
  have hq:¬(0:Int)<((0:Nat):Int):=by omega
  simp only[Rb,ZW,hq,aR,ay,aw];have:=hk c ⟨[]⟩ ⟨ts⟩ ii hc W hr hO
  have e:ts.set t ii=ts:=by
   let ⟨h1,h2⟩:=bk.1 hg;rw[<-h2];exact IB h1
  rwa[e] at this
 |j+1,m+1,c,z1,z2,ts,ii,hm,hc,hg,hl,hr,hO,hk=>by
  have hq:(0:Int)<((j+1:Nat):Int):=by omega
  have vp:idx s.ag (t:Int)=V T:=by rw[bh];exact hT
  have dX:=ht.cols;have xU:=kK T;simp only[Rb,ZW,hq,aO,az,VO vp W (W:1000<m),ai,vp]
  refine Ok.bind (aJa m md W c (db T) T.av ht.ks W hc) λr ⟨h1,h2⟩=> ?_
  have mM:=fC h2;have k1:=ht.lV;have k2:=ht.iA;rw[VN (n:=m) vp ht r.1 mM,ai];rw[aLb (n:=m) hT ht ap W hg (λy hy=>fC (hr y hy)) W hO W,ai]
  have dd:r.1≠ []:=λe=>by rw[e] at mM;simp at mM;omega
  have e1:lC r.1= [r.1]:=by unfold lC;rw[au dd]
  rw[e1];have q2:=avv (T:=T) (eV T r.1) [r.1] ii;have q4:=ahQ (T:=T) hO (.inr ⟨r.1,rfl,rfl⟩: [r.1]= []\/∃y,[r.1]= [y]/\eV T y=eV T r.1);have q3:∀y∈mX T (eV T r.1) [r.1] ii,fL md T.av 0 (db T) y=I:=λy hy=>by
   rcases Br.1 hy with h|h
   .exact hr y h.1
   .rw[gy.1 h];exact h2
  generalize mX T (eV T r.1) [r.1] ii=io at q2 q3 q4;simp at q2;have hw:ba (((j+1:Nat):Int)-1)=(j:Int):=by rw[cR W W];omega
  rw[hw];have mU:t<O ts:=(bk.1 hg).1;refine aqq md k s t T hT ht a1 a2 Q j m r.2 _ _ (ts.set t io) io W h1 (by rw[lR mU]) W q3 q4 λc' z1' z2' aMo k1 k2 k3 k4=> ?_
  rw[vy];exact hk c' z1' z2' aMo k1 k2 k3 k4
 |_,0,_,_,_,_,_,hm,_,_,_,_,_,_=>W
def aqp (md:Int) (n0:Nat) (s:af) (hs:nF s):∀(x:bC) (i m:Nat) (c:aG) (z1 z2:aE) (ts:dA),B' i s.ag=x->4100+O x<m->cL c->mu md s ts->RU ts->(∀t,i<=t->t<O ts->ts[t]? =V [])->
  Ok (Mj (Wv n0) m md (O s.ag:Int) (i:Int) c s z1 z2 ts) λr=>cL r.2/\mu md s r.1.ag/\RU r.1.ag
 | [],i,m+1,c,z1,z2,ts,hd,hm,hc,mU,hf,h0=>by
  let ⟨this,hq⟩:=eu hd
  simp only[Mj,ZY,Wv,hq,aR,ay,aw];exact Ok.pure ⟨hc,mU,hf⟩
 |T::x,i,m+1,c,z1,z2,ts,hd,hm,hc,mU,hf,h0=>by
  let ⟨g1,g2,g3,hq⟩:=dN hd
  have hl8:=hs.len;have ht:=hs.bG ↑i T (by rw[bh];exact g1)
  simp at hm;simp only[Mj,ZY,hq,aO,az];refine Ok.bind (kg m c 5 hc) λr ⟨hr,r0,r1,_⟩=> ?_
  have r1:=r1 W
  have e:r.1=((Eb r.1:Nat):Int):=by omega
  rw[e];refine aqq md (ZX (Mj (Wv n0) m) m) s i T g1 ht _ _ _ (Eb r.1) m r.2 _ _ ts [] W hr (h0 i (cM _) (by rw[mU.len];omega)) ap am (by simp[Ord]) λc' z1' z2' io k1 k2 k3 k4=> ?_
  unfold ZX;rw[bS g3 W]
  refine aqp md n0 s hs x (i+1) m c' _ _ _ g2 W k1 ⟨by rw[iy];exact mU.len,λt T' ii eI fK=> ?_,λt T' ii eI fK=> ?_⟩ (λt ii fK=> ?_) λt h1 h2=> ?_
  .by_cases hti:t=i
   .subst hti;rw[g1] at eI;cases eI;rw[lR (by rw[mU.len];omega)] at fK
    cases fK;exact ⟨W,k3⟩
   .rw[ni (λe=>hti e.symm)] at fK
    exact mU.row t T' ii eI fK
  .by_cases hti:t=i
   .subst hti;rw[g1] at eI;cases eI;rw[lR (by rw[mU.len];omega)] at fK
    cases fK;exact k4
   .rw[ni (λe=>hti e.symm)] at fK
    exact mU.ord t T' ii eI fK
  .by_cases hti:t=i
   .subst hti;rw[lR (by rw[mU.len];omega)] at fK
    cases fK;exact k2
   .rw[ni (λe=>hti e.symm)] at fK
    exact hf t ii fK
  .rw[ni W]
   rw[iy] at h2;exact h0 t W h2
 |_,_,0,_,_,_,_,_,hm,_,_,_,_=>W
def aXy (hn:5000<=vQ) (s:af) (hs:nF s) (c:aG) (hc:cL c):Ok (F19 vQ c s E) λr=>cL r.2/\mu E s r.1.ag/\RU r.1.ag:=by
 have hl8:=hs.len;have e:rT (O s.ag:Int) ([]:bz)=V (Va (O s.ag) []):=by
  unfold rT;rw[ax W];rfl
 unfold F19 awy;rw[e,ai];refine aqp E vQ s hs s.ag 0 vQ c _ _ _ rfl W hc ⟨am,λt T ii hT fK=> ?_,λt T ii hT fK=> ?_⟩ (λt ii fK=> ?_) λt _ h=> ?_
 .let ⟨h1,h2⟩:=bk.1 fK;simp at h2;subst h2;simp
 .let ⟨h1,h2⟩:=bk.1 fK;simp at h2;subst h2;simp[Ord]
 .let ⟨h1,h2⟩:=bk.1 fK;simp at h2;subst h2;simp
 .rw[vz] at h;simp[h]
end
def fp:Int:=if F.aQ=7 then (if qr=F.aq then -1 else if F.aq<qr then qr-1 else qr) else qr
def zO:Int:=if E=qr then ae else if qr<E/\E<=ae then E-1 else if ae<=E/\E<qr then E+1 else E
def jC:Int:=
 if F.aQ=7 then (if qr=F.aq then -1 else ae)
 else if F.aQ=2 then (if qr=F.aq/\0<=ae then (if ae=F.bc then -1 else if F.bc<ae then ae-1 else ae) else ae)
 else if F.aQ=3 then (if qr=F.aq/\0<=ae then zO ae F.bc F.kY else ae) else ae
def lZ:Bool:= !(A' (F.aQ=7/\qr=F.aq)||decide (F.aQ=2/\qr=F.aq/\0<=ae/\ae=F.bc))
def aqW (hm:om F.bc) (t c:Int) (h0:0<=t) (h1:t<=1000) (h2: -1<=c) (h3:c<=1000):R6 D F t c=V (fp F t,jC F t c,lZ F t c):=by
 have w:∀x:Int,0<=x->x<=1000->ba (x-1)=x-1:=λx a b=>cR W W
 unfold R6 XT fp jC lZ;by_cases e7:F.aQ=7
 .simp only[e7,gV,az];by_cases et:t=F.aq
  .simp[et]
  .have et':(t==F.aq)=U:=by simpa using et
   simp only[et',ay,aw,et];by_cases hl:F.aq<t
   .simp[hl,w t h0 h1]
   .simp[hl]
 .have e7':(F.aQ==7)=U:=by simpa using e7
  simp only[e7',ay,aw,e7];by_cases e2:F.aQ=2
  .simp only[e2,gV,az];by_cases et:t=F.aq
   .have et':(t==F.aq)=I:=by simpa using et
    simp only[et',az];by_cases hc:c<0
    .have:¬0<=c:=by omega
     simp[hc,et,this]
    .have MU:0<=c:=by omega
     simp only[hc,aR,gb,az];by_cases ec:c=F.bc
     .have:0<=F.bc:=by omega
      simp[et,ec,this]
     .have ec':(c==F.bc)=U:=by simpa using ec
      simp only[ec',ay,aw];by_cases hl:F.bc<c
      .simp[hl,et,MU,ec,w c MU h3]
      .simp[hl,et,MU,ec]
   .have et':(t==F.aq)=U:=by simpa using et
    simp[et',et]
  .have JC:(F.aQ==2)=U:=by simpa using e2
   simp only[JC,ay,aw,e2];by_cases e3:F.aQ=3
   .simp only[e3,gV,az];by_cases et:t=F.aq
    .have et':(t==F.aq)=I:=by simpa using et
     simp only[et',az];by_cases hc:c<0
     .have:¬0<=c:=by omega
      simp[hc,et,this]
     .have MU:0<=c:=by omega
      simp only[hc,aR,gb,az];rw[aqO D c F.bc F.kY ⟨W,W⟩ hm,ai]
      simp[et,MU,zO]
    .have et':(t==F.aq)=U:=by simpa using et
     simp[et',et]
   .have e3':(F.aQ==3)=U:=by simpa using e3
    simp[e3',e3]
def Nx {l:List Y} {j a:Nat} {ul T:Y} (h:l[a]? =V T):(l.set j ul)[a]? =V (if a=j then ul else T):=by
 have hl:=(bk.1 h).1;by_cases e:a=j
 .subst e;rw[lR hl,ax rfl]
 .rw[ni (tu e),h,au e]
def KndP:Prop:=O ac<=1000/\∀p∈ac,p.f0.aB=p.f1.aB
def eA:cj->Int->Int
 | [],t=>t
 |m::ms,t=>if fp m t<0 then -1 else eA ms (fp m t)
def nM:cj->Int->Int->Bool->Int×Bool
 | [],_,c,sv=>(c,sv)
 |m::ms,t,c,sv=>if fp m t<0 then (-1,U) else nM ms (fp m t) (jC m t c) (sv&&lZ m t c)
def fq.knd {k:Int} (h:fq l) (hp:xM k l=I):KndP l:=by
 have hm:=akL hp;rcases h with ⟨a,rfl⟩|⟨a,b,_,rfl⟩
 .exact ⟨am,λp hp=>by rw[gy.1 hp]⟩
 .have h1:=(hm ⟨a,b⟩ am).2
  have h2:=(hm ⟨b,a⟩ am).2
  refine ⟨am,λp hp=> ?_⟩
  rcases cU.1 hp with rfl|hp
  .exact h1.trans h2.symm
  .rw[gy.1 hp];exact h2.trans h1.symm
section
def di.drop:∀{k:Nat} {s:af} {ms:cj} {ts:gg},fo s=0->di s ms ts->k<=O ts->∃u,(s::ts)[k]? =V u/\B' k (s::ts)=u::B' k ts/\di u (B' k ms) (B' k ts)/\fo u=0/\(u::B' k ts).getLast am=(s::ts).getLast am
 |0,s,ms,ts,hs,hc,_=>⟨s,rfl,rfl,by simpa using hc,hs,am⟩
 |k+1,s,m::ms,t::ts,hs,hc,hk=>by
  obtain ⟨u,h1,h2,h3,h4,h5⟩:=di.drop (k:=k) hc.2.2.1 hc.2.2.2 (by simpa using hk)
  refine ⟨u,by simpa using h1,?_,by simpa using h3,h4,?_⟩
  .simpa using h2
  .rw[List.getLast_cons (am:t::ts≠ [])]
   simpa using h5
 |k+1,_,[],[],_,_,hk=>by simp at hk
 |k+1,_,[],_::_,_,h,_=>by cases h
 |k+1,_,_::_,[],_,h,_=>by cases h
section
variable {n:Nat} {s:af} {ms:cj} {ts:gg} {k:Nat}
def aBx (hn:1800000<n) (fB:n<4294967296) (hs:fo s=0) (hm:∀m∈ms,MB m/\(m.aQ=8->fq m.cg)) (hl:O ms<=8) (hv:s.aC+(O ms:Int)<=1000) (hc:di s ms ts) (hk:k<=O ts):
  F54 n s ms (s.aC+(k:Int))=V (⟨B' k (s::ts),B' k ms⟩,0):=by
 have li:=hc.len;have hv0:=(SG.of hs).v0;have w:ba (s.aC+(k:Int)-s.aC)=(k:Int):=by rw[cR W W];omega
 have q1:¬(s.aC+(k:Int)<s.aC):=by omega
 have q2:(k:Int)<(O (s::ts):Int):=by rw[l7];omega
 unfold F54 awe;rw[aRK n hn fB s hs ms hm hl hv ts hc,ai];simp only[iw,ay,aw,q1,aR,w,q2,aO,cO];rw[ahP ap,ai,ahP W,ai]
def aRy {r:gg} (hr:O r<=1000):F55 n ⟨u::r,ms⟩=V ((u::r).getLast am):=by
 have hL:O (u::r)=O r+1:=rfl;have w:ba ((O (u::r):Int)-1)=((O (u::r)-1:Nat):Int):=by rw[cR (by rw[hL];omega) (by rw[hL];omega),hL];omega
 unfold F55 awd;show (idx (u::r) (ba ((O (u::r):Int)-1))).bind _=_;rw[w,bh,afz];rfl
def VM {r:gg}:F56 n ⟨u::r,ms⟩=V u:=rfl
end
section
variable {s:af} {ms:cj} {ts:gg} {a:Nat} {T:ah}
end
section
variable {N:af} {ms:cj} {a:Int} {w:Nat} {T:ah} {row:aU} {ps:lJ}
end
end
section
section
variable {s:af} {T:ah} {md:Int} {ts:gQ}
def ahB:∀{rs:bz} {p:G aU},(∀r∈rs,fL md T.av 0 (db T) r=I)->(∀q,p=V q->∀r∈rs,lt (eV T q) (eV T r))->Ord T rs->BV md T p rs=I
 | [],p,_,_,_=>by simp[BV]
 |r::rs,p,h1,h2,h3=>by
  let ⟨h4,h5⟩:=nk.1 h3;simp only[BV,bI];refine ⟨h1 r am,?_,ahB (λy hy=>h1 y (by simp[hy])) (λq hq y hy=> ?_) h5⟩
  .cases p with
   |none=>rfl
   |some q=>simp only[behind,lB];exact xf.2 (h2 q rfl r am)
  .cases hq;exact h4 y hy
def afO:∀{Ts:bC} {rss:gQ},(∀(t:Nat) T ii,Ts[t]? =V T->rss[t]? =V ii->BV md T A ii=I)->DU md Ts rss=I
 | [],_,_=>by simp[DU]
 |_::_,[],_=>by simp[DU]
 |T::Ts,rs::rss,h=>by
  simp only[DU,bI];exact ⟨h 0 T rs rfl rfl,afO λt ul ii h1 h2=>h (t+1) ul ii (by simpa using h1) (by simpa using h2)⟩
def StM.kS (h:StM md s ts) (ht:total ts<=512):Ud md s 0 ts=0:=by
 unfold Ud;rw[ax rfl,au W,ax h.len,afO λt T ii h1 h2=>by
  let ⟨r1,r2⟩:=h.row t T ii h1 h2;exact ahB r1 am r2,ax rfl]
end
def afM:∀{ts:gQ},(∀rs∈ts,O rs<=24)->total ts<=24*O ts
 | [],_=>by simp[total]
 |rs::ts,h=>by
  have h1:=h rs am
  have h2:=afM (ts:=ts) λr hr=>h r (by simp[hr])
  simp only[total,l7];omega
def mu.tot {md:Int} {s:af} {ts:gQ} (h:mu md s ts):total ts<=24*O ts:=afM λrs wF=>by
 let ⟨t,ht⟩:=lP wF;have vW:=(bk.1 ht).1;have hT:t<O s.ag:=by rw[<-h.len];exact vW
 exact (h.row t s.ag[t] rs (bJ hT) ht).1
end
def Av (m:aF) (a:Nat) (T T':ah):Prop:=T'.av=T.av/\∀(c:Nat) x,T.L[c]? =V x->
 (lZ m a c=I/\∃(d:Nat) (y:bW),jC m a c=(d:Int)/\T'.L[d]? =V y/\y.aB=x.aB/\((c:Int)<T.av->d=c))\/
 (lZ m a c=U/\fJ m.bp=I/\jC m a c= -1/\m.bp.aB=x.aB/\T.av<=(c:Int))
def Av.same {m:aF} {a:Nat} {T ul:ah} (h7:¬(m.aQ=7/\(a:Int)=m.aq)) (h2:¬(m.aQ=2/\(a:Int)=m.aq)) (h3:¬(m.aQ=3/\(a:Int)=m.aq)) (hk:ul.av=T.av) (hc:∀(c:Nat) x,T.L[c]? =V x->∃y,ul.L[c]? =V y/\y.aB=x.aB):Av m a T ul:=⟨hk,λc x hx=>by
 let ⟨y,y1,y2⟩:=hc c x hx;refine .inl ⟨?_,c,y,?_,y1,y2,λ_=>rfl⟩
 .simp only[lZ];rw[tv h7,tv λe=>h2 ⟨e.1,e.2.1⟩];rfl
 .unfold jC;split
  .rw[au λe=>h7 ⟨‹_›,e⟩]
  .split
   .rw[au λe=>h2 ⟨‹_›,e.1⟩]
   .split
    .rw[au λe=>h3 ⟨‹_›,e.1⟩]
    .rfl⟩
def LA:jC F qr (-1)= -1:=by
 unfold jC;split
 .split<;>rfl
 .split
  .rw[au λe=>absurd e.2 W]
  .split
   .rw[au λe=>absurd e.2 W]
   .rfl
def aiA {m:aF} {t:Int} (h:m.aQ=7->t≠m.aq):lZ m t (-1)=I:=by
 simp only[lZ];rw[tv λe=>h e.1 e.2,tv λe=>absurd e.2.2.1 W];rfl
def lA.Lz {s t':af} {m:aF} (h:lA s m t') {a:Nat} {T:ah} (hT:s.ag[a]? =V T):(m.aQ=7/\(a:Int)=m.aq)\/
  ((m.aQ=7->(a:Int)≠m.aq)/\∃(a':Nat) (T':ah),fp m (a:Int)=(a':Int)/\t'.ag[a']? =V T'/\Av m a T T'):=by
 have keep:∀(ul:ah) (j:Nat) (ts:bC),m.aQ≠7->m.aq=(j:Int)->(a=j->Av m a T ul)->ts=s.ag.set j ul->(m.aQ=7->(a:Int)≠m.aq)/\∃(a':Nat) (T':ah),fp m (a:Int)=(a':Int)/\ts[a']? =V T'/\Av m a T T':=by
  intro ul j ts n7 hj hU e;subst e;refine ⟨λh=>absurd h n7,a,_,by simp[fp,n7],Nx hT,?_⟩
  split
  .exact hU ‹_›
  .rename_i ne;have et:¬(a:Int)=m.aq:=by omega
   exact Av.same (λh=>et h.2) (λh=>et h.2) (λh=>et h.2) rfl λc x hx=>⟨x,hx,rfl⟩
 cases h with
 |Te j T0 h hj lF hv hk=>
  refine .inr (keep _ j _ W hj (λe=> ?_) rfl)
  subst e;rw[hT] at lF;cases lF;exact Av.same W W W rfl λc x hx=>⟨x,by
   show (T.L++_)[c]? =_;rw[nc (bk.1 hx).1];exact hx,rfl⟩
 |SD j c0 T0 x0 h hj lF hc G6=>
  refine .inr (keep _ j _ W hj (λe=> ?_) rfl)
  subst e;rw[hT] at lF;cases lF;exact Av.same W W W rfl λc x hx=>⟨_,Nx hx,by
   split
   .rename_i e;subst e;rw[G6] at hx;cases hx;rfl
   .rfl⟩
 |SH j T0 h hj lF=>
  refine .inr (keep _ j _ W hj (λe=> ?_) rfl)
  subst e;rw[hT] at lF;cases lF;exact Av.same W W W rfl λc x hx=>⟨x,hx,rfl⟩
 |Cy j c0 T0 x0 h hj lF hc hx hk hp hu=>
  exact .inr ⟨λe=>W,a,T,by simp[fp,h],hT,Av.same W W W rfl λc x hx=>⟨x,hx,rfl⟩⟩
 |Nt h=>
  exact .inr ⟨λe=>W,a,T,by simp[fp,h],by
   show (s.ag++ [m.bu])[a]? =V T;rw[nc (bk.1 hT).1,hT],Av.same W W W rfl λc x hx=>⟨x,hx,rfl⟩⟩
 |Vp j T0 h hj lF hr=>
  by_cases e:(a:Int)=m.aq
  .exact .inl ⟨h,e⟩
  .have ne:a≠j:=λh=>e (by rw[h,hj])
   have FG:=(bk.1 lF).1;have fin:∀a':Nat,(C' j s.ag++B' (j+1) s.ag)[a']? =V T->fp m (a:Int)=(a':Int)->((m.aQ=7->(a:Int)≠m.aq)/\∃(a':Nat) (T':ah),fp m (a:Int)=(a':Int)/\((C' j s.ag++B' (j+1) s.ag).map (nK ↑j))[a']? =V T'/\Av m a T T'):=λa' ha' hf=>
    ⟨λ_=>e,a',nK ↑j T,hf,by rw[my,ha'];rfl,Av.same (λq=>e q.2) (λq=>e q.2) (λq=>e q.2) rfl λc x hx=>⟨x,hx,rfl⟩⟩
   right;by_cases hl:j<a
   .refine fin (a-1) ?_ ?_
    .rw[nW (by rw[dv];omega),dv,fG W,fF,show j+1+(a-1-j)=a by omega,hT]
    .have:m.aq<(a:Int):=by omega
     simp only[fp,h,e,this,az,aw];omega
   .refine fin a ?_ ?_
    .rw[nc (by rw[dv];omega),eO,ax W,hT]
    .have:¬m.aq<(a:Int):=by omega
     simp[fp,h,e,this]
 |Vq j c0 T0 x0 h hj lF hc G6 hk hv xy hu=>
  refine .inr (keep _ j _ W hj (λe=> ?_) rfl)
  subst e;rw[hT] at lF;cases lF;have hl:c0<O T.L:=(bk.1 G6).1;have et:(a:Int)=m.aq:=hj.symm;refine ⟨rfl,λc x hx=> ?_⟩
  have dX:=(bk.1 hx).1;have ec:jC m a c=if (c:Int)=m.bc then -1 else if m.bc<(c:Int) then (c:Int)-1 else (c:Int):=by simp[jC,h,et]
  have es:lZ m a c= !A' ((c:Int)=m.bc):=by simp[lZ,h,et]
  rw[ec,es,hc];by_cases q:c=c0
  .subst q;rw[G6] at hx;cases hx;exact .inr ⟨am,hv,am,xy,hk⟩
  .have q':¬(c:Int)=(c0:Int):=by omega
   refine .inl ⟨by simp[q'],if c0<c then c-1 else c,x,?_,?_,rfl,λhq=> ?_⟩
   .rw[au q'];split<;>split<;>omega
   .show (C' c0 T.L++B' (c0+1) T.L)[_]? =_;split
    .rw[nW (by rw[dv];omega),dv,fG W,fF,show c0+1+(c-1-c0)=c by omega,hx]
    .rw[nc (by rw[dv];omega),eO,ax W,hx]
   .rw[au W]
 |move j c0 d T0 h hj lF hc hd k1 k2 hk xV=>
  refine .inr (keep _ j _ W hj (λe=> ?_) rfl)
  subst e;rw[hT] at lF;cases lF;have et:(a:Int)=m.aq:=hj.symm;refine ⟨rfl,λc x hx=> ?_⟩
  have dX:=(bk.1 hx).1;have ec:jC m a c=zO c c0 d:=by simp[jC,h,et,hc,hd]
  have es:lZ m a c=I:=by simp[lZ,h]
  rw[ec,es];have hm:0<=zO ↑c c0 d/\zO ↑c c0 d<(O T.L:Int)/\((c:Int)<T.av->zO ↑c c0 d=c):=by
   unfold zO;split
   .exact ⟨W,W,W⟩
   .split
    .exact ⟨W,W,W⟩
    .split<;>exact ⟨W,W,W⟩
  have hq:(Eb (zO ↑c c0 d):Int)=zO ↑c c0 d:=avh hm.1;refine .inl ⟨rfl,Eb (zO ↑c c0 d),x,hq.symm,?_,rfl,λjz=>by have:=hm.2.2 jz;omega⟩
  show (vh T.L c0 d)[_]? =_;rw[apo k1 k2 W,hq]
  have:gu ↑d (c0:Int) (zO ↑c c0 d)=(c:Int):=by
   unfold gu zO;repeat' split
   all_goals omega
  rw[this];exact hx
def Au:Prop:=O ac<=1000/\∀p∈ac,p.f0.aB=p.f1.aB/\fJ p.f0=I
def aeb:Prop:=ak.aB=K.aB/\(fJ K=I->fJ ak=I)
def aBo (n0:Nat) (l:gM) (hl:Au l) (v z:aP):∀(x:gM) (i k:Nat),B' i l=x->O x<k->Ok (vu (AF n0) k 1 l (O l:Int) (i:Int) v z) (aeb v)
 | [],i,k+1,hd,hk=>by
  have hq:¬((i:Int)<(O l:Int)):=by
   have:O l<=i:=by simpa using hd
   omega
  simp only[vu,C8,hq,aR,ay,aw,AF];exact Ok.pure ⟨rfl,id⟩
 |p::x,i,k+1,hd,hk=>by
  let ⟨g1,g2,g3,hq⟩:=dN hd
  have AU:=hl.1;simp at hk;simp only[vu,C8,hq,aO,az,bh,g1,ai];have e10:((1:Int)==0)=U:=rfl;have e11:((1:Int)==1)=I:=rfl;simp only[e10,e11,ay,aw,az];unfold GF;have w0:ba (1-1)=0:=cR W W
  rw[w0,bS g3 W]
  refine Ok.ite (λhe=> ?_) λ_=>aBo n0 l hl v z x (i+1) k g2 W
  have e00:((0:Int)==0)=I:=rfl;simp only[e00,az];let ⟨p1,p2⟩:=hl.2 p (bF g1);simp only[bI,tD] at he;exact Ok.pure ⟨p1.trans he.1,λ_=>p2⟩
 |_,_,0,_,hk=>W
def aRJ (hl:Au ac) (v:aP) (hn:2000<D):Ok (RM D ac v 1) (aeb v):=
 aBo D ac hl v _ ac 0 D rfl (by have:=hl.1;omega)
def aBs (n0:Nat) (p:dF) (hp:∀l∈p.bT,Au l) (hl:O p.bT<=1000) (z:aP):∀(i k:Nat) (v:aP),i<=O p.bT->i+2100<k->Ok (As (KG n0) k ((i:Int)-1) p v z) λr=>aeb v r/\(i=0->r=v)
 |0,k+1,v,_,_=>by
  have hq:(((0:Nat):Int)-1)<0:=by omega
  simp only[As,KH,hq,aO,cO,ay,aw,KG];exact Ok.pure ⟨⟨rfl,id⟩,λ_=>rfl⟩
 |i+1,k+1,v,hi,hk=>by
  have e:(((i+1:Nat):Int)-1)=(i:Int):=by omega
  rw[e];have hq:¬((i:Int)<0):=by omega
  have hg:p.bT[i]? =V p.bT[i]:=bJ W
  simp only[As,KH,hq,aR,gb,az,bh,hg,ai];refine Ok.bind (aRJ k _ (hp _ (nf _)) v W) λr hr=> ?_
  rw[cR W W]
  exact (aBs n0 p hp hl z i k r W W).mono λq hq=>⟨⟨hq.1.1.trans hr.1,λh=>hq.1.2 (hr.2 h)⟩,λh=>W⟩
 |_,0,_,_,hk=>W
def aRS (p:dF) (hp:∀l∈p.bT,Au l) (hl:O p.bT<=1000) (v:aP) (hn:4000<D):Ok (Tz D p v) λr=>aeb v r/\(p.bT= []->r=v):=by
 unfold Tz XU;rw[cR W W]
 exact (aBs D p hp hl _ (O p.bT) D v (cM _) W).mono λr hr=>⟨hr.1,λh=>hr.2 (by rw[h];rfl)⟩
section
def HO (T:ah) (c:Int) (sv:Bool) (fx:aP) (k0 c0:Int):Prop:=(c0<0/\c= -1/\sv=I)\/(0<=c0/\sv=I/\∃(d:Nat) (y:bW),c=(d:Int)/\T.L[d]? =V y/\y.aB=k0/\(c0<T.av->c=c0))\/(0<=c0/\sv=U/\c= -1/\fJ fx=I/\fx.aB=k0/\T.av<=c0)
def HO.rng {T:ah} {k0 c0:Int} {fx:aP} (h:HO T c sv fx k0 c0): -1<=c/\c<(O T.L:Int):=by
 rcases h with ⟨_,h,_⟩|⟨_,_,d,y,h1,h2,_⟩|⟨_,_,h,_⟩
 .omega
 .have:=(bk.1 h2).1;omega
 .omega
structure YJ (sN:af) (w Dl k0 c0:Int) (p:dF):Prop where
 bG:p.gd=w
 zK:∀l∈p.bT,Au l
 Jz:p.bT.length<=1000
 off:w<0->p.cI=U
 on:0<=w->∃(a:Nat) (T:ah),w=(a:Int)/\sN.ag[a]? =V T/\T.av=Dl/\HO T p.dQ p.cI p.eQ k0 c0/\(0<=c0->c0<Dl->p.bT= [])
def fq.kndR {k:Int} (h:fq l) (hp:xM k l=I):Au l:=by
 let ⟨h1,h2⟩:=h.knd hp;exact ⟨h1,λp hm=>⟨h2 p hm,(akL hp p hm).1⟩⟩
def auN (n0:Nat) (all:cj) (hl:O all<=8) (Dl k0 c0:Int) (fH:∀m∈all,MB m/\(m.aQ=8->fq m.cg)) (b6:dF):∀(x:cj) (i k:Nat) (s:af) (ts:gg) (a:Nat) (T:ah) (c:Int) (p:dF),B' i all=x->O x+5000<k->k<4294967296->fo s=0->di s x ts->s.ag[a]? =V T->T.av=Dl->HO T c p.cI p.eQ k0 c0->
  p.gd=(a:Int)->p.dQ=c->(∀l∈p.bT,Au l)->O p.bT<=100+i->i<=8->(0<=c0->c0<Dl->p.bT= [])->
  Ok (yj (El n0) k all (O all:Int) (i:Int) b6 p p.bT) (YJ ((s::ts).getLast am) (eA x (a:Int)) Dl k0 c0)
 | [],i,k+1,s,ts,a,T,c,p,hd,hk,jz,hs,hc,hT,hK,hA,e1,e2,hr,mM,hi,h0=>by
  obtain rfl:ts= []:=by cases ts with|nil=>rfl|cons=>cases hc
  have hq:¬((i:Int)<(O all:Int)):=by
   have:O all<=i:=by simpa using hd
   omega
  simp only[yj,Rr,hq,aR,ay,aw,El];exact Ok.pure ⟨e1,hr,by show O p.bT<=_;omega,λh=>by simp only[eA] at h;omega,λ_=>⟨a,T,rfl,hT,hK,by show HO T p.dQ _ _ _ _;rw[e2];exact hA,h0⟩⟩
 |m::x,i,k+1,s,ts,a,T,c,p,hd,hk,jz,hs,hc,hT,hK,hA,e1,e2,hr,mM,hi,h0=>by
  let ⟨g1,g2,g3⟩:=oY hd;have hm:=fH m (bF g1);obtain ⟨t',jS,rfl⟩:∃t' jS,ts=t'::jS:=by cases ts with|nil=>cases hc|cons t' jS=>exact ⟨t',jS,rfl⟩
  let ⟨hb,dV,MR,jm⟩:=hc;have hG:=SG.of hs;have DK:=hG.bG T (bF hT);have dX:O T.L<=8:=DK.cols;have hal:a<8:=by have:=(bk.1 hT).1;have:=hG.len;omega
  let ⟨c1,c2⟩:=hA.rng;have hq:(i:Int)<(O all:Int):=by omega
  have D6:((s::t'::jS).getLast am)=((t'::jS).getLast am):=by simp
  rw[D6];simp at hk;simp only[yj,Rr,hq,aO,az,bh,g1,ai];have rest:∀(rs:qF) (b6':dF),(∀l∈rs,Au l)->O rs<=101+i->(0<=c0->c0<Dl->rs= [])->Ok (Cc (yj (El n0) k) k all (O all:Int) ↑i b6' ⟨p.gd,p.dQ,p.cI,p.eQ,rs⟩ m rs) (YJ ((t'::jS).getLast am) (eA (m::x) ↑a) Dl k0 c0):=λrs b6' wF hrl' AQ=>by
   unfold Cc;simp only[e1,e2];rw[aqW k m hm.1.v7 ↑a c W W c1 W,ai]
   rcases dV.Lz hT with ⟨h7,ha⟩|⟨hn7,a',T',f1,f2,f3,f4⟩
   .have:fp m (a:Int)= -1:=by simp[fp,h7,ha]
    simp only[this,show ((-1:Int)<0) from W,aO,az]
    refine Ok.pure ⟨by simp[eA,this],λl hl=>by simp at hl,am,λ_=>rfl,λh=> ?_⟩
    simp[eA,this] at h
   .have cT:¬(fp m (a:Int)<0):=by omega
    have hw:eA (m::x) (a:Int)=eA x (a':Int):=by simp only[eA];rw[au cT,f1]
    simp only[cT,aR,ay,aw];rw[hw,f1];have stay:lZ m a c=I->HO T' (jC m a c) p.cI p.eQ k0 c0:=λqt=>by
     rcases hA with ⟨a1,a2,a3⟩|⟨a1,a2,d,y,a3,a4,a5,a6⟩|⟨a1,a2,a3,a4,a5,a6⟩
     .exact .inl ⟨a1,by rw[a2,LA],a3⟩
     .rcases f4 d y a4 with ⟨_,d',y',b1,b2,b3,b4⟩|⟨b1,_⟩
      .exact .inr (.inl ⟨a1,a2,d',y',by rw[a3,b1],b2,b3.trans a5,λh=>by
        have h6:=a6 W
        have:=b4 W
        rw[a3,b1];omega⟩)
      .rw[a3,b1] at qt;cases qt
     .exact .inr (.inr ⟨a1,a2,by rw[a3,LA],a4,a5,W⟩)
    refine Ok.ite (λqt=> ?_) λqt=> ?_
    .have qt:lZ m a c=U:=by simpa using qt
     obtain ⟨a1,d,y,a3,a4,a5,a6⟩:0<=c0/\∃(d:Nat) (y:bW),c=(d:Int)/\T.L[d]? =V y/\y.aB=k0/\(c0<T.av->c=c0):=by
      rcases hA with ⟨_,a2,_⟩|⟨a1,_,h⟩|⟨_,_,a2,_⟩
      .rw[a2,aiA hn7] at qt;cases qt
      .exact ⟨a1,h⟩
      .rw[a2,aiA hn7] at qt;cases qt
     obtain ⟨hv,hcm,xy,Aa⟩:fJ m.bp=I/\jC m a c= -1/\m.bp.aB=y.aB/\T.av<=c:=by
      rcases f4 d y a4 with ⟨b1,_⟩|⟨_,b⟩
      .rw[a3,b1] at qt;cases qt
      .rw[a3];exact b
     refine Ok.bind (aRS k ⟨(a:Int),c,p.cI,p.eQ,rs⟩ wF (by show O rs<=_;omega) m.bp W) λy' hy=> ?_
     unfold Mv;rw[bS g3 W]
     exact auN n0 all hl Dl k0 c0 fH _ x (i+1) k t' jS a' T' (jC m a c) ⟨(a':Int),jC m a c,U,y',rs⟩ g2 W W MR jm f2 W (.inr (.inr ⟨a1,rfl,hcm,hy.1.2 hv,hy.1.1.trans (xy.trans a5),by
      by_cases h:c0<T.av
      .have:=a6 h;omega
      .omega⟩)) rfl rfl wF (by show O rs<=_;omega) W AQ
    .have qt:lZ m a c=I:=by simpa using qt
     unfold Mv;rw[bS g3 W]
     exact auN n0 all hl Dl k0 c0 fH _ x (i+1) k t' jS a' T' (jC m a c) ⟨(a':Int),jC m a c,p.cI,p.eQ,rs⟩ g2 W W MR jm f2 W (stay qt) rfl rfl wF (by show O rs<=_;omega) W AQ
  refine Ok.ite (λh8=>Ok.ite (λht=>Ok.ite (λhc=> ?_) λ_=>rest _ _ hr W h0) λ_=>rest _ _ hr W h0) λ_=>rest _ _ hr W h0
  have h8:m.aQ=8:=by simpa using h8
  have ht:m.aq=p.gd:=by simpa using ht
  have hc:m.bc=p.dQ:=by simpa using hc
  rw[dm _ _ ap,ai]
  obtain ⟨hk,Aa⟩:Au m.cg/\T.av<=c:=by
   cases dV with
   |Cy j c1 T0 x0 h hj lF rl hx hk hp hu=>
    have:j=a:=by omega
    rw[this,hT] at lF;cases lF;exact ⟨(hm.2 h8).kndR hp,W⟩
   |_=>omega
  refine rest _ _ (λl hl=>(fk.1 hl).elim (hr l) λh=>by rw[gy.1 h];exact hk) ap λz1 z2=> ?_
  rcases hA with ⟨a1,_⟩|⟨_,_,d,y,_,_,_,a6⟩|⟨_,_,a3,_⟩
  .omega
  .have:=a6 W;omega
  .have:=DK.lV;omega
 |_,_,0,_,_,_,_,_,_,_,hk,_,_,_,_,_,_,_,_,_,_,_,_=>W
def auT (hn:6000<D) (fB:D<4294967296) (s:af) (ms:cj) (ts:gg) (hl:O ms<=8) (fH:∀m∈ms,MB m/\(m.aQ=8->fq m.cg)) (hs:fo s=0) (hc:di s ms ts) {a:Nat} {T:ah} (hT:s.ag[a]? =V T) {k0:Int} (hA:∀fx,HO T c I fx k0 c):
  Ok (F63 D ms (a:Int) c) (YJ ((s::ts).getLast am) (eA ms (a:Int)) T.av k0 c):=
 auN D ms hl T.av k0 c fH _ ms 0 D s ts a T c ⟨(a:Int),c,I,_,[]⟩ rfl W fB hs hc hT rfl (hA _) rfl rfl (λl hl=>by simp at hl) am W (λ_ _=>rfl)
def HO.v7 {T:ah} {c:Nat} {x:bW} (h:T.L[c]? =V x) (fx:aP):HO T (c:Int) I fx x.aB (c:Int):=.inr (.inl ⟨W,rfl,c,x,rfl,h,rfl,λ_=>rfl⟩)
def HO.none:HO H (-1) I K 0 (-1):=.inl ⟨W,rfl,rfl⟩
section
variable {s:af} {ms:cj} {ts:gg} {a:Nat} {T:ah}
end
end
end Go.Proofs.YtbnkhmoelnfjoaaGreat
end
