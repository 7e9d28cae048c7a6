/- Part. -/
import Derived.Test.YtbnkhmoelnfjoaaGreatP6
import Derived.Test.YtbnkhmoelnfjoaaGreatP4
set_option linter.all false
set_option maxRecDepth 100000
open Option renaming some->V,none->G
open Bool renaming true->M,false->B
open Go.Proofs.YtbnkhmoelnfjoaaGreat.ae renaming mk->ad0
open Go.Proofs.YtbnkhmoelnfjoaaGreat.ai renaming mk->ad1
open Decidable renaming decide->U
open Go.Proofs.YtbnkhmoelnfjoaaGreat.aJ renaming mk->ad2
open ByteArray renaming mk->xp,empty->vp
open Go.Op renaming bytesLess->Kx
open Int renaming reduceBEq->ab9
open Go.IntKind renaming wrap->U'
open List renaming replicate->P'
noncomputable section
namespace Go.Proofs.YtbnkhmoelnfjoaaGreat
open Go.bL
variable (D:Nat) (E:Int) (F:aG) (I:ai) (H:Int) (K:ae) (O:bD) (S:aT) (L:Int) (W:bp) (Y:gq) (aa:aG) (f8:Nat) (ab:ai) (ad:aT) (al:bQ) (am:Int->Int) (ao:aP) (af:Int) (aB:aj->aP->A aP) (ap:aP->aj->A aP) (g7:aj) (ac aD:bO) (aI:aP->aj->A (aP×aP)) (aq:bq) (ay:bp) (aK:Nat) (aQ:aP)
variable {J:Type} {c e:Int} {x r:bp} {p:aj} {l:gq} {q:Int->Bool} {o:bO} {cols ks:aP} {f:Int->Int} {i:Nat} {rs:bn} {v:aT} {u:ae} {sv:Bool}
def rB (tc:di):di->aP->Bool
 |_,[]=>M
 | [],_::_=>B
 |g::gs,c::cs=>match idx tc c with|none=>B|some x=>x.aE==g.aE&&rB tc gs cs
def agc:Bool:=match idx K.ah aq.av with|none=>B|some ge=>((aq.ag.length:Int)==ge.aH)&&rB ab.ag ge.ag aq.ag
def vr (s:ae) (T:ai):bQ->Bool
 | []=>M
 |r::rs=>agc s T r&&vr s T rs
def allRefs (s:ae):bD->Bool
 | []=>M
 |T::ts=>vr s T T.ar&&allRefs s ts
def FX (xs:List J) (i:Int):(i<0/\idx xs i=G)\/(¬i<0/\¬i<(xs.length:Int)/\idx xs i=G)\/(¬i<0/\i<(xs.length:Int)/\∃x,idx xs i=V x):=by
 by_cases h:i<0
 ·exact .inl ⟨h,by unfold idx;rw[aC (by omega)]⟩
 ·by_cases h2:i<(xs.length:Int)
  ·refine .inr (.inr ⟨h,h2,xs[i.toNat]'(by omega),?_⟩)
   unfold idx;rw[aF (by omega),cX (by omega)]
  ·exact .inr (.inl ⟨h,h2,aJp (by omega) h2⟩)
def aiz (k:bD->Int->Int->bQ->Int->Int->Int->bD->Int->ae->ai->bq->A Bool) (T ge:ai) (cs:aP) (hc:cs.length<=ge.ag.length) (hg:ge.ag.length<=8) (a1:bD) (a2 a3:Int) (a4:bQ) (a5 a6 a7:Int) (a8:bD) (a9:Int) (s:ae) (r:bq):∀(x:aP) (i m:Nat),cs.drop i=x->x.length<m->
  P3 k m a1 a2 a3 a4 a5 a6 a7 a8 a9 cs (cs.length:Int) (i:Int) s T ge r=if rB T.ag (ge.ag.drop i) x=M then k a1 a2 a3 a4 a5 a6 a7 a8 a9 s T r else V B
 | [],i,m+1,hd,hm=>by
  let ⟨this,hq⟩:=eI hd
  simp only[P3,acX,hq,aR,az,au,rB,ax]
 |c::x,i,m+1,hd,hm=>by
  let ⟨g1,g2,g3,hq⟩:=dO hd
  have dz:i<ge.ag.length:=by omega
  have hgi:ge.ag[i]? =V ge.ag[i]:=cX dz;have hdr:ge.ag.drop i=ge.ag[i]::ge.ag.drop (i+1):=uL dz;generalize ge.ag[i]=g at hgi hdr;have ih:=aiz k T ge cs hc hg a1 a2 a3 a4 a5 a6 a7 a8 a9 s r x (i+1) m g2 (by simp at hm;omega)
  simp only[P3,acX,hq,aO,ax,bA,g1,hgi,ak,bV g3 (by omega),ih]
  rw[hdr];simp only[rB];rcases FX T.ag c with ⟨h1,h2⟩|⟨h1,h3,h2⟩|⟨h1,h3,y,h2⟩
  ·simp only[h1,h2,aO,ax,az,au]
  ·simp only[h1,h2,h3,aR,gB,ax,az,au]
  ·simp only[h1,h2,h3,aR,aO,dh,az,au,ak];by_cases h4:y.aE=g.aE
   ·simp[h4]
   ·simp[h4]
 |_,_,0,_,hm=>by simp at hm
def aiy (k:bD->Int->Int->ae->A Bool) (s:ae) (hs:∀t ge,idx s.ah t=V ge->jT ge) (T:ai) (rs:bQ) (hl:rs.length<=8) (a1:bD) (a2 a3:Int):∀(x:bQ) (i m:Nat),rs.drop i=x->x.length+100<m->
  KV k m a1 a2 a3 rs (rs.length:Int) (i:Int) s T=if vr s T x=M then k a1 a2 a3 s else V B
 | [],i,m+1,hd,hm=>by
  let ⟨this,hq⟩:=eI hd
  simp only[KV,acV,hq,aR,az,au,vr,ax]
 |r::x,i,m+1,hd,hm=>by
  let ⟨g1,g2,g3,hq⟩:=dO hd
  simp at hm;have ih:=aiy k s hs T rs hl a1 a2 a3 x (i+1) m g2 (by omega)
  simp only[KV,acV,hq,aO,ax,bA,g1,ak,vr,agc];rcases FX s.ah r.av with ⟨h1,h2⟩|⟨h1,h3,h2⟩|⟨h1,h3,ge,h2⟩
  ·simp only[h1,h2,aO,ax,gR,az,au]
  ·simp only[h1,h2,h3,aR,gB,ax,gR,az,au]
  ·have hG:=hs _ _ h2;have k2:=hG.jG;have k3:=hG.cols;simp only[h1,h2,h3,aR,aO,dh,az,au,ak];by_cases h4:(r.ag.length:Int)=ge.aH
   ·have e:((r.ag.length:Int) !=ge.aH)=B:=by simp[h4]
    have e':((r.ag.length:Int)==ge.aH)=M:=by simp[h4]
    have jD:=aiz (acW (KV k m) m) T ge r.ag (by omega) k3 a1 a2 a3 rs (rs.length:Int) (i:Int) r.av s.ah (s.ah.length:Int) s r r.ag 0 m rfl (by omega)
    rw[show ((0:Nat):Int)=0 from rfl,pF] at jD;simp only[e,e',az,au,jD,acW,bV g3 (by omega),ih,jd]
    rcases lC (rB T.ag ge.ag r.ag) with hv|hv<;>simp only[hv,ax,jd,gR,az,au]
   ·have e:((r.ag.length:Int) !=ge.aH)=M:=by simpa using h4
    have e':((r.ag.length:Int)==ge.aH)=B:=by simpa using h4
    simp only[e,e',ax,gR,az,au]
 |_,_,0,_,hm=>by simp at hm
def aix (n0:Nat) (s:ae) (hs:∀t ge,idx s.ah t=V ge->jT ge) (ts:bD) (hl:ts.length<=8) (hr:∀T∈ts,T.ar.length<=4):∀(x:bD) (i m:Nat),ts.drop i=x->x.length+200<m->
  KU (UZ n0) m ts (ts.length:Int) (i:Int) s=V (allRefs s x)
 | [],i,m+1,hd,hm=>by
  let ⟨this,hq⟩:=eI hd
  simp only[KU,acT,UZ,hq,aR,az,au,allRefs]
 |T::x,i,m+1,hd,hm=>by
  let ⟨g1,g2,g3,hq⟩:=dO hd
  simp at hm;have hT:=hr T (bU g1);have ih:=aix n0 s hs ts hl hr x (i+1) m g2 (by omega)
  have jD:=aiy (acU (KU (UZ n0) m) m) s hs T T.ar (by omega) ts (ts.length:Int) (i:Int) T.ar 0 m rfl (by omega)
  rw[show ((0:Nat):Int)=0 from rfl] at jD;simp only[KU,acT,hq,aO,ax,bA,g1,ak,jD,acU,bV g3 (by omega),ih,allRefs]
  rcases lC (vr s T T.ar) with hv|hv<;>simp only[hv,ax,jd,gR,az,au]
 |_,_,0,_,hm=>by simp at hm
def aQn (hs:∀t ge,idx K.ah t=V ge->jT ge) (hl:K.ah.length<=8) (hr:∀T∈K.ah,T.ar.length<=4) (hn:1000<D):F44 D K=V (allRefs K K.ah):=
 aix D K hs K.ah hl hr K.ah 0 D rfl (by omega)
def aaZ (k:bQ->Int->Int->Int->bD->Int->aP->Int->bD->Int->ai->ai->Int->ae->ai->bq->A Bool) (s:ae) (T ge:ai) (r:bq) (hG:idx s.ah r.av=V ge) (cs:aP) (hc:cs.length<=ge.ag.length) (hg:ge.ag.length<=8) (a1:bQ) (a2 a3 a4:Int) (a5:bD) (a6:Int) (a7:aP) (a8:Int) (a9:bD) (a10:Int) (a11 a12:ai) (a13:Int):∀(x:aP) (i m:Nat),cs.drop i=x->x.length<m->
  I1 k m a1 a2 a3 a4 a5 a6 a7 a8 a9 a10 a11 a12 a13 cs (cs.length:Int) (i:Int) s T r=if rB T.ag (ge.ag.drop i) x=M then k a1 a2 a3 a4 a5 a6 a7 a8 a9 a10 a11 a12 a13 s T r else V B
 | [],i,m+1,hd,hm=>by
  let ⟨this,hq⟩:=eI hd
  simp only[I1,Wg,hq,aR,az,au,rB,ax]
 |c::x,i,m+1,hd,hm=>by
  let ⟨g1,g2,g3,hq⟩:=dO hd
  have dz:i<ge.ag.length:=by omega
  have hgi:ge.ag[i]? =V ge.ag[i]:=cX dz;have hdr:ge.ag.drop i=ge.ag[i]::ge.ag.drop (i+1):=uL dz;generalize ge.ag[i]=g at hgi hdr;have ih:=aaZ k s T ge r hG cs hc hg a1 a2 a3 a4 a5 a6 a7 a8 a9 a10 a11 a12 a13 x (i+1) m g2 (by simp at hm;omega)
  simp only[I1,Wg,hq,aO,ax,bA,g1,hG,hgi,ak,bV g3 (by omega),ih]
  rw[hdr];simp only[rB];rcases FX T.ag c with ⟨h1,h2⟩|⟨h1,h3,h2⟩|⟨h1,h3,y,h2⟩
  ·simp only[h1,h2,aO,ax,az,au]
  ·simp only[h1,h2,h3,aR,gB,ax,az,au]
  ·simp only[h1,h2,h3,aR,aO,dh,az,au,ak];by_cases h4:y.aE=g.aE
   ·simp[h4]
   ·simp[h4]
 |_,_,0,_,hm=>by simp at hm
def aaY (n0:Nat) (s:ae) (hs:∀t ge,idx s.ah t=V ge->jT ge) (T:ai) (rs:bQ) (hl:rs.length<=8):∀(x:bQ) (i m:Nat),rs.drop i=x->x.length+100<m->
  Fl (N4 n0) m rs (rs.length:Int) (i:Int) s T=V (vr s T x)
 | [],i,m+1,hd,hm=>by
  let ⟨this,hq⟩:=eI hd
  simp only[Fl,We,N4,hq,aR,az,au,vr]
 |r::x,i,m+1,hd,hm=>by
  let ⟨g1,g2,g3,hq⟩:=dO hd
  simp at hm;have ih:=aaY n0 s hs T rs hl x (i+1) m g2 (by omega)
  simp only[Fl,We,hq,aO,ax,bA,g1,ak,vr,agc];rcases FX s.ah r.av with ⟨h1,h2⟩|⟨h1,h3,h2⟩|⟨h1,h3,ge,h2⟩
  ·simp only[h1,h2,aO,ax,gR]
  ·simp only[h1,h2,h3,aR,gB,ax,gR,az,au]
  ·have hG:=hs _ _ h2;have k2:=hG.jG;have k3:=hG.cols;simp only[h1,h2,h3,aR,aO,dh,az,au,ak];by_cases h4:(r.ag.length:Int)=ge.aH
   ·have e:((r.ag.length:Int) !=ge.aH)=B:=by simp[h4]
    have e':((r.ag.length:Int)==ge.aH)=M:=by simp[h4]
    have jD:=aaZ (Wf (Fl (N4 n0) m) m) s T ge r h2 r.ag (by omega) k3 rs (rs.length:Int) (i:Int) r.av s.ah (s.ah.length:Int) r.ag (r.ag.length:Int) s.ah r.av ge ge ge.aH r.ag 0 m rfl (by omega)
    rw[show ((0:Nat):Int)=0 from rfl,pF] at jD;simp only[e,e',az,au,jD,Wf,bV g3 (by omega),ih,jd]
    rcases lC (rB T.ag ge.ag r.ag) with hv|hv<;>simp only[hv,ax,jd,gR,az,au]
   ·have e:((r.ag.length:Int) !=ge.aH)=M:=by simpa using h4
    have e':((r.ag.length:Int)==ge.aH)=B:=by simpa using h4
    simp only[e,e',ax,gR]
 |_,_,0,_,hm=>by simp at hm
def aKm (hs:∀t ge,idx K.ah t=V ge->jT ge) (i:Nat) (T:ai) (hT:K.ah[i]? =V T) (hr:T.ar.length<=4) (hn:1000<D):atr D K (i:Int)=V (vr K T T.ar):=by
 unfold atr akO;simp only[bA,hT,ak];exact aaY D K hs T T.ar (by omega) T.ar 0 D rfl (by omega)
def uf (ks:aP):bw->Int
 | []=>0
 |p::ps=>if ve ks [] p=0 then uf ks ps else ve ks [] p
def CG:bD->Int
 | []=>0
 |T::ts=>if uf (ey T) T.aL=0 then CG ts else uf (ey T) T.aL
def aiK (k:bD->Int->Int->ae->A Int) (ks:aP) (hk:ks.length<=8) (s:ae) (ps:bw) (hl:ps.length<=4) (hp:∀p∈ps,gd p<=1500000) (a1:bD) (a2 a3:Int):∀(x:bw) (i m:Nat),ps.drop i=x->x.length+1500000<m->m<4294967296->
  Qf k m ks a1 a2 a3 ps (ps.length:Int) (i:Int) s=if uf ks x=0 then k a1 a2 a3 s else V (uf ks x)
 | [],i,m+1,hd,hm,rU=>by
  let ⟨this,hq⟩:=eI hd
  simp only[Qf,adF,hq,aR,az,au,uf,ax]
 |p::x,i,m+1,hd,hm,rU=>by
  let ⟨g1,g2,g3,hq⟩:=dO hd
  simp at hm;have ih:=aiK k ks hk s ps hl hp a1 a2 a3 x (i+1) m g2 (by omega) (by omega)
  have hpp:=hp p (bU g1);simp only[Qf,adF,hq,aO,ax,bA,g1,ak,aQl m ks [] p (by omega) (by simp;omega) (by omega) (by omega),bV g3 (by omega),ih,uf]
  by_cases h:ve ks [] p=0
  ·simp only[h,jJ,az,au,ax]
  ·have:(ve ks [] p !=0)=M:=by simpa using h
   simp only[h,this,ax,au]
 |_,_,0,_,hm,_=>by simp at hm
def air (k:Int->Int->ae->A Int) (T:ai) (s:ae) (t:Int) (hT:idx s.ah t=V T) (hk:T.ag.length<=8) (ps:bw) (hl:ps.length<=4) (hp:∀p∈ps,gd p<=1500000) (a1 a2:Int):∀(x:bw) (i m:Nat),ps.drop i=x->x.length+1500000<m->m<4294967296->
  PN k m t a1 a2 ps (ps.length:Int) (i:Int) s=if uf (ey T) x=0 then k a1 a2 s else V (uf (ey T) x)
 | [],i,m+1,hd,hm,rU=>by
  let ⟨this,hq⟩:=eI hd
  simp only[PN,acw,hq,aR,az,au,uf,ax]
 |p::x,i,m+1,hd,hm,rU=>by
  let ⟨g1,g2,g3,hq⟩:=dO hd
  simp at hm;have ih:=air k T s t hT hk ps hl hp a1 a2 x (i+1) m g2 (by omega) (by omega)
  have hpp:=hp p (bU g1);have hkl:=pX T;simp only[PN,acw,hq,aO,ax,bA,g1,ak,UF hT (by omega) (by omega:1000<m),aph m (ey T) [] p (by omega) (by simp;omega) (by omega) (by omega),bV g3 (by omega),ih,uf]
  by_cases h:ve (ey T) [] p=0
  ·simp only[h,jJ,az,au,ax]
  ·have:(ve (ey T) [] p !=0)=M:=by simpa using h
   simp only[h,this,ax,au]
 |_,_,0,_,hm,_=>by simp at hm
def xc:Bool:=U (I.ag.length<=8)&&(U (I.ar.length<=4)&&U (I.aL.length<=4))
def sn {T:ai} (h:xc T=M):T.ag.length<=8/\T.ar.length<=4/\T.aL.length<=4:=by simpa[xc] using h
def BE:Prop:=∀p∈I.aL,gd p<=1500000
def aiJ (n0:Nat) (s:ae) (hl:s.ah.length<=8) (hb:∀T∈s.ah,xc T=M) (hz:∀T∈s.ah,BE T):∀(x:bD) (i m:Nat),s.ah.drop i=x->x.length+1500010<m->m<4294967296->
  K1 (VI n0) m s.ah (s.ah.length:Int) (i:Int) s=V (CG x)
 | [],i,m+1,hd,hm,rU=>by
  let ⟨this,hq⟩:=eI hd
  simp only[K1,adD,VI,hq,aR,az,au,CG]
 |T::x,i,m+1,hd,hm,rU=>by
  let ⟨g1,g2,g3,hq⟩:=dO hd
  simp at hm;have MQ:=bU g1;let ⟨b1,b2,b3⟩:=sn (hb T MQ);have hT:idx s.ah (i:Int)=V T:=by rw[bA];exact g1
  have hkl:=pX T;have ih:=aiJ n0 s hl hb hz x (i+1) m g2 (by omega) (by omega)
  have jD:=aiK (adE (K1 (VI n0) m) m) (ey T) (by omega) s T.aL b3 (hz T MQ) s.ah (s.ah.length:Int) (i:Int) T.aL 0 m rfl (by omega) (by omega)
  rw[show ((0:Nat):Int)=0 from rfl] at jD;simp only[K1,adD,hq,aO,ax,hT,ak,aQm hT (by omega) (by omega:1000<m),jD,adE,bV g3 (by omega),ih,CG]
  by_cases h:uf (ey T) T.aL=0
  ·simp only[h,ax]
  ·simp only[h,au]
 |_,_,0,_,hm,_=>by simp at hm
def aiq (n0:Nat) (s:ae) (hl:s.ah.length<=8) (hb:∀T∈s.ah,xc T=M) (hz:∀T∈s.ah,BE T):∀(x:bD) (i m:Nat),s.ah.drop i=x->x.length+1500010<m->m<4294967296->
  KO (UM n0) m (s.ah.length:Int) (i:Int) s=V (CG x)
 | [],i,m+1,hd,hm,rU=>by
  let ⟨this,hq⟩:=eI hd
  simp only[KO,acu,UM,hq,aR,az,au,CG]
 |T::x,i,m+1,hd,hm,rU=>by
  let ⟨g1,g2,g3,hq⟩:=dO hd
  simp at hm;have MQ:=bU g1;let ⟨b1,b2,b3⟩:=sn (hb T MQ);have hT:idx s.ah (i:Int)=V T:=by rw[bA];exact g1
  have ih:=aiq n0 s hl hb hz x (i+1) m g2 (by omega) (by omega)
  have jD:=air (acv (KO (UM n0) m) m) T s (i:Int) hT b1 T.aL b3 (hz T MQ) (s.ah.length:Int) (i:Int) T.aL 0 m rfl (by omega) (by omega)
  rw[show ((0:Nat):Int)=0 from rfl] at jD;simp only[KO,acu,hq,aO,ax,hT,ak,jD,acv,bV g3 (by omega),ih,CG]
  by_cases h:uf (ey T) T.aL=0
  ·simp only[h,ax]
  ·simp only[h,au]
 |_,_,0,_,hm,_=>by simp at hm
def aiL (k:ae->A Int) (s:ae) (ts:bD) (hl:ts.length<=8):∀(x:bD) (i m:Nat),ts.drop i=x->x.length<m->Qg k m ts (ts.length:Int) (i:Int) s=if x.all xc=M then k s else V 2
 | [],i,m+1,hd,hm=>by
  let ⟨this,hq⟩:=eI hd
  simp only[Qg,adG,hq,aR,az,au,List.all_nil,ax]
 |T::x,i,m+1,hd,hm=>by
  let ⟨g1,g2,g3,hq⟩:=dO hd
  have ih:=aiL k s ts hl x (i+1) m g2 (by simp at hm;omega)
  simp only[Qg,adG,hq,aO,ax,bA,g1,ak,bV g3 (by omega),ih,ry,xc]
  by_cases h1:T.ag.length<=8
  ·have e1:¬(8:Int)<(T.ag.length:Int):=by omega
   by_cases h2:T.ar.length<=4
   ·have e2:¬(4:Int)<(T.ar.length:Int):=by omega
    by_cases h3:T.aL.length<=4
    ·have e3:¬(4:Int)<(T.aL.length:Int):=by omega
     simp only[h1,h2,h3,e1,e2,e3,aO,aR,az,au,qi,jd]
    ·have e3:(4:Int)<(T.aL.length:Int):=by omega
     simp only[h1,h2,h3,e1,e2,e3,aO,aR,az,au,ax,Dx,gR]
   ·have e2:(4:Int)<(T.ar.length:Int):=by omega
    simp only[h1,h2,e1,e2,aO,aR,az,au,ax,Dx,gR]
  ·have e1:(8:Int)<(T.ag.length:Int):=by omega
   simp only[h1,e1,aO,aR,az,au,ax,gR]
 |_,_,0,_,hm=>by simp at hm
def aiu (k:ae->A Int) (s:ae) (ts:bD) (hl:ts.length<=8):∀(x:bD) (i m:Nat),ts.drop i=x->x.length<m->PR k m ts (ts.length:Int) (i:Int) s=if x.all xc=M then k s else V 2
 | [],i,m+1,hd,hm=>by
  let ⟨this,hq⟩:=eI hd
  simp only[PR,acz,hq,aR,az,au,List.all_nil,ax]
 |T::x,i,m+1,hd,hm=>by
  let ⟨g1,g2,g3,hq⟩:=dO hd
  have ih:=aiu k s ts hl x (i+1) m g2 (by simp at hm;omega)
  simp only[PR,acz,hq,aO,ax,bA,g1,ak,bV g3 (by omega),ih,ry,xc]
  by_cases h1:T.ag.length<=8
  ·have e1:¬(8:Int)<(T.ag.length:Int):=by omega
   by_cases h2:T.ar.length<=4
   ·have e2:¬(4:Int)<(T.ar.length:Int):=by omega
    by_cases h3:T.aL.length<=4
    ·have e3:¬(4:Int)<(T.aL.length:Int):=by omega
     simp only[h1,h2,h3,e1,e2,e3,aO,aR,az,au,qi,jd]
    ·have e3:(4:Int)<(T.aL.length:Int):=by omega
     simp only[h1,h2,h3,e1,e2,e3,aO,aR,az,au,ax,Dx,gR]
   ·have e2:(4:Int)<(T.ar.length:Int):=by omega
    simp only[h1,h2,e1,e2,aO,aR,az,au,ax,Dx,gR]
  ·have e1:(8:Int)<(T.ag.length:Int):=by omega
   simp only[h1,e1,aO,aR,az,au,ax,gR]
 |_,_,0,_,hm=>by simp at hm
def ait (k:ae->A Int) (s:ae) (hl:s.ah.length<=8) (hc:∀T∈s.ah,xc T=M):∀(x:bD) (i m:Nat),s.ah.drop i=x->x.length+2000<m->PQ k m (s.ah.length:Int) (i:Int) s=if sI ((s.ah.take i).map (·.aM)) x=M then k s else V 70
 | [],i,m+1,hd,hm=>by
  let ⟨this,hq⟩:=eI hd
  simp only[PQ,acy,hq,aR,az,au,sI,ax]
 |T::x,i,m+1,hd,hm=>by
  let ⟨g1,g2,g3,hq⟩:=dO hd
  simp at hm;have ih:=ait k s hl hc x (i+1) m g2 (by omega)
  rw[HB,g1] at ih;simp only[HA,kh,ki,xf] at ih;simp only[PQ,acy,hq,aO,ax,aKn m s hl i T g1 (sn (hc T (bU g1))).1 (by omega),ak,bV g3 (by omega),ih,sI]
  rcases lC (Q5 ((s.ah.take i).map (·.aM)) T) with hv|hv<;>simp only[hv,dh,gB,az,ax,au,jd,gR]
 |_,_,0,_,hm=>by simp at hm
def ais (k:ae->A Int) (s:ae) (hs:∀t ge,idx s.ah t=V ge->jT ge) (hl:s.ah.length<=8) (hc:∀T∈s.ah,xc T=M):∀(x:bD) (i m:Nat),s.ah.drop i=x->x.length+2000<m->PO k m (s.ah.length:Int) (i:Int) s=if allRefs s x=M then k s else V 70
 | [],i,m+1,hd,hm=>by
  let ⟨this,hq⟩:=eI hd
  simp only[PO,acx,hq,aR,az,au,allRefs,ax]
 |T::x,i,m+1,hd,hm=>by
  let ⟨g1,g2,g3,hq⟩:=dO hd
  simp at hm;have ih:=ais k s hs hl hc x (i+1) m g2 (by omega)
  simp only[PO,acx,hq,aO,ax,aKm m s hs i T g1 (sn (hc T (bU g1))).2.1 (by omega),ak,bV g3 (by omega),ih,allRefs]
  rcases lC (vr s T T.ar) with hv|hv<;>simp only[hv,dh,gB,az,ax,au,jd,gR]
 |_,_,0,_,hm=>by simp at hm
def gm:Int:=
 if 8<K.ah.length then 2
 else if K.ah.all xc=M then
  (if K.aA<0 then 70 else if 1000<K.aA then 70
   else if sI [] K.ah=M then (if allRefs K K.ah=M then CG K.ah else 70) else 70)
 else 2
def Xc {s:ae} (hb:∀T∈s.ah,xc T=M) (h:sI [] s.ah=M):∀t ge,idx s.ah t=V ge->jT ge:=λt ge hG=>
 Q4 (λT hT=>(sn (hb T hT)).1) h ge (bU (EA hG).2.2)
structure pj (s:ae):Prop where
 len:s.ah.length<=8
 bY:∀t T,idx s.ah t=V T->jT T
def vI {s:ae} (h:gm s=0):pj s:=by
 unfold gm at h;split at h
 ·cases h
 ·rename_i h8;split at h
  ·rename_i hb;rw[j1] at hb;split at h
   ·cases h
   ·split at h
    ·cases h
    ·split at h
     ·rename_i ht;exact ⟨by omega,Xc hb ht⟩
     ·cases h
  ·cases h
def UG (hz:∀T∈K.ah,BE T) (hn:1600000<D) (fP:D<4294967296):Jh D K=V (gm K):=by
 unfold Jh auI gm;by_cases h8:8<K.ah.length
 ·have:(8:Int)<(K.ah.length:Int):=by omega
  simp only[h8,this,aO,ax]
 ·have h8':¬(8:Int)<(K.ah.length:Int):=by omega
  have h0:=aiL (adC D) K K.ah (by omega) K.ah 0 D rfl (by omega)
  rw[show ((0:Nat):Int)=0 from rfl] at h0;simp only[h8,h8',aR,az,au,h0];by_cases hb:K.ah.all xc=M
  ·simp only[hb,ax,adC];have nP:=j1.1 hb;by_cases v1:K.aA<0
   ·simp only[v1,aO,ax]
   ·by_cases v2:1000<K.aA
    ·simp only[v1,v2,aO,aR,az,au,ax]
    ·simp only[v1,v2,aR,az,au,aQo D K (by omega) (λT hT=>(sn (nP T hT)).1) (by omega),ak]
     by_cases ht:sI [] K.ah=M
     ·simp only[ht,dh,az,au,ax,aQn D K (Xc nP ht) (by omega) (λT hT=>(sn (nP T hT)).2.1) (by omega),ak]
      by_cases hr:allRefs K K.ah=M
      ·have h3:=aiJ D K (by omega) nP hz K.ah 0 D rfl (by omega) fP
       rw[show ((0:Nat):Int)=0 from rfl] at h3;simp only[hr,dh,az,au,ax,h3]
      ·simp only[hr,adO] at hr ⊢;simp[hr]
     ·have ht':sI [] K.ah=B:=by simpa using ht
      simp[ht']
  ·simp only[hb,au,az]
def Jd (hz:∀T∈K.ah,BE T) (hn:1600000<D) (fP:D<4294967296):F94 D K=V (gm K):=by
 unfold F94 ajI gm;by_cases h8:8<K.ah.length
 ·have:(8:Int)<(K.ah.length:Int):=by omega
  simp only[h8,this,aO,ax]
 ·have h8':¬(8:Int)<(K.ah.length:Int):=by omega
  have h0:=aiu (acq D) K K.ah (by omega) K.ah 0 D rfl (by omega)
  rw[show ((0:Nat):Int)=0 from rfl] at h0;simp only[h8,h8',aR,az,au,h0];by_cases hb:K.ah.all xc=M
  ·simp only[hb,ax,acq];have nP:=j1.1 hb;by_cases v1:K.aA<0
   ·simp only[v1,aO,ax]
   ·by_cases v2:1000<K.aA
    ·simp only[v1,v2,aO,aR,az,au,ax]
    ·have h1:=ait (acr D) K (by omega) nP K.ah 0 D rfl (by omega)
     rw[show ((0:Nat):Int)=0 from rfl,yV,xf] at h1;simp only[v1,v2,aR,az,au,h1];by_cases ht:sI [] K.ah=M
     ·have h2:=ais (acs D) K (Xc nP ht) (by omega) nP K.ah 0 D rfl (by omega)
      rw[show ((0:Nat):Int)=0 from rfl] at h2;simp only[ht,ax,acr,h2];by_cases hr:allRefs K K.ah=M
      ·have h3:=aiq D K (by omega) nP hz K.ah 0 D rfl (by omega) fP
       rw[show ((0:Nat):Int)=0 from rfl] at h3;simp only[hr,ax,acs,h3]
      ·simp only[hr,au,az]
     ·simp only[ht,au,az]
  ·simp only[hb,au,az]
def mT (r2 r3:bQ) (ch:bw):bD:=
 [⟨xp #[112,114,111,106,101,99,116,115],[⟨xp #[105,100],4⟩,⟨xp #[111,119,110,101,114],4⟩],1,[],[]⟩,
  ⟨xp #[116,97,115,107,115],[⟨xp #[105,100],E⟩,⟨xp #[112,114,111,106,101,99,116],4⟩,⟨xp #[116,105,116,108,101],5⟩,⟨xp #[100,111,110,101],3⟩],1,al,ch⟩,
  ⟨xp #[109,101,109,98,101,114,115],[⟨xp #[112,114,111,106,101,99,116],4⟩,⟨xp #[112,101,114,115,111,110],4⟩],2,r2,[]⟩,
  ⟨xp #[97,114,99,104,105,118,101,100],[⟨xp #[116,97,115,107],E⟩],1,r3,[]⟩]
structure aiT (v id:Int) (k:Nat) (r1 r2 r3:bQ) (ch:bw):Prop where
 v0:0<=v
 v1:v<=2
 jw:id=4\/id=5
 hk:k=2\/k=3\/k=4
 h1:r1= []\/r1= [⟨[1],0⟩]
 h2:r2= []\/r2= [⟨[0],0⟩]
 h3:r3= []\/r3= [⟨[0],1⟩]
 hc:ch.length<=1/\uf [id,4,5,3] ch=0/\∀p∈ch,gd p<=119
def NH (s:ae):Prop:=∃v id k r1 r2 r3 ch,aiT v id k r1 r2 r3 ch/\s=⟨v,(mT id r1 r2 r3 ch).take k⟩
def NH.kC {s:ae} (h:NH s):gm s=0:=by
 obtain ⟨v,id,k,r1,r2,r3,ch,⟨v0,v1,jw,hk,h1,h2,h3,hc0,hc,_⟩,rfl⟩:=h;have e1:¬8<((mT id r1 r2 r3 ch).take k).length:=by rw[dE];simp[mT];omega
 have e2:((mT id r1 r2 r3 ch).take k).all xc=M:=by
  have Ih:r1.length<=4:=by rcases h1 with rfl|rfl<;>simp
  have hr2:r2.length<=4:=by rcases h2 with rfl|rfl<;>simp
  have hr3:r3.length<=4:=by rcases h3 with rfl|rfl<;>simp
  have tp:ch.length<=4:=by omega
  rcases hk with rfl|rfl|rfl<;>simp[mT,xc,Ih,hr2,hr3,tp]
 have e3:sI [] ((mT id r1 r2 r3 ch).take k)=M:=by
  rcases jw with rfl|rfl<;>rcases hk with rfl|rfl|rfl<;>kernel_rfl
 have e4:allRefs ⟨v,(mT id r1 r2 r3 ch).take k⟩ ((mT id r1 r2 r3 ch).take k)=M:=by
  rcases jw with rfl|rfl<;>rcases hk with rfl|rfl|rfl<;>rcases h1 with rfl|rfl<;>rcases h2 with rfl|rfl<;>rcases h3 with rfl|rfl<;>kernel_rfl
 have e5:CG ((mT id r1 r2 r3 ch).take k)=0:=by
  rcases hk with rfl|rfl|rfl<;>simp[mT,CG,uf,ey,hc]
 unfold gm;simp only[e1,e2,e3,e4,e5,au,ax,show ¬v<0 by omega,show ¬1000<v by omega]
def Sl (hn:2000<=D) (fP:D<4294967296) (c:aN) (hc:dd c) (z:ae) (v id:Int) (k:Nat) (r1 r2 r3:bQ) (h:aiT v id k r1 r2 r3 []) (ts:bD) (mm:ts=(mT id r1 r2 r3 []).take k) (b5:ae) (M0:b5.aA=v):
  Ok (Lh D c z b5 ts) λr=>dd r.2/\NH r.1:=by
 unfold Lh;refine Ok.bind (tC D c 3 hc) λb hb=> ?_
 refine Ok.ite (λ_=> ?_) λ_=>Ok.pure ⟨hb,v,id,k,r1,r2,r3,[],h,by rw[M0,mm]⟩
 have hT:idx (ad0 b5.aA ts).ah 1=V ⟨xp #[116,97,115,107,115],[⟨xp #[105,100],id⟩,⟨xp #[112,114,111,106,101,99,116],4⟩,⟨xp #[116,105,116,108,101],5⟩,⟨xp #[100,111,110,101],3⟩],1,r1,[]⟩:=by
  rw[mm];rcases h.hk with rfl|rfl|rfl<;>rfl
 rw[UF hT (by simp) (by omega),ak]
 have BY:oh [id,4,5,3]=M:=by rcases h.jw with rfl|rfl<;>rfl
 refine Ok.bind (aQd [id,4,5,3] [] BY rfl (by simp) (by simp) 1 D b.2 hb (by omega) fP (by omega) (by omega)) λp ⟨hp,p0,pz⟩=> ?_
 have e1:eh ts.length 1=V 1:=by rw[mm];rcases h.hk with rfl|rfl|rfl<;>rfl
 have e2:ts[0+1]? =V ⟨xp #[116,97,115,107,115],[⟨xp #[105,100],id⟩,⟨xp #[112,114,111,106,101,99,116],4⟩,⟨xp #[116,105,116,108,101],5⟩,⟨xp #[100,111,110,101],3⟩],1,r1,[]⟩:=by
  rw[mm];rcases h.hk with rfl|rfl|rfl<;>rfl
 rw[e1,ak,e2,ak];have e3:setAt ts (0+1) ⟨xp #[116,97,115,107,115],[⟨xp #[105,100],id⟩,⟨xp #[112,114,111,106,101,99,116],4⟩,⟨xp #[116,105,116,108,101],5⟩,⟨xp #[100,111,110,101],3⟩],1,r1,[p.1]⟩=V ((mT id r1 r2 r3 [p.1]).take k):=by
  rw[mm];rcases h.hk with rfl|rfl|rfl<;>rfl
 rw[e3,ak];exact Ok.pure ⟨hp,v,id,k,r1,r2,r3,[p.1],⟨h.v0,h.v1,h.jw,h.hk,h.h1,h.h2,h.h3,by simp,by simp[uf,p0],by simpa using pz⟩,by rw[M0]⟩
def Lg (hn:2000<=D) (fP:D<4294967296) (c:aN) (hc:dd c) (z:ae) (v id:Int) (k:Nat) (r1 r2:bQ) (h:aiT v id k r1 r2 [] []) (ts:bD) (mm:ts=(mT id r1 r2 [] []).take k) (b5:ae) (M0:b5.aA=v):
  Ok (GG D (k:Int) c z b5 ts) λr=>dd r.2/\NH r.1:=by
 unfold GG;refine Ok.ite (λhk=> ?_) λ_=>Sl D hn fP c hc _ v id k r1 r2 [] h ts mm _ M0
 have hk:k=4:=by have:=h.hk;simp at hk;omega
 subst hk;refine Ok.bind (tC D c 3 hc) λb hb=> ?_
 refine Ok.ite (λ_=> ?_) λ_=>Sl D hn fP b.2 hb _ v id 4 r1 r2 [] h ts mm _ M0
 subst mm;show Ok (Lh D b.2 ⟨0,[]⟩ ⟨b5.aA,(mT id r1 r2 [⟨[0],1⟩] []).take 4⟩ ((mT id r1 r2 [⟨[0],1⟩] []).take 4)) _;exact Sl D hn fP b.2 hb _ v id 4 r1 r2 [⟨[0],1⟩] {h with h3:=.inr rfl} _ rfl _ M0
def ajO (hn:2000<=D) (fP:D<4294967296) (c:aN) (hc:dd c) (z:ae) (v id:Int) (k:Nat) (r1:bQ) (h:aiT v id k r1 [] [] []) (ts:bD) (mm:ts=(mT id r1 [] [] []).take k) (b5:ae) (M0:b5.aA=v):
  Ok (Lf D (k:Int) c z b5 ts) λr=>dd r.2/\NH r.1:=by
 unfold Lf;refine Ok.ite (λhk=> ?_) λ_=>Lg D hn fP c hc _ v id k r1 [] h ts mm _ M0
 refine Ok.bind (tC D c 3 hc) λb hb=> ?_
 refine Ok.ite (λ_=> ?_) λ_=>Lg D hn fP b.2 hb _ v id k r1 [] h ts mm _ M0
 subst mm;have hk:k=3\/k=4:=by have:=h.hk;simp at hk;omega
 rcases hk with rfl|rfl
 ·show Ok (GG D (3:Nat) b.2 ⟨0,[]⟩ ⟨b5.aA,(mT id r1 [⟨[0],0⟩] [] []).take 3⟩ ((mT id r1 [⟨[0],0⟩] [] []).take 3)) _;exact Lg D hn fP b.2 hb _ v id 3 r1 [⟨[0],0⟩] {h with h2:=.inr rfl} _ rfl _ M0
 ·show Ok (GG D (4:Nat) b.2 ⟨0,[]⟩ ⟨b5.aA,(mT id r1 [⟨[0],0⟩] [] []).take 4⟩ ((mT id r1 [⟨[0],0⟩] [] []).take 4)) _;exact Lg D hn fP b.2 hb _ v id 4 r1 [⟨[0],0⟩] {h with h2:=.inr rfl} _ rfl _ M0
def ajN (hn:2000<=D) (fP:D<4294967296) (c:aN) (hc:dd c) (z:ae) (id:Int) (jw:id=4\/id=5) (k:Nat) (hk:k=2\/k=3\/k=4):
  Ok (U4 D (k:Int) id c z) λr=>dd r.2/\NH r.1:=by
 unfold U4;refine Ok.bind (j7 D c 3 hc) λv ⟨hv,v0,v1,_⟩=> ?_
 have v1:=v1 (by omega)
 simp only[Fs,atN,ak];have h:∀r1,(r1= []\/r1= [⟨[1],0⟩])->aiT v.1 id k r1 [] [] []:=λr1 h1=>⟨v0,by omega,jw,hk,h1,.inl rfl,.inl rfl,by simp,rfl,by simp⟩
 have e0:so 4 (k:Int)=V k:=by unfold so;rw[aF (by omega)];rfl
 rw[e0,ak];refine Ok.bind (tC D v.2 2 hv) λb hb=> ?_
 refine Ok.ite (λ_=> ?_) λ_=> ?_
 rotate_left
 ·show Ok (Lf D (k:Int) b.2 ⟨0,[]⟩ ⟨v.1,(mT id [] [] [] []).take k⟩ ((mT id [] [] [] []).take k)) _;exact ajO D hn fP b.2 hb _ v.1 id k [] (h [] (.inl rfl)) _ rfl _ rfl
 have e1:eh k 1=V 1:=by rcases hk with rfl|rfl|rfl<;>rfl
 rw[e1,ak];show Ok (Lf D (k:Int) b.2 ⟨0,[]⟩ ⟨v.1,(mT id [⟨[1],0⟩] [] [] []).take k⟩ ((mT id [⟨[1],0⟩] [] [] []).take k)) _;exact ajO D hn fP b.2 hb _ v.1 id k [⟨[1],0⟩] (h _ (.inr rfl)) _ rfl _ rfl
def aQs (hn:2000<=D) (fP:D<4294967296) (c:aN) (hc:dd c):Ok (F38 D c) λr=>dd r.2/\NH r.1:=by
 unfold F38 auy;refine Ok.bind (j7 D c 3 hc) λv ⟨hv,v0,v1,_⟩=> ?_
 have v1:=v1 (by omega)
 have e:aV (2+v.1)=((2+v.1.toNat:Nat):Int):=by rw[cT (by omega) (by omega)];omega
 rw[e];refine Ok.bind (tC D v.2 5 hv) λb hb=> ?_
 exact Ok.ite (λ_=>ajN D hn fP b.2 hb _ 5 (.inr rfl) _ (by omega)) λ_=>ajN D hn fP b.2 hb _ 4 (.inl rfl) _ (by omega)
def Gk:∀{a b c:List UInt8},Kx a b=M->Kx b c=M->Kx a c=M
 |_,[],_,h,_=>by cases ‹List UInt8› <;>simp[Kx] at h
 |_,_::_,[],_,h=>by simp[Kx] at h
 | [],_::_,_::_,_,_=>by simp[Kx]
 |x::a,y::b,z::c,h1,h2=>by
  rw[ZB] at h1 h2 ⊢;simp only[sU,j2,bJ,sR] at h1 h2 ⊢;rcases h1 with h1|⟨rfl,h1⟩<;>rcases h2 with h2|⟨rfl,h2⟩
  ·exact .inl (UInt8.lt_trans h1 h2)
  ·exact .inl h1
  ·exact .inl h2
  ·exact .inr ⟨rfl,Gk h1 h2⟩
def aln {a b:aT}:mn a b= -1↔a.aE<b.aE\/(a.aE=b.aE/\(a.dj<b.dj\/(a.dj=b.dj/\Kx a.cM.toList b.cM.toList=M))):=by
 unfold mn;split
 ·rename_i h;simp[h]
 ·split
  ·rename_i h1 h;constructor
   ·intro h;omega
   ·intro h;omega
  ·have e:a.aE=b.aE:=by omega
   split
   ·rename_i h;simp[e,h]
   ·split
    ·constructor
     ·intro h;omega
     ·intro h;omega
    ·have e2:a.dj=b.dj:=by omega
     split
     ·rename_i h;simp[e,e2,h]
     ·rename_i h;split
      ·constructor
       ·intro h;omega
       ·rintro (h'|⟨_,h'|⟨_,h'⟩⟩)
        ·omega
        ·omega
        ·exact absurd h' h
      ·constructor
       ·intro h;omega
       ·rintro (h'|⟨_,h'|⟨_,h'⟩⟩)
        ·omega
        ·omega
        ·exact absurd h' h
def apD {a b c:aT} (h1:mn a b= -1) (h2:mn b c= -1):mn a c= -1:=by
 rw[aln] at*;rcases h1 with h1|⟨e1,h1⟩<;>rcases h2 with h2|⟨e2,h2⟩
 ·left;omega
 ·left;omega
 ·left;omega
 ·right;refine ⟨by omega,?_⟩
  rcases h1 with h1|⟨e3,h1⟩<;>rcases h2 with h2|⟨e4,h2⟩
  ·left;omega
  ·left;omega
  ·left;omega
  ·exact .inr ⟨by omega,Gk h1 h2⟩
def HI {a b:aT} (h:mn a b=0):a=b:=by
 unfold mn at h;split at h
 ·cases h
 ·split at h
  ·cases h
  ·split at h
   ·cases h
   ·split at h
    ·cases h
    ·split at h
     ·cases h
     ·split at h
      ·rename_i h5;obtain ⟨x,y,z⟩:=a;obtain ⟨x',y',z'⟩:=b;simp only at*;rw[show x=x' by omega,show y=y' by omega,h5]
      ·cases h
def uY:∀{x y:bp},ee x y=0->x=y
 | [],[],_=>rfl
 | [],_::_,h=>by simp[ee] at h
 |_::_,[],h=>by simp[ee] at h
 |a::x,b::y,h=>by
  simp only[ee] at h;split at h
  ·rename_i h0;rw[HI h0,uY h]
  ·exact absurd h (by assumption)
def uX {y:bp}:ee x y=0↔x=y:=⟨uY,λh=>h ▸ tK x⟩
def Th:∀{x y z:bp},ee x y= -1->ee y z= -1->ee x z= -1
 | [],[],_,h,_=>by simp[ee] at h
 | [],_::_,[],_,h=>by simp[ee] at h
 | [],_::_,_::_,_,_=>by simp[ee]
 |_::_,[],_,h,_=>by simp[ee] at h
 |_::_,_::_,[],_,h=>by simp[ee] at h
 |a::x,b::y,c::z,h1,h2=>by
  simp only[ee] at h1 h2 ⊢;split at h1
  ·rename_i e1;have e1:=HI e1;subst e1;split at h2
   ·rename_i e2;rw[aF e2];exact Th h1 h2
   ·rename_i e2;rw[aC e2];exact h2
  ·split at h2
   ·rename_i e2;have e2:=HI e2;subst e2;rw[aC (by omega)];exact h1
   ·have:=apD h1 h2;rw[aC (by omega)];exact this
abbrev dY (T:ai) (r:bp):bp:=r.take T.aH.toNat
def lt:Prop:=ee W ay= -1
instance (a b:bp):Decidable (lt a b):=inferInstanceAs (Decidable (_=_))
def lt_irrefl:¬lt W W:=λh=>by have:=tK W;unfold lt at h;omega
def lt_trans {a b c:bp} (h1:lt a b) (h2:lt b c):lt a c:=Th h1 h2
def lt_asymm {a b:bp} (h:lt a b):¬lt b a:=λh'=>lt_irrefl a (lt_trans h h')
def H6:lt W ay\/W=ay\/lt ay W:=by
 rcases JO W ay with h|h|h
 ·exact .inl h
 ·exact .inr (.inl (uY h))
 ·exact .inr (.inr (by show ee ay W= -1;rw[xL W ay,h]))
def s9 {a b:bp}:ee a b<0↔lt a b:=by
 unfold lt;rcases JO a b with h|h|h<;>omega
def Ord (T:ai) (rows:bn):Prop:=rows.Pairwise λa b=>lt (dY T a) (dY T b)
def mo (N rows:bn):bn:=rows.filter (λr=>U (lt (dY I r) W))++N++rows.filter (λr=>U (lt W (dY I r)))
def xP {T:ai} {k:bp} {N rows:bn}:r∈mo T k N rows↔(r∈rows/\dY T r≠k)\/r∈N:=by
 unfold mo;simp only[eV,mD,j2];constructor
 ·rintro ((⟨h1,h2⟩|h)|⟨h1,h2⟩)
  ·exact .inl ⟨h1,λe=>lt_irrefl _ (e ▸ h2)⟩
  ·exact .inr h
  ·exact .inl ⟨h1,λe=>lt_irrefl _ (e ▸ h2)⟩
 ·rintro (⟨h1,h2⟩|h)
  ·rcases H6 (dY T r) k with h|h|h
   ·exact .inl (.inl ⟨h1,h⟩)
   ·exact absurd h h2
   ·exact .inr ⟨h1,h⟩
  ·exact .inl (.inr h)
def Rl {T:ai} {k:bp} {N rows:bn} (h:Ord T rows) (hN:N= []\/∃r,N= [r]/\dY T r=k):Ord T (mo T k N rows):=by
 unfold Ord mo at*;have hN1:∀r∈N,dY T r=k:=by
  rcases hN with rfl|⟨r,rfl,e⟩
  ·simp
  ·simpa using e
 rw[WM,WM];refine ⟨⟨h.filter _,?_,λa ha b hb=> ?_⟩,h.filter _,λa ha b hb=> ?_⟩
 ·rcases hN with rfl|⟨r,rfl,e⟩<;>simp
 ·rw[hN1 b hb];simpa using (mD.1 ha).2
 ·have hb:lt k (dY T b):=by simpa using (mD.1 hb).2
  rcases eV.1 ha with ha|ha
  ·exact lt_trans (by simpa using (mD.1 ha).2) hb
  ·rw[hN1 a ha];exact hb
def filter_all {p:J->Bool} {l:List J} (h:∀x∈l,p x=M):l.filter p=l:=D0.2 h
def filter_none {p:J->Bool} {l:List J} (h:∀x∈l,p x=B):l.filter p= []:=yg.2 λx hx=>by rw[h x hx];simp
def aAY {T:ai} {k:bp} {N f9 g6:bn} (hA:∀r∈f9,lt (dY T r) k) (hB:∀r∈g6,lt k (dY T r)):mo T k N (f9++g6)=f9++N++g6:=by
 unfold mo;rw[uQ,uQ,filter_all (λx hx=>by simpa using hA x hx),filter_none (λx hx=>by simpa using lt_asymm (hB x hx)),filter_none (l:=f9) (λx hx=>by simpa using lt_asymm (hA x hx)),filter_all (l:=g6) (λx hx=>by simpa using hB x hx)]
 simp
def awn {T:ai} {k q:bp} {N f9 g6:bn} (hA:∀r∈f9,lt (dY T r) k) (hq:dY T q=k) (hB:∀r∈g6,lt k (dY T r)):mo T k N (f9++q::g6)=f9++N++g6:=by
 unfold mo;have h1:U (lt (dY T q) k)=B:=by rw[hq];simpa using lt_irrefl k
 have h2:U (lt k (dY T q))=B:=by rw[hq];simpa using lt_irrefl k
 rw[uQ,uQ,je,je,h1,h2,filter_all (λx hx=>by simpa using hA x hx),filter_none (λx hx=>by simpa using lt_asymm (hB x hx)),filter_none (l:=f9) (λx hx=>by simpa using lt_asymm (hA x hx)),filter_all (l:=g6) (λx hx=>by simpa using hB x hx)]
 simp
def fY:Int:=if H<0 then (if E<L then L-1 else L) else if L=E then H else if E<H/\E<L/\L<=H then L-1 else if H<E/\H<=L/\L<E then L+1 else L
def Qm (h1: -9223372036854775808<=E) (h2:E<=9223372036854775807) (h3: -9223372036854775808<=H) (h4:H<=9223372036854775807):K5 D E H L=V (fY H L E):=by
 have w1:H<E->aV (E-1)=E-1:=λh=>cT (by omega) (by omega)
 have w2:E<H->aV (E+1)=E+1:=λh=>cT (by omega) (by omega)
 unfold K5 alc wi fY;by_cases c1:L<0
 ·by_cases c2:H<E<;>simp[c1,c2,w1]
 ·by_cases c2:E=H
  ·subst c2;simp[c1]
  ·by_cases c3:H<E
   ·have n1:¬E<H:=by omega
    by_cases c4:L<E
    ·have n2:¬E<=L:=by omega
     by_cases c5:H<L<;>by_cases c6:L<H<;>by_cases c7:E<L<;>simp[c1,c2,c3,c4,n1,n2,c5,c6,c7]
    ·have c4':E<=L:=by omega
     have c5:H<L:=by omega
     simp[c1,c2,c3,c4,c4',c5,w1]
   ·have c3':E<H:=by omega
    by_cases c4:E<L
    ·have n2:¬L<=E:=by omega
     by_cases c5:H<L<;>by_cases c6:L<H<;>simp[c1,c2,c3,c4,n2,c5,c6]
    ·have c4':L<=E:=by omega
     have c6:L<H:=by omega
     have c5:¬H<L:=by omega
     simp[c1,c2,c3,c4,c4',c5,c6,c3',w2]
def kZ:bO:=if ac.aE==1 then ⟨ac.aE,am ac.dk,ac.bk⟩ else ac
mutual
def nn (f:Int->Int):aj->aj
 |⟨op,c,l,r,args⟩=>⟨op,c,kZ f l,kZ f r,jZ f args⟩
def jZ (f:Int->Int):bw->bw
 | []=> []
 |x::xs=>nn f x::jZ f xs
end
def Mv (f:Int->Int):∀xs:bw,(jZ f xs).length=xs.length
 | []=>by simp[jZ]
 |x::xs=>by simp[jZ,Mv f xs]
def Mu (f:Int->Int):∀xs:bw,jZ f xs=xs.map (nn f)
 | []=>by simp[jZ]
 |x::xs=>by simp[jZ,Mu f xs]
mutual
def anG (f:Int->Int):∀p:aj,gd (nn f p)=gd p
 |⟨op,c,l,r,args⟩=>by simp only[nn,gd,agD f args]
def agD (f:Int->Int):∀xs:bw,l3 (jZ f xs)=l3 xs
 | []=>by simp[jZ]
 |x::xs=>by simp only[jZ,l3,anG f x,agD f xs]
end
def Cv:Bool:=ac.aE !=1||(U (0<=ac.dk)&&U (ac.dk<E))
mutual
def pS (N:Int):aj->Bool
 |⟨op,c,l,r,args⟩=>(if op==3 then Cv N l&&Cv N r else l.aE !=1&&r.aE !=1)&&Mo N args
def Mo (N:Int):bw->Bool
 | []=>M
 |x::xs=>pS N x&&Mo N xs
end
def Y3 {N:Int}:∀{xs:bw} {x:aj},Mo N xs=M->x∈xs->pS N x=M
 |y::ys,x,h,hx=>by
  simp only[Mo,bJ] at h;rcases da.1 hx with rfl|hx
  ·exact h.1
  ·exact Y3 h.2 hx
def Tv (h:C8 o=M):o.aE=0:=by
 simp[C8] at h;exact h.1
def QN {l r:bO} (h:l5 c l r=M):l.aE=0/\r.aE=0:=by
 simp only[l5,bJ] at h;exact ⟨Tv h.1.2,Tv h.2⟩
def agy {params:aP} (h:ma cols params o≠0):Cv cols.length o=M:=by
 unfold Cv;by_cases h1:o.aE=1
 ·have h:kAt cols o≠0:=by
   unfold ma at h;simpa[h1] using h
  unfold kAt at h;split at h
  ·rename_i hh;simp[h1,hh.1,hh.2.1]
  ·exact absurd rfl h
 ·simp[h1]
mutual
def aEx {cols params:aP}:∀{p:aj},pV cols params p=M->pS cols.length p=M
 |⟨op,c,l,r,args⟩,h=>by
  unfold pV at h;unfold pS;by_cases h1:op=1\/op=2
  ·have cR:(op==3)=B:=by rcases h1 with rfl|rfl<;>rfl
   have hb:(op==1||op==2)=M:=by rcases h1 with rfl|rfl<;>rfl
   rw[hb] at h;simp only[ax,bJ] at h;let ⟨k1,k2⟩:=QN h.1;have ha:args= []:=by simpa using h.2
   rw[cR,ha];simp[k1,k2,Mo]
  ·have hb:(op==1||op==2)=B:=by
    rw[adL];simp;omega
   rw[hb] at h;simp only[az,au] at h;by_cases h3:op=3
   ·subst h3;simp at h;have ha:args= []:=h.1.1.1.1;rw[ha];have k1:=agy (cols:=cols) (params:=params) (o:=l) h.1.2;have k2:=agy (cols:=cols) (params:=params) (o:=r) (by rw[<-h.2];exact h.1.2)
    simp[k1,k2,Mo]
   ·have cR:(op==3)=B:=by simpa using h3
    rw[cR] at h ⊢;simp only[az,au] at h ⊢;have key:l5 c l r=M/\rO cols params args=M:=by
     split at h
     ·simpa using h
     ·split at h
      ·simp only[bJ] at h;exact h.2
      ·cases h
    let ⟨k1,k2⟩:=QN key.1;rw[amY key.2,k1,k2];rfl
def amY {cols params:aP}:∀{xs:bw},rO cols params xs=M->Mo cols.length xs=M
 | [],_=>by simp[Mo]
 |x::xs,h=>by
  simp only[rO,bJ] at h;simp only[Mo,aEx h.1,amY h.2,qi]
end
def yC (h:o.aE≠1):kZ f o=o:=by
 unfold kZ;rw[aC (by simpa using h)]
def apf:∀(n:Nat) (p:aj),gd p<=n->gd p<1000000->K4 n p=V p
 |0,⟨_,_,_,_,_⟩,h,_=>by simp[gd] at h
 |n+1,⟨op,c,l,r,args⟩,h,hb=>by
  simp only[gd] at h hb;have hlen:=rz args;have loop:∀(k3:aj->aj->bw->A aj) (xs:bw) (i k:Nat) (b4 b5:aj),args.drop i=xs->xs.length<k->
    ∃Cd Cc,Cc.bg=b5.bg/\Cc.fI=b5.fI/\Cc.cQ=b5.cQ/\Cc.cx=b5.cx/\IU (K4 n) k3 k args (args.length:Int) (i:Int) b4 b5 (args.take i)=k3 Cd Cc args:=by
   intro k3 xs;induction xs with
   |nil=>
    intro i k b4 b5 hd hk;let ⟨hi,hq⟩:=eI hd
    cases k with
    |zero=>simp at hk
    |succ k=>exact ⟨aj.mk b4.bg b4.fI b4.cQ b4.cx [],aj.mk b5.bg b5.fI b5.cQ b5.cx args,rfl,rfl,rfl,rfl,by simp[IU,VT,hq,iT hi]⟩
   |cons x xs ih=>
    intro i k b4 b5 hd hk;let ⟨g1,g2,g3,hq⟩:=dO hd
    cases k with
    |zero=>simp at hk
    |succ k=>
     have hx:x∈args:=bU g1;have hs:=uT hx;have ht:args.take i++ [x]=args.take (i+1):=by rw[qk,g1];rfl
     let ⟨Cd,Cc,e1,e2,e3,e4,e5⟩:=ih (i+1) k (aj.mk b4.bg b4.fI b4.cQ b4.cx []) (aj.mk b5.bg b5.fI b5.cQ b5.cx (args.take (i+1))) g2 (by simp at hk;omega)
     refine ⟨Cd,Cc,e1,e2,e3,e4,?_⟩;simp only[IU,VT,hq,aO,ax,bA,g1,ak,apf n x (by omega) (by omega),dr (args.take i) [x] (by simp;omega),ht,bV g3 (by omega:args.length<4294967296),e5]
  have fin:∀(b2 b4 b5:aj),b2.fArgs=args->N2 (K4 n) n b2 b4 b5=V ⟨b5.bg,b5.fI,b5.cQ,b5.cx,args⟩:=by
   intro b2 b4 b5 ha;let ⟨Cd,Cc,e1,e2,e3,e4,e5⟩:=loop (VS (K4 n) n) args 0 n sw (aj.mk b5.bg b5.fI b5.cQ b5.cx []) rfl (by omega)
   unfold N2;rw[ha];refine e5.trans ?_;unfold VS;rw[e1,e2,e3,e4]
  have f3:∀(b2 b4 b5:aj),b2.fArgs=args->N1 (K4 n) n b2 b4 b5=V ⟨b5.bg,b5.fI,b5.cQ,b5.cx,args⟩:=by
   intro b2 b4 b5 ha;unfold N1;split
   ·rw[show ∀c,ajt n c=V c from λ_=>rfl,ak]
    exact fin b2 _ _ ha
   ·exact fin b2 _ _ ha
  unfold K4 akH;split
  ·rw[show ∀c,ajt n c=V c from λ_=>rfl,ak]
   exact f3 ⟨op,c,l,r,args⟩ _ _ rfl
  ·exact f3 ⟨op,c,l,r,args⟩ _ _ rfl
def ly:Int:=
 if F.bg=2 then (if H<0 then H else if H=F.ba then -1 else if F.ba<H then H-1 else H)
 else if F.bg=3 then (if H<0 then H else if H=F.ba then F.kM else if F.ba<H/\H<=F.kM then H-1 else if F.kM<=H/\H<F.ba then H+1 else H)
 else H
def nr:Prop:= -9223372036854775808<=E/\E<=9223372036854775807
def apd (hi:nr E) (ha:nr H):ato D E H L=V (if E=H then L else if H<E/\E<=L then E-1 else if L<=E/\E<H then E+1 else E):=by
 let ⟨h1,h2⟩:=hi;let ⟨h3,h4⟩:=ha;have w1:H<E->aV (E-1)=E-1:=λh=>cT (by omega) (by omega)
 have w2:E<H->aV (E+1)=E+1:=λh=>cT (by omega) (by omega)
 unfold ato akv Jr;by_cases c2:E=H
 ·subst c2;simp
 ·by_cases c3:H<E
  ·have n1:¬E<H:=by omega
   by_cases c4:L<E
   ·have n2:¬E<=L:=by omega
    by_cases c7:E<L<;>simp[c2,c3,c4,n1,n2,c7]
   ·have c4':E<=L:=by omega
    simp[c2,c3,c4,c4',w1]
  ·have c3':E<H:=by omega
   by_cases c4:E<L
   ·have n2:¬L<=E:=by omega
    simp[c2,c3,c4,n2]
   ·have c4':L<=E:=by omega
    simp[c2,c3,c4,c4',c3',w2]
def aoO (g:aJ) (gC:g.fm.bg=2\/g.fm.bg=3) (hc:nr E) (ha:nr g.fm.ba):Sb D E g=V (ly g.fm E):=by
 let ⟨h1,h2⟩:=hc;let ⟨h3,h4⟩:=ha;unfold Sb ajS ZZ Wv ly;rcases gC with h|h
 ·have n7:¬g.fm.bg=7:=by omega
  by_cases c1:E<0
  ·simp[h,c1]
  ·by_cases c2:E=g.fm.ba
   ·simp[h,c1,c2];have:0<=g.fm.ba:=by omega
    simp[this];intro;omega
   ·by_cases c3:g.fm.ba<E
    ·simp[h,c1,c2,c3,cT (x:=E-1) (by omega) (by omega)]
    ·simp[h,c1,c2,c3]
 ·by_cases c1:E<0
  ·simp[h,c1]
  ·have:=apd D E g.fm.ba g.fm.kM ⟨h1,h2⟩ ⟨h3,h4⟩;simp only[h,this,c1,ak,gQ,aR,gB,ax,au,show ((3:Int)==7)=B from rfl,show ((3:Int)==2)=B from rfl,show ¬(3:Int)=2 by omega,az]
def ajz (N:Int) (hN:N<=1000) (g:aJ) (gC:g.fm.bg=2\/g.fm.bg=3) (ha:nr g.fm.ba):∀(n:Nat) (p:aj),gd p<=n->gd p<1000000->pS N p=M->Ds n p g=V (nn (ly g.fm) p)
 |0,⟨_,_,_,_,_⟩,h,_,_=>by simp[gd] at h
 |n+1,⟨op,c,l,r,args⟩,h,hb,hp=>by
  simp only[gd] at h hb;have hlen:=rz args;have hml:=Mv (ly g.fm) args;simp only[pS,bJ] at hp;let ⟨sC,hp2⟩:=hp;have hF:∀o:bO,(if op==3 then Cv N o=M else o.aE≠1)->o.aE=1->Sb n o.dk g=V (ly g.fm o.dk):=λo ho hk=>by
   split at ho
   ·simp[Cv,hk] at ho;exact aoO n _ g gC ⟨by omega,by omega⟩ ha
   ·exact absurd hk ho
  have hl:(if op==3 then Cv N l=M else l.aE≠1):=by
   split at sC
   ·rename_i q;simp only[bJ] at sC;rw[aF q];exact sC.1
   ·rename_i q;simp at sC;rw[aC q];exact sC.1
  have hr:(if op==3 then Cv N r=M else r.aE≠1):=by
   split at sC
   ·rename_i q;simp only[bJ] at sC;rw[aF q];exact sC.2
   ·rename_i q;simp at sC;rw[aC q];exact sC.2
  have loop:∀(k3:aJ->aj->aj->bw->A aj) (xs:bw) (i k:Nat) (b4 b5:aj),args.drop i=xs->xs.length<k->
    ∃Cd Cc,Cc.bg=b5.bg/\Cc.fI=b5.fI/\Cc.cQ=b5.cQ/\Cc.cx=b5.cx/\DU (Ds n) k3 k args (args.length:Int) (i:Int) g b4 b5 ((jZ (ly g.fm) args).take i)=k3 g Cd Cc (jZ (ly g.fm) args):=by
   intro k3 xs;induction xs with
   |nil=>
    intro i k b4 b5 hd hk;let ⟨hi,hq⟩:=eI hd
    cases k with
    |zero=>simp at hk
    |succ k=>exact ⟨aj.mk b4.bg b4.fI b4.cQ b4.cx [],aj.mk b5.bg b5.fI b5.cQ b5.cx (jZ (ly g.fm) args),rfl,rfl,rfl,rfl,by simp[DU,QH,hq,iT (show (jZ (ly g.fm) args).length<=i by omega)]⟩
   |cons x xs ih=>
    intro i k b4 b5 hd hk;let ⟨g1,g2,g3,hq⟩:=dO hd
    cases k with
    |zero=>simp at hk
    |succ k=>
     have hx:x∈args:=bU g1;have hs:=uT hx;have ht:(jZ (ly g.fm) args).take i++ [nn (ly g.fm) x]=(jZ (ly g.fm) args).take (i+1):=by
      rw[qk,Mu,oe,g1];rfl
     let ⟨Cd,Cc,e1,e2,e3,e4,e5⟩:=ih (i+1) k (aj.mk b4.bg b4.fI b4.cQ b4.cx []) (aj.mk b5.bg b5.fI b5.cQ b5.cx ((jZ (ly g.fm) args).take (i+1))) g2 (by simp at hk;omega)
     refine ⟨Cd,Cc,e1,e2,e3,e4,?_⟩;simp only[DU,QH,hq,aO,ax,bA,g1,ak,ajz N hN g gC ha n x (by omega) (by omega) (Y3 hp2 hx),dr ((jZ (ly g.fm) args).take i) [nn (ly g.fm) x] (by simp;omega),ht,bV g3 (by omega:args.length<4294967296),e5]
  have fin:∀(b2 b4 b5:aj),b2.fArgs=args->Jw (Ds n) n g b2 b4 b5=V ⟨b5.bg,b5.fI,b5.cQ,b5.cx,jZ (ly g.fm) args⟩:=by
   intro b2 b4 b5 ha;let ⟨Cd,Cc,e1,e2,e3,e4,e5⟩:=loop (QG (Ds n) n) args 0 n sw (aj.mk b5.bg b5.fI b5.cQ b5.cx []) rfl (by omega)
   unfold Jw;rw[ha];refine e5.trans ?_;unfold QG;rw[e1,e2,e3,e4]
  have f3:∀(b2 b4 b5:aj),b2.fArgs=args->b5.cx=r->Jv (Ds n) n g b2 b4 b5=V ⟨b5.bg,b5.fI,b5.cQ,kZ (ly g.fm) r,jZ (ly g.fm) args⟩:=by
   intro b2 b4 b5 ha hr5;unfold Jv kZ;rw[hr5];split
   ·rename_i hk;rw[hF r hr (by simpa using hk),ak]
    exact fin b2 _ _ ha
   ·rw[<-hr5];exact fin b2 _ _ ha
  unfold Ds Z6;simp only[nn];split
  ·rename_i hk;rw[hF l hl (by simpa using hk),ak,f3 ⟨op,c,l,r,args⟩ _ _ rfl rfl]
   unfold kZ;rw[aF hk]
  ·rename_i hk;rw[f3 ⟨op,c,l,r,args⟩ _ _ rfl rfl,yC (o:=l) (by simpa using hk)]
def aoU (N:Int) (hN:N<=1000) (a b:Int) (ha:nr a):∀(n:Nat) (p:aj),gd p<=n->gd p<1000000->pS N p=M->Hk n p a b=V (nn (fY a b) p)
 |0,⟨_,_,_,_,_⟩,h,_,_=>by simp[gd] at h
 |n+1,⟨op,c,l,r,args⟩,h,hb,hp=>by
  simp only[gd] at h hb;have hlen:=rz args;have hml:=Mv (fY a b) args;simp only[pS,bJ] at hp;let ⟨sC,hp2⟩:=hp;have loop:∀(k3:aj->aj->bw->A aj) (xs:bw) (i k:Nat) (b3 b6:aj),args.drop i=xs->xs.length<k->
    ∃b6',IJ (Hk n) k3 k a b args (args.length:Int) (i:Int) b3 b6 ((jZ (fY a b) args).take i)=k3 b3 b6' (jZ (fY a b) args):=by
   intro k3 xs;induction xs with
   |nil=>
    intro i k b3 b6 hd hk;let ⟨hi,hq⟩:=eI hd
    cases k with
    |zero=>simp at hk
    |succ k=>exact ⟨aj.mk b6.bg b6.fI b6.cQ b6.cx [],by simp[IJ,Vv,hq,iT (show (jZ (fY a b) args).length<=i by omega)]⟩
   |cons x xs ih=>
    intro i k b3 b6 hd hk;let ⟨g1,g2,g3,hq⟩:=dO hd
    cases k with
    |zero=>simp at hk
    |succ k=>
     have hx:x∈args:=bU g1;have hs:=uT hx;have ht:(jZ (fY a b) args).take i++ [nn (fY a b) x]=(jZ (fY a b) args).take (i+1):=by
      rw[qk,Mu,oe,g1];rfl
     let ⟨b6',e5⟩:=ih (i+1) k b3 (aj.mk b6.bg b6.fI b6.cQ b6.cx []) g2 (by simp at hk;omega)
     refine ⟨b6',?_⟩;simp only[IJ,Vv,hq,aO,ax,bA,g1,ak,aoU N hN a b ha n x (by omega) (by omega) (Y3 hp2 hx),dr ((jZ (fY a b) args).take i) [nn (fY a b) x] (by simp;omega),ht,bV g3 (by omega:args.length<4294967296),e5]
  have fin:∀(b3 b6:aj),b3.fArgs=args->Fw (Hk n) n a b b3 b6=V ⟨b3.bg,b3.fI,b3.cQ,b3.cx,jZ (fY a b) args⟩:=by
   intro b3 b6 hb3;let ⟨b6',e5⟩:=loop (akg (Hk n) n) args 0 n b3 sw rfl (by omega)
   unfold Fw;rw[hb3];exact e5
  unfold Hk akf;simp only[nn];by_cases h3:op=3
  ·subst h3;simp only[gQ,ax,bJ] at sC ⊢;have hF:∀o:bO,Cv N o=M->o.aE=1->K5 n o.dk a b=V (fY a b o.dk):=λo ho hk=>by
    simp[Cv,hk] at ho;exact Qm n _ a b (by omega) (by omega) ha.1 ha.2
   have f0:∀(b3 b6:aj),b3.fArgs=args->b3.cx=r->NV (Hk n) (Fw (Hk n) n) n a b b3 b6=V ⟨b3.bg,b3.fI,b3.cQ,kZ (fY a b) r,jZ (fY a b) args⟩:=by
    intro b3 b6 hb3 hr5;unfold NV kZ;rw[hr5];split
    ·rename_i hk;rw[hF r sC.2 (by simpa using hk),ak]
     exact fin _ _ hb3
    ·rw[<-hr5];exact fin b3 _ hb3
   split
   ·rename_i hk;rw[hF l sC.1 (by simpa using hk),ak,f0 _ _ rfl rfl]
    unfold kZ;rw[aF hk]
   ·rename_i hk;rw[f0 _ _ rfl rfl,yC (o:=l) (by simpa using hk)]
  ·have cR:(op==3)=B:=by simpa using h3
   rw[cR] at sC ⊢;simp at sC;simp only[az,au];rw[fin _ _ rfl,yC sC.1,yC sC.2]
def fX {n:Nat} (h:i<n):eh n (i:Int)=V i:=by
 unfold eh;rw[aF ⟨by omega,by omega⟩];rfl
def dC {xs:List J} (x:J) (h:i<xs.length):setAt xs i x=V (xs.set i x):=by
 unfold setAt;rw[aF h]
def fT {J:Type} (f:J->J) (l:List J) (j:Nat):List J:=(l.take j).map f++l.drop j
def lP (f:J->J) (l:List J) (j:Nat):(fT f l j).length=l.length:=by
 simp[fT];omega
def za (f:J->J) (l:List J):fT f l 0=l:=by simp[fT]
def tS (f:J->J) (l:List J) {j:Nat} (h:l.length<=j):fT f l j=l.map f:=by
 simp[fT,iT h,uq h]
def nj (f:J->J) {l:List J} {j:Nat} {x:J} (h:l[j]? =V x):(fT f l j)[j]? =V x:=by
 have hl:=(bK.1 h).1;unfold fT;rw[nY (by simp;omega),my,dE,fu (by omega),rF,fh]
 exact h
def tR (f:J->J) {l:List J} {j:Nat} {x:J} (h:l[j]? =V x):(fT f l j).set j (f x)=fT f l (j+1):=by
 have hl:=(bK.1 h).1;unfold fT;rw[wv _ _ (by simp;omega),my,dE,fu (by omega),rF,qk,h,uL hl,List.set_cons_zero]
 have:l[j]=x:=by rw[cX hl] at h;exact lp h
 simp
def gn:bq:=⟨aq.ag.map am,aq.av⟩
def vg (T:ai):ai:=⟨T.aM,T.ag,T.aH,T.ar.map (gn am),T.aL.map (nn am)⟩
structure Bo (r:bq):Prop where
 len:r.ag.length<=1000
 rng:∀c∈r.ag,nr c
structure TOK (N:Int) (T:ai):Prop where
 cols:T.ag.length<=1000
 refs:T.ar.length<=1000
 ref:∀r∈T.ar,Bo r
 CF:T.aL.length<=1000
 kC:∀p∈T.aL,pS N p=M/\gd p<=1000
def tI {l:List J} {x:J} (h:l[i]? =V x):l.take i++ [x]=l.take (i+1):=by rw[qk,h];rfl
def aaX (k:ai->ai->di->bQ->A ai) (rs:bQ) (hl:rs.length<=1000) (hr:∀r∈rs,Bo r) (b6:di):∀(x:bQ) (i m:Nat) (b1 b2:ai),rs.drop i=x->x.length<m->
  I0 k m rs (rs.length:Int) (i:Int) b1 b2 b6 (rs.take i)=k (ad1 b1.aM b6 b1.aH b1.ar b1.aL) (ad1 b2.aM [] b2.aH [] []) b6 rs
 | [],i,m+1,b1,b2,hd,hm=>by
  let ⟨hi,hq⟩:=eI hd
  simp only[I0,Wc,hq,aR,az,au,iT hi]
 |r::x,i,m+1,b1,b2,hd,hm=>by
  let ⟨g1,g2,g3,hq⟩:=dO hd
  have jf:=hr r (bU g1);have ih:=aaX k rs hl hr b6 x (i+1) m (ad1 b1.aM b6 b1.aH b1.ar b1.aL) (ad1 b2.aM [] b2.aH [] []) g2 (by simp at hm;omega)
  have e1:(rs.take i).length=i:=by simp;omega
  simp only[I0,Wc,hq,aO,ax,bA,g1,ak,dr [] r.ag (by have:=jf.len;simp;omega),j0,dr (rs.take i) [r] (by simp;omega),tI g1,bV g3 (by omega)]
  rw[e1,dC _ (by simp;omega),ak]
  have e2:(rs.take (i+1)).set i r=rs.take (i+1):=by
   rw[<-tI g1,wv _ _ (by omega)]
   simp[e1]
  rw[e2];exact ih
 |_,_,0,_,_,_,hm=>by simp at hm
def ZW (hT:I.ag.length<=1000/\I.ar.length<=1000/\I.aL.length<=1000) (hr:∀r∈I.ar,Bo r) (hn:2000<D):ajw D I=V I:=by
 unfold ajw akN;rw[dr _ _ (by simp;omega),ak,j0]
 refine (aaX (Wb D) I.ar hT.2.1 hr I.ag I.ar 0 D _ _ rfl (by omega)).trans ?_
 unfold Wb;rw[dr _ _ (by simp;omega)]
 rfl
def aio (k:ai->ai->ai->di->bQ->A ai) (rs:bQ) (hl:rs.length<=1000) (hr:∀r∈rs,Bo r) (b1:ai) (cD:di):∀(x:bQ) (i m:Nat) (b2 b3:ai),rs.drop i=x->x.length<m->
  PK k m rs (rs.length:Int) (i:Int) b1 b2 b3 cD (rs.take i)=k b1 (ad1 b2.aM [] b2.aH [] []) (ad1 b3.aM cD b3.aH rs []) cD rs
 | [],i,m+1,b2,b3,hd,hm=>by
  let ⟨hi,hq⟩:=eI hd
  simp only[PK,acm,hq,aR,az,au,iT hi]
 |r::x,i,m+1,b2,b3,hd,hm=>by
  let ⟨g1,g2,g3,hq⟩:=dO hd
  have jf:=hr r (bU g1);have ih:=aio k rs hl hr b1 cD x (i+1) m (ad1 b2.aM [] b2.aH [] []) (ad1 b3.aM cD b3.aH (rs.take (i+1)) []) g2 (by simp at hm;omega)
  have e1:(rs.take i).length=i:=by simp;omega
  simp only[PK,acm,hq,aO,ax,bA,g1,ak,dr [] r.ag (by have:=jf.len;simp;omega),j0,dr (rs.take i) [r] (by simp;omega),tI g1,bV g3 (by omega)]
  rw[e1,dC _ (by simp;omega),ak]
  have e2:(rs.take (i+1)).set i r=rs.take (i+1):=by
   rw[<-tI g1,wv _ _ (by omega)]
   simp[e1]
  rw[e2];exact ih
 |_,_,0,_,_,_,hm=>by simp at hm
def ain (k:ai->ai->di->bw->bQ->A ai) (ps:bw) (hl:ps.length<=1000) (hp:∀p∈ps,gd p<=1000) (cD:di) (rs:bQ):∀(x:bw) (i m:Nat) (b2 b3:ai),ps.drop i=x->x.length+1000<m->
  PJ k m ps (ps.length:Int) (i:Int) b2 b3 cD (ps.take i) rs=k (ad1 b2.aM [] b2.aH [] []) (ad1 b3.aM cD b3.aH rs ps) cD ps rs
 | [],i,m+1,b2,b3,hd,hm=>by
  let ⟨hi,hq⟩:=eI hd
  simp only[PJ,ack,hq,aR,az,au,iT hi]
 |p::x,i,m+1,b2,b3,hd,hm=>by
  let ⟨g1,g2,g3,hq⟩:=dO hd
  have BW:=hp p (bU g1);simp at hm;have ih:=ain k ps hl hp cD rs x (i+1) m (ad1 b2.aM [] b2.aH [] []) (ad1 b3.aM cD b3.aH rs (ps.take (i+1))) g2 (by omega)
  simp only[PJ,ack,hq,aO,ax,bA,g1,ak,apf m p (by omega) (by omega),dr (ps.take i) [p] (by simp;omega),tI g1,bV g3 (by omega)]
  exact ih
 |_,_,0,_,_,_,hm=>by simp at hm
def azL (hT:I.ag.length<=1000/\I.ar.length<=1000/\I.aL.length<=1000) (hr:∀r∈I.ar,Bo r) (hp:∀p∈I.aL,gd p<=1000) (hn:4000<D):F96 D I=V I:=by
 unfold F96 atI;rw[dr _ _ (by simp;omega),ak,j0]
 refine (aio (acj D) I.ar hT.2.1 hr I I.ag I.ar 0 D _ _ rfl (by omega)).trans ?_
 unfold acj;refine (ain (atJ D) I.aL hT.2.2 hp I.ag I.ar I.aL 0 D _ _ rfl (by omega)).trans ?_
 rfl
structure Hl (T:ai):Prop where
 len:T.ag.length<=1000/\T.ar.length<=1000/\T.aL.length<=1000
 ref:∀r∈T.ar,Bo r
 kC:∀p∈T.aL,gd p<=1000
def aiC (k:ae->ae->bD->A ae) (ts:bD) (hl:ts.length<=1000) (ht:∀T∈ts,Hl T):∀(x:bD) (i m:Nat) (b2 b3:ae),ts.drop i=x->x.length+4000<m->
  P5 k m ts (ts.length:Int) (i:Int) b2 b3 (ts.take i)=k (ad0 b2.aA []) (ad0 b3.aA ts) ts
 | [],i,m+1,b2,b3,hd,hm=>by
  let ⟨hi,hq⟩:=eI hd
  simp only[P5,adb,hq,aR,az,au,iT hi]
 |T::x,i,m+1,b2,b3,hd,hm=>by
  let ⟨g1,g2,g3,hq⟩:=dO hd
  have hT:=ht T (bU g1);simp at hm;have ih:=aiC k ts hl ht x (i+1) m (ad0 b2.aA []) (ad0 b3.aA (ts.take (i+1))) g2 (by omega)
  have e1:(ts.take i).length=i:=by simp;omega
  simp only[P5,adb,hq,aO,ax,bA,g1,ak,azL m T hT.len hT.ref hT.kC (by omega),dr (ts.take i) [T] (by simp;omega),tI g1,bV g3 (by omega)]
  rw[e1,dC _ (by simp;omega),ak]
  have e2:(ts.take (i+1)).set i T=ts.take (i+1):=by
   rw[<-tI g1,wv _ _ (by omega)]
   simp[e1]
  rw[e2];exact ih
 |_,_,0,_,_,_,hm=>by simp at hm
def azP (hl:K.ah.length<=1000) (ht:∀T∈K.ah,Hl T) (hn:6000<D):F41 D K=V K:=by
 unfold F41 auu;exact aiC (auv D) K.ah hl ht K.ah 0 D _ _ rfl (by omega)
def aaS (k:Int->Int->Int->Int->di->bw->ai->ai->bQ->A (ai×di×bQ×bw)) (a b:Int) (ha:nr a) (cols:aP) (hl:cols.length<=1000) (hc:∀c∈cols,nr c) (t13 t14:Int) (cs:di) (ch:bw) (refs:bQ) (ri:Nat):∀(x:aP) (j m:Nat) (b3 b6:ai) (b8 rr:bq),cols.drop j=x->x.length<m->
  IX k m a b t13 t14 (cols.length:Int) (j:Int) cs ch b3 b6 b8 (fT (fY a b) cols j) refs rr ri=((setAt refs ri (bq.mk (cols.map (fY a b)) rr.av)).bind λz2=>k a b t13 t14 cs ch (ad1 b3.aM cs b3.aH z2 ch) (ad1 b6.aM [] b6.aH [] []) z2)
 | [],j,m+1,b3,b6,b8,rr,hd,hm=>by
  let ⟨hi,hq⟩:=eI hd
  simp only[IX,V2,hq,aR,az,au,tS _ _ hi]
 |c::x,j,m+1,b3,b6,b8,rr,hd,hm=>by
  let ⟨g1,g2,g3,hq⟩:=dO hd
  have lW:=hc c (bU g1);have ih:=aaS k a b ha cols hl hc t13 t14 cs ch refs ri x (j+1) m (ad1 b3.aM cs b3.aH refs ch) (ad1 b6.aM [] b6.aH [] []) (bq.mk (fT (fY a b) cols (j+1)) b8.av) (bq.mk [] rr.av) g2 (by simp at hm;omega)
  have hb:eh (fT (fY a b) cols j).length (j:Int)=V j:=fX (by rw[lP];exact g3)
  simp only[IX,V2,hq,aO,ax,hb,ak,cq,nj _ g1,Qm m c a b lW.1 lW.2 ha.1 ha.2,dC _ (show j<(fT (fY a b) cols j).length by rw[lP];exact g3),tR _ g1,bV g3 (by omega)]
  exact ih
 |_,_,0,_,_,_,_,_,hm=>by simp at hm
def aaR (k:Int->Int->di->bw->ai->ai->bQ->A (ai×di×bQ×bw)) (a b:Int) (ha:nr a) (rs:bQ) (hl:rs.length<=1000) (hr:∀r∈rs,Bo r) (cs:di) (ch:bw):∀(x:bQ) (i m:Nat) (b3 b6:ai),rs.drop i=x->x.length+1000<m->
  Fi k m a b (rs.length:Int) (i:Int) cs ch b3 b6 (fT (gn (fY a b)) rs i)=k a b cs ch (ad1 b3.aM cs b3.aH (rs.map (gn (fY a b))) ch) (ad1 b6.aM [] b6.aH [] []) (rs.map (gn (fY a b)))
 | [],i,m+1,b3,b6,hd,hm=>by
  let ⟨hi,hq⟩:=eI hd
  simp only[Fi,V0,hq,aR,az,au,tS _ _ hi]
 |r::x,i,m+1,b3,b6,hd,hm=>by
  let ⟨g1,g2,g3,hq⟩:=dO hd
  have jf:=hr r (bU g1);simp at hm;have ih:=aaR k a b ha rs hl hr cs ch x (i+1) m (ad1 b3.aM cs b3.aH (fT (gn (fY a b)) rs (i+1)) ch) (ad1 b6.aM [] b6.aH [] []) g2 (by omega)
  have hb:eh (fT (gn (fY a b)) rs i).length (i:Int)=V i:=fX (by rw[lP];exact g3)
  have inner:=aaS (V1 (Fi k m) m) a b ha r.ag jf.len jf.rng (rs.length:Int) (i:Int) cs ch (fT (gn (fY a b)) rs i) i r.ag 0 m (ad1 b3.aM cs b3.aH (fT (gn (fY a b)) rs i) ch) (ad1 b6.aM [] b6.aH [] []) r (bq.mk [] r.av) rfl (by have:=jf.len;omega)
  rw[za,dC _ (show i<(fT (gn (fY a b)) rs i).length by rw[lP];exact g3),ak] at inner
  have e:(fT (gn (fY a b)) rs i).set i (bq.mk (r.ag.map (fY a b)) r.av)=fT (gn (fY a b)) rs (i+1):=tR (gn (fY a b)) g1;rw[show (bq.mk ([]:aP) r.av).av=r.av from rfl,e] at inner;simp only[Fi,V0,hq,aO,ax,hb,ak,cq,nj _ g1];refine inner.trans ?_;simp only[V1,bV g3 (by omega:rs.length<4294967296)]
  exact ih
 |_,_,0,_,_,_,hm=>by simp at hm
def aaQ (k:di->bw->ai->ai->bQ->A (ai×di×bQ×bw)) (N:Int) (hN:N<=1000) (a b:Int) (ha:nr a) (ps:bw) (hl:ps.length<=1000) (hp:∀p∈ps,pS N p=M/\gd p<=1000) (cs:di) (refs:bQ):∀(x:bw) (i m:Nat) (b3 b6:ai),ps.drop i=x->x.length+1000<m->
  IW k m a b (ps.length:Int) (i:Int) cs (fT (nn (fY a b)) ps i) b3 b6 refs=k cs (ps.map (nn (fY a b))) (ad1 b3.aM cs b3.aH refs (ps.map (nn (fY a b)))) (ad1 b6.aM [] b6.aH [] []) refs
 | [],i,m+1,b3,b6,hd,hm=>by
  let ⟨hi,hq⟩:=eI hd
  simp only[IW,VZ,hq,aR,az,au,tS _ _ hi]
 |p::x,i,m+1,b3,b6,hd,hm=>by
  let ⟨g1,g2,g3,hq⟩:=dO hd
  have BW:=hp p (bU g1);simp at hm;have ih:=aaQ k N hN a b ha ps hl hp cs refs x (i+1) m (ad1 b3.aM cs b3.aH refs (fT (nn (fY a b)) ps (i+1))) (ad1 b6.aM [] b6.aH [] []) g2 (by omega)
  have hb:eh (fT (nn (fY a b)) ps i).length (i:Int)=V i:=fX (by rw[lP];exact g3)
  simp only[IW,VZ,hq,aO,ax,hb,ak,cq,nj _ g1,aoU N hN a b ha m p (by omega) (by omega) BW.1,dC _ (show i<(fT (nn (fY a b)) ps i).length by rw[lP];exact g3),tR _ g1,bV g3 (by omega)]
  exact ih
 |_,_,0,_,_,_,hm=>by simp at hm
def Qj (hN:H<=1000) (hT:TOK H I) (a b:Int) (ha:nr a) (hn:3000<D):aju D I a b=V (vg (fY a b) I,I.ag,I.ar.map (gn (fY a b)),I.aL.map (nn (fY a b))):=by
 unfold aju akJ;have h1:=aaR (VY D) a b ha I.ar hT.refs hT.ref I.ag I.aL I.ar 0 D I (ad1 vp [] 0 [] []) rfl (by have:=hT.refs;omega)
 rw[za] at h1;refine h1.trans ?_;unfold VY;have h2:=aaQ (akK D) H hN a b ha I.aL hT.CF hT.kC I.ag (I.ar.map (gn (fY a b))) I.aL 0 D (ad1 I.aM I.ag I.aH (I.ar.map (gn (fY a b))) I.aL) (ad1 vp [] 0 [] []) rfl (by have:=hT.CF;omega)
 rw[za] at h2;exact h2
def aaG (k:Nat->Int->Int->aJ->bD->ai->bQ->A aJ) (m0:aG) (gC:m0.bg=2\/m0.bg=3) (ha:nr m0.ba) (cols:aP) (hl:cols.length<=1000) (hc:∀c∈cols,nr c) (lh:Nat) (t17 t18:Int) (ts:bD) (refs:bQ) (ri:Nat):∀(x:aP) (j m:Nat) (v:Int) (tt:bD) (b5 rr:bq) (tr:ai),cols.drop j=x->x.length<m->
  IG k m lh t17 t18 (cols.length:Int) (j:Int) (ad2 (ad0 v tt) m0) b5 (fT (ly m0) cols j) ts tr refs rr ri=((setAt refs ri (bq.mk (cols.map (ly m0)) rr.av)).bind λz2=>k lh t17 t18 (ad2 (ad0 v ts) m0) ts (ad1 tr.aM tr.ag tr.aH [] tr.aL) z2)
 | [],j,m+1,v,tt,b5,rr,tr,hd,hm=>by
  let ⟨hi,hq⟩:=eI hd
  simp only[IG,Vp,hq,aR,az,au,tS _ _ hi]
 |c::x,j,m+1,v,tt,b5,rr,tr,hd,hm=>by
  let ⟨g1,g2,g3,hq⟩:=dO hd
  have lW:=hc c (bU g1);have ih:=aaG k m0 gC ha cols hl hc lh t17 t18 ts refs ri x (j+1) m v ts (bq.mk (fT (ly m0) cols (j+1)) b5.av) (bq.mk [] rr.av) (ad1 tr.aM tr.ag tr.aH [] tr.aL) g2 (by simp at hm;omega)
  have hb:eh (fT (ly m0) cols j).length (j:Int)=V j:=fX (by rw[lP];exact g3)
  have e1:=aoO m c (ad2 (ad0 v ts) m0) gC lW ha;simp only[IG,Vp,hq,aO,ax,hb,ak,cq,nj _ g1,e1,dC _ (show j<(fT (ly m0) cols j).length by rw[lP];exact g3),tR _ g1,bV g3 (by omega)]
  exact ih
 |_,_,0,_,_,_,_,_,_,hm=>by simp at hm
def aaF (k:Nat->aJ->bD->A aJ) (m0:aG) (gC:m0.bg=2\/m0.bg=3) (ha:nr m0.ba) (rs:bQ) (hl:rs.length<=1000) (hr:∀r∈rs,Bo r) (lh:Nat) (ts:bD):∀(x:bQ) (i m:Nat) (v:Int) (tt:bD) (tr:ai),rs.drop i=x->x.length+1000<m->
  Fb k m lh (rs.length:Int) (i:Int) (ad2 (ad0 v tt) m0) ts tr (fT (gn (ly m0)) rs i)=((setAt ts lh (ad1 tr.aM tr.ag tr.aH (rs.map (gn (ly m0))) tr.aL)).bind λz=>k lh (ad2 (ad0 v z) m0) z)
 | [],i,m+1,v,tt,tr,hd,hm=>by
  let ⟨hi,hq⟩:=eI hd
  simp only[Fb,Vn,hq,aR,az,au,tS _ _ hi]
 |r::x,i,m+1,v,tt,tr,hd,hm=>by
  let ⟨g1,g2,g3,hq⟩:=dO hd
  have jf:=hr r (bU g1);simp at hm;have ih:=aaF k m0 gC ha rs hl hr lh ts x (i+1) m v ts (ad1 tr.aM tr.ag tr.aH [] tr.aL) g2 (by omega)
  have hb:eh (fT (gn (ly m0)) rs i).length (i:Int)=V i:=fX (by rw[lP];exact g3)
  have inner:=aaG (Vo (Fb k m) m) m0 gC ha r.ag jf.len jf.rng lh (rs.length:Int) (i:Int) ts (fT (gn (ly m0)) rs i) i r.ag 0 m v ts r (bq.mk [] r.av) (ad1 tr.aM tr.ag tr.aH [] tr.aL) rfl (by have:=jf.len;omega)
  rw[za,dC _ (show i<(fT (gn (ly m0)) rs i).length by rw[lP];exact g3),ak] at inner
  have e:(fT (gn (ly m0)) rs i).set i (bq.mk (r.ag.map (ly m0)) r.av)=fT (gn (ly m0)) rs (i+1):=tR (gn (ly m0)) g1;rw[show (bq.mk ([]:aP) r.av).av=r.av from rfl,e] at inner;simp only[Fb,Vn,hq,aO,ax,hb,ak,cq,nj _ g1];refine inner.trans ?_;simp only[Vo,bV g3 (by omega:rs.length<4294967296)]
  exact ih
 |_,_,0,_,_,_,_,hm=>by simp at hm
def aaE (N:Int) (hN:N<=1000) (m0:aG) (gC:m0.bg=2\/m0.bg=3) (ha:nr m0.ba) (ps:bw) (hl:ps.length<=1000) (hp:∀p∈ps,pS N p=M/\gd p<=1000) (lh:Nat) (ts:bD):∀(x:bw) (i m:Nat) (v:Int) (tt:bD) (tr:ai),ps.drop i=x->x.length+1000<m->
  IF m lh (ps.length:Int) (i:Int) (ad2 (ad0 v tt) m0) (fT (nn (ly m0)) ps i) ts tr=((setAt ts lh (ad1 tr.aM tr.ag tr.aH tr.ar (ps.map (nn (ly m0))))).bind λz=>V (ad2 (ad0 v z) m0))
 | [],i,m+1,v,tt,tr,hd,hm=>by
  let ⟨hi,hq⟩:=eI hd
  simp only[IF,Vm,hq,aR,az,au,tS _ _ hi]
 |p::x,i,m+1,v,tt,tr,hd,hm=>by
  let ⟨g1,g2,g3,hq⟩:=dO hd
  have BW:=hp p (bU g1);simp at hm;have ih:=aaE N hN m0 gC ha ps hl hp lh ts x (i+1) m v ts (ad1 tr.aM tr.ag tr.aH tr.ar []) g2 (by omega)
  have hb:eh (fT (nn (ly m0)) ps i).length (i:Int)=V i:=fX (by rw[lP];exact g3)
  have e1:=ajz N hN (ad2 (ad0 v ts) m0) gC ha m p (by omega) (by omega) BW.1
  simp only[IF,Vm,hq,aO,ax,hb,ak,cq,nj _ g1,e1,dC _ (show i<(fT (nn (ly m0)) ps i).length by rw[lP];exact g3),tR _ g1,bV g3 (by omega)]
  exact ih
 |_,_,0,_,_,_,_,hm=>by simp at hm
def aoS (hj:aa.av=(f8:Int)) (hT:O[f8]? =V ab) (gC:aa.bg=2\/aa.bg=3) (ha:nr aa.ba) (N:Int) (hN:N<=1000) (ht:TOK N ab) (hn:3000<D):
  aja D (ad2 (ad0 E O) aa)=V (ad2 (ad0 E (O.set f8 (vg (ly aa) ab))) aa):=by
 have hl:=(bK.1 hT).1;have e1:Fu D (ad2 (ad0 E O) aa)=V f8:=by
  unfold Fu Vu;simp only[hj,fX hl,ak,cq]
 unfold aja akb;rw[e1,ak];simp only[hT,ak];have h1:=aaF (Vl D) aa gC ha ab.ar ht.refs ht.ref f8 O ab.ar 0 D E O (ad1 ab.aM ab.ag ab.aH [] ab.aL) rfl (by have:=ht.refs;omega)
 rw[za,dC _ hl,ak] at h1;refine h1.trans ?_;unfold Vl;rw[j3 hl,ak];have CV:f8<(O.set f8 (ad1 ab.aM ab.ag ab.aH (ab.ar.map (gn (ly aa))) ab.aL)).length:=by simpa using hl
 have h2:=aaE N hN aa gC ha ab.aL ht.CF ht.kC f8 (O.set f8 (ad1 ab.aM ab.ag ab.aH (ab.ar.map (gn (ly aa))) ab.aL)) ab.aL 0 D E (O.set f8 (ad1 ab.aM ab.ag ab.aH (ab.ar.map (gn (ly aa))) ab.aL)) (ad1 ab.aM ab.ag ab.aH (ab.ar.map (gn (ly aa))) []) rfl (by have:=ht.CF;omega)
 rw[za,dC _ CV,ak,uM] at h2;exact h2
def rn:Bool:=ac.aE==1&&ac.dk==E
mutual
def qL (x:Int):aj->Bool
 |⟨op,_,l,r,args⟩=>(op==3&&(rn x l||rn x r))||r4 x args
def r4 (x:Int):bw->Bool
 | []=>B
 |p::ps=>qL x p||r4 x ps
end
def lK (l:aP) (q:Int->Bool) (sz:Nat) (r:aP):Prop:=(∀x,0<=x->(x∈r↔x∈l\/q x=M))/\r.length<=l.length+sz
def lK.refl {q:Int->Bool} (h:∀x,0<=x->q x=B) (sz:Nat):lK ao q sz ao:=⟨λx hx=>by simp[h x hx],by omega⟩
def lK.trans {a b c:aP} {q':Int->Bool} {s s':Nat} (h:lK a q s b) (k:lK b q' s' c):lK a (λx=>q x||q' x) (s+s') c:=
 ⟨λx hx=>by rw[k.1 x hx,h.1 x hx];simp[or_assoc],by have:=h.2;have:=k.2;omega⟩
def lK.mono {a b:aP} {q':Int->Bool} {s s':Nat} (h:lK a q s b) (hq:∀x,q x=q' x) (hs:s<=s'):lK a q' s' b:=
 ⟨λx hx=>by rw[h.1 x hx,hq],by have:=h.2;omega⟩
def aLH {xs:List J} {j:Nat} (h:j<=xs.length):cut xs G (V (j:Int))=V (xs.take j):=by
 unfold cut;simp[h]
def RX {xs:List J} {j:Nat} (h:j<=xs.length):cut xs (V (j:Int)) G=V (xs.drop j):=by
 unfold cut;simp[h]
def aaD (k:aP->Int->Int->A aP) (l:aP) (c:Int) (hl:l.length<=900000):∀(x:aP) (i m:Nat),l.drop i=x->x.length<m->i<=l.length->∃j:Nat,j<=l.length/\Fa k m l c (i:Int)=k l c (j:Int)
 | [],i,m+1,hd,hm,hi=>by
  let ⟨this,hq⟩:=eI hd
  exact ⟨i,hi,by simp only[Fa,NS,hq,aR,az,au]⟩
 |y::x,i,m+1,hd,hm,hi=>by
  let ⟨g1,g2,g3,hq⟩:=dO hd
  by_cases h:y<c
  ·let ⟨j,h1,h2⟩:=aaD k l c hl x (i+1) m g2 (by simp at hm;omega) (by omega)
   refine ⟨j,h1,?_⟩;simp only[Fa,NS,hq,aO,ax,bA,g1,ak,h,bV g3 (by omega),h2]
  ·exact ⟨i,hi,by simp only[Fa,NS,hq,aO,ax,bA,g1,ak,h,aR,az,au]⟩
 |_,_,0,_,hm,_=>by simp at hm
def aJV (n:Nat) (l:aP) (c:Int) (hl:l.length<=900000) (hn:l.length<n):Ok (atf n l c) λr=>(∀x,x∈r↔x∈l\/x=c)/\r.length<=l.length+1:=by
 let ⟨j,h1,h2⟩:=aaD (Ve n) l c hl l 0 n rfl (by omega) (by omega)
 have hB:Ok (NR n l c (j:Int)) λr=>(∀x,x∈r↔x∈l\/x=c)/\r.length<=l.length+1:=by
  unfold NR;rw[aLH h1,ak,dr _ _ (by simp;omega),ak,dr _ _ (by simp;omega),ak,RX h1,ak,dr _ _ (by simp;omega),ak]
  refine Ok.pure ⟨λx=> ?_,by simp;omega⟩
  have e:x∈l↔x∈l.take j\/x∈l.drop j:=by
   conv=>lhs;rw[<-yh j l]
   exact eV
  rw[e];simp only[j0,eV,gg];constructor
  ·rintro ((h|h)|h)
   ·exact .inl (.inl h)
   ·exact .inr h
   ·exact .inl (.inr h)
  ·rintro ((h|h)|h)
   ·exact .inl (.inl h)
   ·exact .inr h
   ·exact .inl (.inr h)
 unfold atf ajR;rw[show (0:Int)=((0:Nat):Int) from rfl,h2];unfold Ve;by_cases hq:(j:Int)<(l.length:Int)
 ·have hj:j<l.length:=by omega
  simp only[hq,aO,ax,bA,cX hj,ak];by_cases he:l[j]=c
  ·simp only[he,gQ,ax];refine Ok.pure ⟨λx=>⟨.inl,λh=> ?_⟩,by omega⟩
   rcases h with h|rfl
   ·exact h
   ·rw[<-he];exact nZ hj
  ·have:(l[j]==c)=B:=by simpa using he
   simp only[this,az,au];exact hB
 ·simp only[hq,aR,az,au];exact hB
def Q1 (os:vB) (t:Nat) (o:bO) (ho:os[t]? =V o) (h2:os.length=2) (m:Nat) (l:aP) (hl:l.length<=800000) (hm:l.length+2<m):
  ∃l',lK l (λx=>rn x o) 1 l'/\xz aB ap (m+1) l (t:Int) g7 os=xz aB ap m l' ((t+1:Nat):Int) g7 os:=by
 have ht:=(bK.1 ho).1;have hq:(t:Int)<2:=by omega
 have hb:eh os.length (t:Int)=V t:=fX ht;have hw:aV ((t:Int)+1)=((t+1:Nat):Int):=bV ht (by omega)
 by_cases hk:o.aE=1
 ·by_cases hi:o.dk<0
  ·refine ⟨l,lK.refl l (λx hx=> ?_) 1,?_⟩
   ·simp[rn,hk];omega
   ·simp only[xz,Jo,hq,aO,ax,hb,ak,cq,ho,hk,gQ,hi,dh,az,au,hw]
  ·let ⟨r,e,h1,h3⟩:=aJV m l o.dk (by omega) (by omega)
   refine ⟨r,⟨λx hx=> ?_,h3⟩,?_⟩
   ·rw[h1];simp[rn,hk];constructor
    ·rintro (h|h)
     ·exact .inl h
     ·exact .inr h.symm
    ·rintro (h|h)
     ·exact .inl h
     ·exact .inr h.symm
   ·simp only[xz,Jo,hq,aO,ax,hb,ak,cq,ho,hk,gQ,hi,aR,gB,e,hw]
 ·have hkf:(o.aE==1)=B:=by simpa using hk
  refine ⟨l,lK.refl l (λx hx=>by simp[rn,hk]) 1,?_⟩
  simp only[xz,Jo,hq,aO,ax,hb,ak,cq,ho,hkf,az,au,hw]
def azD (hl:aQ.length<=700000) (hm:aQ.length+10<aK):
  ∃l',lK aQ (λx=>rn x ac||rn x aD) 2 l'/\xz aB ap aK aQ 0 g7 [ac,aD]=ap l' g7:=by
 obtain ⟨aK,rfl⟩:∃q,aK=q+3:=⟨aK-3,by omega⟩
 let ⟨l1,c1,e1⟩:=Q1 aB ap g7 [ac,aD] 0 ac rfl rfl (aK+2) aQ (by omega) (by omega)
 have h1:=c1.2;let ⟨l2,c2,e2⟩:=Q1 aB ap g7 [ac,aD] 1 aD rfl rfl (aK+1) l1 (by omega) (by omega)
 refine ⟨l2,c1.trans c2,?_⟩;refine e1.trans (e2.trans ?_);simp only[xz,Jo,show ¬(((1+1:Nat):Int)<2) by omega,aR,az,au]
def aoQ:∀(n:Nat) (p:aj) (l:aP),l.length+2*gd p+20<=n->l.length+2*gd p<=500000->Ok (Hj n p l) (lK l (λx=>qL x p) (2*gd p))
 |0,_,_,h,_=>by omega
 |n+1,⟨op,c,a,b,args⟩,l,h,hb=>by
  simp only[gd] at h hb ⊢;have hlen:=rz args;have loop:∀(xs:bw) (i k:Nat) (l1:aP),args.drop i=xs->xs.length<k->l1.length+2*l3 xs+20<=n->l1.length+2*l3 xs<=500000->
    Ok (IE (Hj n) (Vi (Hj n) n) k l1 (args.length:Int) (i:Int) ⟨op,c,a,b,args⟩) (lK l1 (λx=>r4 x xs) (2*l3 xs)):=by
   intro xs;induction xs with
   |nil=>
    intro i k l1 hd hk h1 h2;let ⟨this,hq⟩:=eI hd
    cases k with
    |zero=>simp at hk
    |succ k=>
     simp only[IE,Vj,hq,aR,az,au,Vi];exact Ok.pure (lK.refl _ (λx _=>by simp[r4]) _)
   |cons x xs ih=>
    intro i k l1 hd hk h1 h2;let ⟨g1,g2,g3,hq⟩:=dO hd
    simp only[l3] at h1 h2;cases k with
    |zero=>simp at hk
    |succ k=>
     simp only[IE,Vj,hq,aO,ax,bA,g1,ak];refine Ok.bind (aoQ n x l1 (by omega) (by omega)) λl2 c2=> ?_
     have CV:=c2.2;rw[bV g3 (by omega:args.length<4294967296)]
     refine (ih (i+1) k l2 g2 (by simp at hk;omega) (by omega) (by omega)).mono λr c3=> ?_
     exact (c2.trans c3).mono (λy=>by simp[r4]) (by simp only[l3];omega)
  have tail:∀l1:aP,l1.length+2*l3 args+20<=n->l1.length+2*l3 args<=500000->Ok (Jn (Hj n) n l1 ⟨op,c,a,b,args⟩) (lK l1 (λx=>r4 x args) (2*l3 args)):=λl1 h1 h2=>by
   unfold Jn;exact loop args 0 n l1 rfl (by omega) h1 h2
  unfold Hj ajV;by_cases h3:op=3
  ·subst h3;simp only[gQ,ax];let ⟨l1,c1,e1⟩:=azD (Hj n) (Jn (Hj n) n) ⟨3,c,a,b,args⟩ a b n l (by omega) (by omega)
   have hl1:=c1.2;rw[e1];refine (tail l1 (by omega) (by omega)).mono λr c2=> ?_
   exact (c1.trans c2).mono (λy=>by simp[qL]) (by omega)
  ·have cR:(op==3)=B:=by simpa using h3
   simp only[cR,az,au];refine (tail l (by omega) (by omega)).mono λr c2=> ?_
   exact c2.mono (λy=>by simp[qL,cR]) (by omega)
def aJY (h:2*gd g7+20<=D) (hb:2*gd g7<=500000):Ok (atk D g7) (lK [] (λx=>qL x g7) (2*gd g7)):=by
 unfold atk akh;exact Ok.bind (aoQ D g7 [] (by simpa using h) (by simpa using hb)) λr hr=>Ok.pure hr
def Q3 (k:lS->Int->aP->aj->A (aP×aP)) (n:Nat) (t16:lS) (t:Int) (l:aP) (b3:aj) (o:bO) (hl:l.length<=800000):
  ∃l',lK l (λx=>rn x o) 1 l'/\NQ aI k n t16 t l b3 o=k t16 (aV (t+1)) l' b3:=by
 unfold NQ;by_cases hk:o.aE=1
 ·by_cases hi:o.dk<0
  ·refine ⟨l,lK.refl l (λx hx=>by simp[rn,hk];omega) 1,by simp[hk,hi]⟩
  ·refine ⟨l++ [o.dk],⟨λx hx=> ?_,by simp⟩,?_⟩
   ·simp[rn,hk];constructor
    ·rintro (h|h)
     ·exact .inl h
     ·exact .inr h.symm
    ·rintro (h|h)
     ·exact .inl h
     ·exact .inr h.symm
   ·simp only[hk,gQ,ax,hi,aR,gB,dr l [o.dk] (by simp;omega),ak]
 ·exact ⟨l,lK.refl l (λx hx=>by simp[rn,hk]) 1,by simp[hk]⟩
def azC (k:aP->aj->A (aP×aP)) (p:aj) (a b:bO) (m:Nat) (l:aP) (hl:l.length<=700000) (hm:10<m):
  ∃l',lK l (λx=>rn x a||rn x b) 2 l'/\xy aI k m (lS.mk a b) 0 l p=k l' p:=by
 obtain ⟨m,rfl⟩:∃q,m=q+3:=⟨m-3,by omega⟩
 let ⟨l1,c1,e1⟩:=Q3 aI (xy aI k (m+2)) (m+2) (lS.mk a b) 0 l p a (by omega)
 have h1:=c1.2;let ⟨l2,c2,e2⟩:=Q3 aI (xy aI k (m+1)) (m+1) (lS.mk a b) 1 l1 p b (by omega)
 refine ⟨l2,c1.trans c2,?_⟩;have s0:xy aI k (m+3) (lS.mk a b) 0 l p=xy aI k (m+2) (lS.mk a b) 1 l1 p:=e1;have s1:xy aI k (m+2) (lS.mk a b) 1 l1 p=xy aI k (m+1) (lS.mk a b) 2 l2 p:=e2;rw[s0,s1];rfl
def aoN:∀(n:Nat) (l:aP) (p:aj),2*gd p+20<=n->l.length+2*gd p<=500000->Ok (Hi n l p) λr=>r.1=r.2/\lK l (λx=>qL x p) (2*gd p) r.2
 |0,_,_,h,_=>by omega
 |n+1,l,⟨op,c,a,b,args⟩,h,hb=>by
  simp only[gd] at h hb ⊢;have hlen:=rz args;have loop:∀(xs:bw) (i k:Nat) (l1:aP),args.drop i=xs->xs.length<k->2*l3 xs+20<=n->l1.length+2*l3 xs<=500000->
    Ok (IC (Hi n) (Va (Hi n) n) k args (args.length:Int) (i:Int) l1) λr=>r.1=r.2/\lK l1 (λx=>r4 x xs) (2*l3 xs) r.2:=by
   intro xs;induction xs with
   |nil=>
    intro i k l1 hd hk h1 h2;let ⟨this,hq⟩:=eI hd
    cases k with
    |zero=>simp at hk
    |succ k=>
     simp only[IC,Vb,hq,aR,az,au,Va];exact Ok.pure ⟨rfl,lK.refl _ (λx _=>by simp[r4]) _⟩
   |cons x xs ih=>
    intro i k l1 hd hk h1 h2;let ⟨g1,g2,g3,hq⟩:=dO hd
    simp only[l3] at h1 h2;cases k with
    |zero=>simp at hk
    |succ k=>
     simp only[IC,Vb,hq,aO,ax,bA,g1,ak];refine Ok.bind (aoN n l1 x (by omega) (by omega)) λl2 ⟨_,c2⟩=> ?_
     have CV:=c2.2;rw[bV g3 (by omega:args.length<4294967296)]
     refine (ih (i+1) k l2.2 g2 (by simp at hk;omega) (by omega) (by omega)).mono λr ⟨c0,c3⟩=> ?_
     exact ⟨c0,(c2.trans c3).mono (λy=>by simp[r4]) (by simp only[l3];omega)⟩
  have tail:∀l1:aP,l1.length+2*l3 args<=500000->Ok (Jm (Hi n) n l1 ⟨op,c,a,b,args⟩) λr=>r.1=r.2/\lK l1 (λx=>r4 x args) (2*l3 args) r.2:=λl1 h2=>by
   unfold Jm;exact loop args 0 n l1 rfl (by omega) (by omega) h2
  unfold Hi ajP;by_cases h3:op=3
  ·subst h3;simp only[gQ,ax];let ⟨l1,c1,e1⟩:=azC (Hi n) (Jm (Hi n) n) ⟨3,c,a,b,args⟩ a b n l (by omega) (by omega)
   have hl1:=c1.2;rw[e1];refine (tail l1 (by omega)).mono λr ⟨c0,c2⟩=> ?_
   exact ⟨c0,(c1.trans c2).mono (λy=>by simp[qL]) (by omega)⟩
  ·have cR:(op==3)=B:=by simpa using h3
   simp only[cR,az,au];refine (tail l (by omega)).mono λr ⟨c0,c2⟩=> ?_
   exact ⟨c0,c2.mono (λy=>by simp[qL,cR]) (by omega)⟩
def N9 (k:lS->Int->aP->aj->A aP) (n:Nat) (t16:lS) (t:Int) (l:aP) (b3:aj) (o:bO) (hl:l.length<=800000):
  ∃l',lK l (λx=>rn x o) 1 l'/\Ju k n t16 t l b3 o=k t16 (aV (t+1)) l' b3:=by
 unfold Ju;by_cases hk:o.aE=1
 ·by_cases hi:o.dk<0
  ·refine ⟨l,lK.refl l (λx hx=>by simp[rn,hk];omega) 1,by simp[hk,hi]⟩
  ·refine ⟨l++ [o.dk],⟨λx hx=> ?_,by simp⟩,?_⟩
   ·simp[rn,hk];constructor
    ·rintro (h|h)
     ·exact .inl h
     ·exact .inr h.symm
    ·rintro (h|h)
     ·exact .inl h
     ·exact .inr h.symm
   ·simp only[hk,gQ,ax,hi,aR,gB,dr l [o.dk] (by simp;omega),ak]
 ·exact ⟨l,lK.refl l (λx hx=>by simp[rn,hk]) 1,by simp[hk]⟩
def ate (hl:aQ.length<=700000) (hm:10<aK):
  ∃l',lK aQ (λx=>rn x ac||rn x aD) 2 l'/\u9 ap aK (lS.mk ac aD) 0 aQ g7=ap l' g7:=by
 obtain ⟨aK,rfl⟩:∃q,aK=q+3:=⟨aK-3,by omega⟩
 let ⟨l1,c1,e1⟩:=N9 (u9 ap (aK+2)) (aK+2) (lS.mk ac aD) 0 aQ g7 ac (by omega)
 have h1:=c1.2;let ⟨l2,c2,e2⟩:=N9 (u9 ap (aK+1)) (aK+1) (lS.mk ac aD) 1 l1 g7 aD (by omega)
 refine ⟨l2,c1.trans c2,?_⟩;have s0:u9 ap (aK+3) (lS.mk ac aD) 0 aQ g7=u9 ap (aK+2) (lS.mk ac aD) 1 l1 g7:=e1;have s1:u9 ap (aK+2) (lS.mk ac aD) 1 l1 g7=u9 ap (aK+1) (lS.mk ac aD) 2 l2 g7:=e2;rw[s0,s1];rfl
def aDH (h:4*gd g7+60<=D) (hb:2*gd g7<=400000):Ok (acg D g7) (lK [] (λx=>qL x g7) (2*gd g7)):=by
 let ⟨op,c,a,b,args⟩:=g7;simp only[gd] at h hb ⊢;have hlen:=rz args;have loop:∀(xs:bw) (i k:Nat) (l1:aP),args.drop i=xs->xs.length+2*l3 args+20<k->l1.length+2*l3 xs<=500000->
   Ok (DT (QE D) k args (args.length:Int) (i:Int) l1) (lK l1 (λx=>r4 x xs) (2*l3 xs)):=by
  intro xs;induction xs with
  |nil=>
   intro i k l1 hd hk h2;let ⟨this,hq⟩:=eI hd
   cases k with
   |zero=>simp at hk
   |succ k=>
    simp only[DT,QF,hq,aR,az,au,QE];exact Ok.pure (lK.refl _ (λx _=>by simp[r4]) _)
  |cons x xs ih=>
   intro i k l1 hd hk h2;let ⟨g1,g2,g3,hq⟩:=dO hd
   have hx:x∈args:=bU g1;have hs:=uT hx;simp only[l3] at h2;cases k with
   |zero=>simp at hk
   |succ k=>
    simp at hk;simp only[DT,QF,hq,aO,ax,bA,g1,ak];refine Ok.bind (aoN k l1 x (by omega) (by omega)) λl2 ⟨_,c2⟩=> ?_
    have CV:=c2.2;rw[bV g3 (by omega:args.length<4294967296)]
    refine (ih (i+1) k l2.2 g2 (by omega) (by omega)).mono λr c3=> ?_
    exact (c2.trans c3).mono (λy=>by simp[r4]) (by simp only[l3];omega)
 have tail:∀(l1:aP) (q:aj),q.fArgs=args->l1.length+2*l3 args<=500000->Ok (DW D l1 q) (lK l1 (λx=>r4 x args) (2*l3 args)):=λl1 q hq h2=>by
  unfold DW;rw[hq];exact loop args 0 D l1 rfl (by omega) h2
 unfold acg Z4;by_cases h3:op=3
 ·subst h3;simp only[gQ,ax];let ⟨l1,c1,e1⟩:=ate (DW D) ⟨3,c,a,b,args⟩ a b D [] (by simp) (by omega)
  have hl1:=c1.2;simp at hl1;rw[e1];refine (tail l1 _ rfl (by omega)).mono λr c2=> ?_
  exact (c1.trans c2).mono (λy=>by simp[qL]) (by omega)
 ·have cR:(op==3)=B:=by simpa using h3
  simp only[cR,az,au];refine (tail [] _ rfl (by simp;omega)).mono λr c2=> ?_
  exact c2.mono (λy=>by simp[qL,cR]) (by omega)
def aoa (z:Int):∀xs:aP,z∈l8 xs↔z∈xs
 | []=>Iff.rfl
 | [x]=>Iff.rfl
 |x::y::l=>by
  have ih:=aoa z (y::l);show z∈(if x=y then l8 (y::l) else x::l8 (y::l))↔_
  split
  ·rename_i e;subst e;rw[ih];simp
  ·rw[da,ih,da (a:=z) (b:=x)]
def aJW (h:4*gd g7+60<=D) (hb:2*gd g7<=400000):Ok (ath D g7) λr=>r.length<=2*gd g7/\∀x,0<=x->(x∈r↔qL x g7=M):=by
 unfold ath ajT;refine Ok.bind (aDH D g7 h hb) λl c=> ?_
 have hl:=c.2;simp at hl;have hp:=wF l;have h1:ajh D l=V (fo l):=by unfold ajh;rw[aF (by omega)]
 rw[h1,ak,show iP (fo l).length l.length=V () by unfold iP;rw[aF hp.length_eq],ak]
 have h2:aiW D (fo l)=V (l8 (fo l),l8 (fo l)):=by unfold aiW;rw[aF (by rw[hp.length_eq];omega)]
 rw[h2,ak];refine Ok.pure ⟨?_,λx hx=> ?_⟩
 ·have:=Nj (fo l);rw[hp.length_eq] at this;show (l8 (fo l)).length<=_;omega
 ·show x∈l8 (fo l)↔_;rw[aoa,hp.mem_iff,c.1 x hx];simp
def sG:Bool:=al.any λr=>U (E∈r.ag)
def sH (ps:bw):Bool:=ps.any λp=>qL E p
def C1:Bool:=sG E I.ar||sH E I.aL
def aaW (k:Int->bQ->Int->Int->ai->A Bool) (c:Int) (t14:bQ) (t15 t16:Int) (T:ai) (cols:aP) (hl:cols.length<=1000):∀(x:aP) (j m:Nat),cols.drop j=x->x.length<m->
  IZ k m c t14 t15 t16 cols (cols.length:Int) (j:Int) T=if c∈x then V M else k c t14 t15 t16 T
 | [],j,m+1,hd,hm=>by
  let ⟨hi,hq⟩:=eI hd
  simp[IZ,Wa,hq]
 |y::x,j,m+1,hd,hm=>by
  let ⟨g1,g2,g3,hq⟩:=dO hd
  have ih:=aaW k c t14 t15 t16 T cols hl x (j+1) m g2 (by simp at hm;omega)
  simp only[IZ,Wa,hq,aO,ax,bA,g1,ak,bV g3 (by omega),ih]
  by_cases h:y=c
  ·subst h;simp
  ·have h2:¬c=y:=λe=>h e.symm
   simp[h,h2]
 |_,_,0,_,hm=>by simp at hm
def aaV (k:Int->ai->A Bool) (c:Int) (T:ai) (rs:bQ) (hl:rs.length<=1000) (hr:∀r∈rs,Bo r):∀(x:bQ) (i m:Nat),rs.drop i=x->x.length+1000<m->
  Fk k m c rs (rs.length:Int) (i:Int) T=if sG c x=M then V M else k c T
 | [],i,m+1,hd,hm=>by
  let ⟨hi,hq⟩:=eI hd
  simp[Fk,V8,hq,sG]
 |r::x,i,m+1,hd,hm=>by
  let ⟨g1,g2,g3,hq⟩:=dO hd
  have jf:=hr r (bU g1);simp at hm;have ih:=aaV k c T rs hl hr x (i+1) m g2 (by omega)
  have inner:=aaW (V9 (Fk k m) m) c rs (rs.length:Int) (i:Int) T r.ag jf.len r.ag 0 m rfl (by have:=jf.len;omega)
  simp only[Fk,V8,hq,aO,ax,bA,g1,ak];refine inner.trans ?_;simp only[V9,bV g3 (by omega:rs.length<4294967296),ih]
  have e:sG c (r::x)=(U (c∈r.ag)||sG c x):=by simp[sG]
  rw[e];by_cases h:c∈r.ag<;>simp[h]
 |_,_,0,_,hm=>by simp at hm
def aaU (k:Int->bw->Int->Int->A Bool) (c:Int) (t33:bw) (t34 t35:Int) (cols:aP) (hl:cols.length<=10000):∀(x:aP) (j m:Nat),cols.drop j=x->x.length<m->
  IY k m c t33 t34 t35 cols (cols.length:Int) (j:Int)=if c∈x then V M else k c t33 t34 t35
 | [],j,m+1,hd,hm=>by
  let ⟨hi,hq⟩:=eI hd
  simp[IY,V7,hq]
 |y::x,j,m+1,hd,hm=>by
  let ⟨g1,g2,g3,hq⟩:=dO hd
  have ih:=aaU k c t33 t34 t35 cols hl x (j+1) m g2 (by simp at hm;omega)
  simp only[IY,V7,hq,aO,ax,bA,g1,ak,bV g3 (by omega),ih]
  by_cases h:y=c
  ·subst h;simp
  ·have h2:¬c=y:=λe=>h e.symm
   simp[h,h2]
 |_,_,0,_,hm=>by simp at hm
def aaT (k:A Bool) (c:Int) (hc:0<=c) (ps:bw) (hl:ps.length<=1000) (hp:∀p∈ps,gd p<=1000):∀(x:bw) (i m:Nat),ps.drop i=x->x.length+10000<m->
  Fj k m c ps (ps.length:Int) (i:Int)=if sH c x=M then V M else k
 | [],i,m+1,hd,hm=>by
  let ⟨hi,hq⟩:=eI hd
  simp[Fj,V5,hq,sH]
 |p::x,i,m+1,hd,hm=>by
  let ⟨g1,g2,g3,hq⟩:=dO hd
  have BW:=hp p (bU g1);simp at hm;have ih:=aaT k c hc ps hl hp x (i+1) m g2 (by omega)
  let ⟨r,e1,c1,c2⟩:=aJY m p (by omega) (by omega)
  simp at c2;have inner:=aaU (V6 (Fj k m) m) c ps (ps.length:Int) (i:Int) r (by omega) r 0 m rfl (by omega)
  simp only[Fj,V5,hq,aO,ax,bA,g1,ak,e1];refine inner.trans ?_;simp only[V6,bV g3 (by omega:ps.length<4294967296),ih]
  have e:sH c (p::x)=(qL c p||sH c x):=by simp[sH]
  have hm:=c1 c hc;simp at hm;rw[e];cases hcp:qL c p with
  |true=>rw[aF (hm.2 hcp)];simp
  |false=>rw[aC (λh=>by rw[hm.1 h] at hcp;cases hcp)];simp
 |_,_,0,_,hm=>by simp at hm
def Qk (hc:0<=H) (hT:Hl I) (hn:20000<D):ajv D I H=V (C1 H I):=by
 unfold ajv akL;have h1:=aaV (V3 D) H I I.ar hT.len.2.1 hT.ref I.ar 0 D rfl (by have:=hT.len.2.1;omega)
 refine h1.trans ?_;unfold V3;have h2:=aaT (V4 D) H hc I.aL hT.len.2.2 hT.kC I.aL 0 D rfl (by have:=hT.len.2.2;omega)
 rw[show (0:Int)=((0:Nat):Int) from rfl,h2];unfold C1 V4;cases sG H I.ar<;>cases sH H I.aL<;>rfl
def aaC (v:Int) (l:aP) (hl:l.length<=10000) (n0:Nat):∀(x:aP) (j m:Nat),l.drop j=x->x.length<m->
  Ok (ID (Vc n0) m l v (l.length:Int) (j:Int)) λr=>(r<0↔¬v∈x)
 | [],j,m+1,hd,hm=>by
  let ⟨hi,hq⟩:=eI hd
  simp only[ID,Vd,hq,aR,az,au,Vc];exact Ok.pure ⟨λ_=>by simp,λ_=>by omega⟩
 |y::x,j,m+1,hd,hm=>by
  let ⟨g1,g2,g3,hq⟩:=dO hd
  simp only[ID,Vd,hq,aO,ax,bA,g1,ak];by_cases h:v=y
  ·subst h;simp only[gQ,ax];exact Ok.pure ⟨λh=>by omega,λh=>absurd kg h⟩
  ·have:(v==y)=B:=by simpa using h
   simp only[this,az,au,bV g3 (by omega)]
   refine (aaC v l hl n0 x (j+1) m g2 (by simp at hm;omega)).mono λr hr=> ?_
   rw[hr];simp[h]
 |_,_,0,_,hm=>by simp at hm
def aoP (hl:ao.length<=10000) (hn:ao.length<D):aiX D ao af=V (U (af∈ao)):=by
 let ⟨r,e,h⟩:=aaC af ao hl D ao 0 D rfl hn;unfold aiX ajU aDx ajQ;rw[show (0:Int)=((0:Nat):Int) from rfl,e,ak];by_cases hv:af∈ao
 ·have:¬r<0:=λhr=>(h.1 hr) hv
  simp[hv,this]
 ·have:r<0:=h.2 hv;simp[hv,this]
def aaI (k:aJ->ai->A Bool) (g:aJ) (T:ai) (rs:bQ) (hl:rs.length<=1000) (hr:∀r∈rs,Bo r):∀(x:bQ) (i m:Nat),rs.drop i=x->x.length+1000<m->
  II k m g T rs (rs.length:Int) (i:Int)=if sG g.fm.ba x=M then V M else k g T
 | [],i,m+1,hd,hm=>by
  let ⟨hi,hq⟩:=eI hd
  simp[II,Vt,hq,sG]
 |r::x,i,m+1,hd,hm=>by
  let ⟨g1,g2,g3,hq⟩:=dO hd
  have jf:=hr r (bU g1);simp at hm;have ih:=aaI k g T rs hl hr x (i+1) m g2 (by omega)
  simp only[II,Vt,hq,aO,ax,bA,g1,ak,aoP m r.ag g.fm.ba (by have:=jf.len;omega) (by have:=jf.len;omega),bV g3 (by omega:rs.length<4294967296),ih]
  have e:sG g.fm.ba (r::x)=(U (g.fm.ba∈r.ag)||sG g.fm.ba x):=by simp[sG]
  rw[e];by_cases h:g.fm.ba∈r.ag<;>simp[h]
 |_,_,0,_,hm=>by simp at hm
def aaH (k:A Bool) (g:aJ) (hc:0<=g.fm.ba) (ps:bw) (hl:ps.length<=1000) (hp:∀p∈ps,gd p<=1000):∀(x:bw) (i m:Nat),ps.drop i=x->x.length+10000<m->
  IH k m g ps (ps.length:Int) (i:Int)=if sH g.fm.ba x=M then V M else k
 | [],i,m+1,hd,hm=>by
  let ⟨hi,hq⟩:=eI hd
  simp[IH,Vs,hq,sH]
 |p::x,i,m+1,hd,hm=>by
  let ⟨g1,g2,g3,hq⟩:=dO hd
  have BW:=hp p (bU g1);simp at hm;have ih:=aaH k g hc ps hl hp x (i+1) m g2 (by omega)
  let ⟨r,e1,c2,c1⟩:=aJW m p (by omega) (by omega)
  simp only[IH,Vs,hq,aO,ax,bA,g1,ak,e1,aoP m r g.fm.ba (by omega) (by omega),bV g3 (by omega:ps.length<4294967296),ih]
  have e:sH g.fm.ba (p::x)=(qL g.fm.ba p||sH g.fm.ba x):=by simp[sH]
  have hm:=c1 g.fm.ba hc;rw[e];cases hcp:qL g.fm.ba p with
  |true=>simp[hm.2 hcp]
  |false=>
   have:¬g.fm.ba∈r:=λh=>by rw[hm.1 h] at hcp;cases hcp
   simp[this]
 |_,_,0,_,hm=>by simp at hm
def Sg (hj:aa.av=(f8:Int)) (hT:O[f8]? =V ab):Ql D (ad2 (ad0 E O) aa)=V ab:=by
 unfold Ql Z5;simp only[hj,bA,hT,ak]
def Jg (hj:aa.av=(f8:Int)) (hl:f8<O.length):Fu D (ad2 (ad0 E O) aa)=V f8:=by
 unfold Fu Vu;simp only[hj,fX hl,ak,cq]
def Qi (hj:aa.av=(f8:Int)) (hT:O[f8]? =V ab) (c:Int):Se D (ad2 (ad0 E O) aa) c=V (U (ab.aH<=c)&&U (c<(ab.ag.length:Int))):=by
 unfold Se akd;rw[Sg D E O aa f8 ab hj hT,ak];by_cases h:c<ab.aH
 ·have:¬ab.aH<=c:=by omega
  simp[h,this]
 ·have:ab.aH<=c:=by omega
  simp[h,this]
def aoT (hj:aa.av=(f8:Int)) (hT:O[f8]? =V ab) (hc:0<=aa.ba) (ht:Hl ab) (hn:20000<D):ajc D (ad2 (ad0 E O) aa)=V (C1 aa.ba ab):=by
 unfold ajc akc;rw[Sg D E O aa f8 ab hj hT,ak];have h1:=aaI (Vq D) (ad2 (ad0 E O) aa) ab ab.ar ht.len.2.1 ht.ref ab.ar 0 D rfl (by have:=ht.len.2.1;omega)
 refine h1.trans ?_;unfold Vq;have h2:=aaH (Vr D) (ad2 (ad0 E O) aa) hc ab.aL ht.len.2.2 ht.kC ab.aL 0 D rfl (by have:=ht.len.2.2;omega)
 rw[show (0:Int)=((0:Nat):Int) from rfl,h2];unfold C1 Vr;show (if sG aa.ba ab.ar=M then _ else if sH aa.ba ab.aL=M then _ else _)=_
 cases sG aa.ba ab.ar<;>cases sH aa.ba ab.aL<;>rfl
mutual
def auW:∀p:aj,gd p+1=3*th p
 |⟨_,_,_,_,args⟩=>by have:=auX args;simp only[gd,th];omega
def auX:∀xs:bw,l3 xs=3*rP xs
 | []=>by simp[l3,rP]
 |x::xs=>by have:=auW x;have:=auX xs;simp only[l3,rP];omega
end
def aIP (h:ve ks [] p=0):gd p<=71/\pV ks [] p=M/\oh ks=M:=by
 unfold ve at h;split at h
 ·cases h
 ·rename_i h0;split at h
  ·cases h
  ·split at h
   ·cases h
   ·rename_i h1;split at h
    ·cases h
    ·rename_i h2;have:=auW p;simp at h0 h1 h2;exact ⟨by omega,h2,h0⟩
def aoi {ks:aP}:∀{ps:bw},uf ks ps=0->∀p∈ps,ve ks [] p=0
 |q::ps,h,p,hp=>by
  unfold uf at h;split at h
  ·rename_i h0;rcases da.1 hp with rfl|hp
   ·exact h0
   ·exact aoi h p hp
  ·rename_i h0;exact absurd h h0
def aog:∀{ts:bD},CG ts=0->∀T∈ts,uf (ey T) T.aL=0
 |ge::ts,h,T,hT=>by
  unfold CG at h;split at h
  ·rename_i h0;rcases da.1 hT with rfl|hT
   ·exact h0
   ·exact aog h T hT
  ·rename_i h0;exact absurd h h0
def Tg {tc:di}:∀{gs:di} {cs:aP},rB tc gs cs=M->cs.length<=gs.length/\∀c∈cs,0<=c/\c<(tc.length:Int)
 |_,[],_=>⟨by simp,λc hc=>by cases hc⟩
 | [],_::_,h=>by cases h
 |g::gs,c::cs,h=>by
  unfold rB at h;split at h
  ·cases h
  ·rename_i x hx;simp only[bJ] at h;let ⟨h1,h2⟩:=Tg h.2;let ⟨i1,i2,_⟩:=EA hx;refine ⟨by simp;omega,λd hd=> ?_⟩
   rcases da.1 hd with rfl|hd
   ·exact ⟨i1,by omega⟩
   ·exact h2 d hd
def agb {s:ae} {T:ai}:∀{rs:bQ},vr s T rs=M->∀r∈rs,agc s T r=M
 |q::rs,h,r,hr=>by
  unfold vr at h;rw[bJ] at h;rcases da.1 hr with rfl|hr
  ·exact h.1
  ·exact agb h.2 r hr
def Ut {s:ae}:∀{ts:bD},allRefs s ts=M->∀T∈ts,vr s T T.ar=M
 |ge::ts,h,T,hT=>by
  unfold allRefs at h;rw[bJ] at h;rcases da.1 hT with rfl|hT
  ·exact h.1
  ·exact Ut h.2 T hT
structure TG (k:Nat) (T:ai):Prop where
 pY:1<=T.aH
 jG:T.aH<=(T.ag.length:Int)
 cols:T.ag.length<=8
 refs:T.ar.length<=4
 CF:T.aL.length<=4
 ref:∀r∈T.ar,r.ag.length<=8/\(∀c∈r.ag,0<=c/\c<(T.ag.length:Int))/\0<=r.av/\r.av<(k:Int)
 kC:∀p∈T.aL,pS (T.ag.length:Int) p=M/\gd p<=71
structure SG (s:ae):Prop where
 len:s.ah.length<=8
 v0:0<=s.aA
 v1:s.aA<=1000
 bY:∀T∈s.ah,TG s.ah.length T
def SG.of {s:ae} (h:gm s=0):SG s:=by
 have hS:=vI h;unfold gm at h;split at h
 ·cases h
 ·rename_i h8;split at h
  ·rename_i hb;rw[j1] at hb;split at h
   ·cases h
   ·rename_i v0;split at h
    ·cases h
    ·rename_i v1;split at h
     ·rename_i ht;split at h
      ·rename_i hr;refine ⟨by omega,by omega,by omega,λT hT=> ?_⟩
       let ⟨b1,b2,b3⟩:=sn (hb T hT);have t1:=Q4 (λT hT=>(sn (hb T hT)).1) ht T hT
       refine ⟨t1.pY,t1.jG,b1,b2,b3,λr jf=> ?_,λp hp=> ?_⟩
       ·have q:=agb (Ut hr T hT) r jf;unfold agc at q;split at q
        ·cases q
        ·rename_i ge hG;rw[bJ] at q;let ⟨c1,c2⟩:=Tg q.2;let ⟨i1,i2,i3⟩:=EA hG;have:=(sn (hb ge (bU i3))).1;exact ⟨by omega,c2,i1,by omega⟩
       ·let ⟨c1,c2,c3⟩:=aIP (aoi (aog h T hT) p hp);have:=aEx c2;rw[show ((ey T).length:Int)=(T.ag.length:Int) by simp[ey]] at this
        exact ⟨this,c1⟩
      ·cases h
     ·cases h
  ·cases h
def TG.cp {k:Nat} {T:ai} (h:TG k T):Hl T:=
 ⟨⟨by have:=h.cols;omega,by have:=h.refs;omega,by have:=h.CF;omega⟩,λr hr=>⟨by have:=(h.ref r hr).1;omega,λc hc=>by have:=(h.ref r hr).2.1 c hc;have:=h.cols;exact ⟨by omega,by omega⟩⟩,λp hp=>by have:=(h.kC p hp).2;omega⟩
def TG.tok {k:Nat} {T:ai} (h:TG k T):TOK (T.ag.length:Int) T:=
 ⟨h.cp.len.1,h.cp.len.2.1,h.cp.ref,h.cp.len.2.2,λp hp=>⟨(h.kC p hp).1,by have:=(h.kC p hp).2;omega⟩⟩
def afM {a b i n:Int} (ha:0<=a) (ha':a<n) (hb:0<=b) (nP:b<n) (hi:0<=i) (qD:i<n):0<=fY a b i/\fY a b i<n:=by
 unfold fY;split
 ·omega
 ·split
  ·omega
  ·split
   ·omega
   ·split<;>omega
def YP {a b i n:Int} (ha:0<=a) (ha':a<n) (hb:0<=b) (nP:b<n) (hi:0<=i) (qD:i<n):fY b a (fY a b i)=i:=by
 unfold fY;rw[aC (show ¬b<0 by omega),aC (show ¬a<0 by omega)]
 by_cases h1:i=a
 ·rw[aF h1,aF rfl,h1]
 ·rw[aC h1];by_cases h2:a<b/\a<i/\i<=b
  ·rw[aF h2,aC (by omega),aC (by omega),aF (by omega)];omega
  ·rw[aC h2];by_cases h3:b<a/\b<=i/\i<a
   ·rw[aF h3,aC (by omega),aF (by omega)];omega
   ·rw[aC h3,aC (by omega),aC (by omega),aC (by omega)]
def xn {J:Type} (C:List J) (a b:Nat):List J:=(C.take a++C.drop (a+1)).take b++C[a]?.toList++(C.take a++C.drop (a+1)).drop b
def anZ {C:List J} {a:Nat} (ha:a<C.length) (i:Nat):(C.take a++C.drop (a+1))[i]? =if i<a then C[i]? else C[i+1]? :=by
 rw[sM,dE,fu (by omega)]
 split
 ·rename_i h;rw[fw,aF h]
 ·rename_i h;rw[fh];congr 1;omega
def AQ {C:List J} {a:Nat} (ha:a<C.length):(C.take a++C.drop (a+1)).length=C.length-1:=by simp;omega
def O9 {C:List J} {a b:Nat} (ha:a<C.length) (hb:b<C.length):(xn C a b).length=C.length:=by
 unfold xn;have:=AQ ha;rw[gf,gf,dE,jq,this,cX ha];simp;omega
def anD {C:List J} {a b q:Nat} (ha:a<C.length) (hb:b<C.length) (hq:q<C.length):(xn C a b)[q]? =C[(fY b a q).toNat]? :=by
 have hd:=AQ ha;unfold xn;rw[cX ha,HA,sM,gf,dE,hd,fu (by omega),List.length_singleton]
 unfold fY;rw[aC (show ¬((a:Int)<0) by omega)]
 by_cases h1:q<b
 ·rw[aF (by omega),pE (by rw[dE,hd];omega),fw,aF h1,anZ ha,aC (show ¬((q:Int)=(b:Int)) by omega)]
  by_cases h2:q<a
  ·rw[aF h2,aC (by omega),aC (by omega)];congr 1
  ·rw[aC h2,aC (by omega),aF (by omega)];congr 1
 ·by_cases h2:q=b
  ·subst h2;rw[aF (by omega),aF rfl,nY (by rw[dE,hd];omega),dE,hd,fu (by omega),rF,Hz,cX ha]
   rfl
  ·rw[aC (by omega),fh,anZ ha,aC (show ¬((q:Int)=(b:Int)) by omega),show b+(q-(b+1))=q-1 by omega]
   by_cases h3:q-1<a
   ·rw[aF h3,aF (by omega)];congr 1;omega
   ·rw[aC h3,aC (by omega),aC (by omega)];congr 1;omega
def aLp {C X:List J} {a b:Nat} (ha:a<C.length) (hb:b<C.length) (hl:X.length=C.length) (hx:∀i:Nat,i<C.length->X[(fY a b i).toNat]? =C[i]?):X=xn C a b:=by
 refine wu λq=> ?_
 by_cases hq:q<C.length
 ·rw[anD ha hb hq];let ⟨i1,i2⟩:=afM (a:=(b:Int)) (b:=(a:Int)) (i:=(q:Int)) (n:=(C.length:Int)) (by omega) (by omega) (by omega) (by omega) (by omega) (by omega)
  have h:=hx (fY b a q).toNat (by omega)
  rw[WN i1,YP (n:=(C.length:Int)) (by omega) (by omega) (by omega) (by omega) (by omega) (by omega),Hz] at h
  exact h
 ·rw[oW (by omega),oW (by rw[O9 ha hb];omega)]
def E4:Bool:=Bg F.bk&&(F.cA.length==0&&(U (F.aM=vp)&&(F.aE==0&&(F.av==0&&(F.ba==0&&(F.kM==0&&(U (F.bt.aM=vp)&&(F.bt.ag.length==0&&(F.bt.aH==0&&(F.bt.ar.length==0&&F.bt.aL.length==0))))))))))
def zT:ai:=ad1 vp [] 0 [] []
def SJ:aG:=
 if F.bg=1 then aG.mk F.bg 0 F.ba F.kM vp 0 zv F.cA F.bt
 else if F.bg=2 then aG.mk F.bg 0 0 F.kM F.aM F.aE zv F.cA F.bt
 else if F.bg=3 then aG.mk F.bg 0 0 0 F.aM F.aE F.bk F.cA F.bt
 else if F.bg=4 then aG.mk F.bg 0 0 F.kM vp F.aE F.bk F.cA F.bt
 else if F.bg=5 then aG.mk F.bg 0 F.ba F.kM vp F.aE F.bk F.cA F.bt
 else if F.bg=6 then aG.mk F.bg F.av F.ba F.kM F.aM F.aE F.bk F.cA zT
 else if F.bg=7 then aG.mk F.bg 0 F.ba F.kM F.aM F.aE F.bk F.cA F.bt
 else aG.mk F.bg 0 0 F.kM F.aM F.aE F.bk [] F.bt
def r7:Bool:=U (1<=F.bg)&&(U (F.bg<=8)&&E4 (SJ F))
def nC:ai:=⟨I.aM,I.ag,I.aH,I.ar.map λr=>⟨r.ag,fY E (-1) r.av⟩,I.aL⟩
def yj:Bool:=(S.aE==ad.aE)&&((S.dj==ad.dj)&&((U (S.cM=ad.cM))&&M))
def zt:Nat:=Y.countP λq=>yj q.f0 S
def zr:Nat:=Y.countP λq=>yj q.f1 S
def xl:Bool:=U (1<=Y.length)&&(U (Y.length<=16)&&Y.all λp=>jK p.f0&&(p.f0.aE==E&&(zt p.f0 Y==1&&zr p.f0 Y==1)))
inductive mj (s:ae) (m:aG):ae->Prop
 |asx (j:Nat) (T:ai) (h:m.bg=1) (hj:m.av=(j:Int)) (hT:s.ah[j]? =V T) (hv:jK m.bk=M) (hk:m.bk.aE=m.aE):
   mj s m ⟨s.aA+1,s.ah.set j ⟨T.aM,T.ag++ [⟨m.aM,m.aE⟩],T.aH,T.ar,T.aL⟩⟩
 |abT (j c:Nat) (T:ai) (x:cF) (h:m.bg=2) (hj:m.av=(j:Int)) (hT:s.ah[j]? =V T) (hc:m.ba=(c:Int)) (hx:T.ag[c]? =V x) (hk:T.aH<=(c:Int)) (hv:jK m.bk=M) (Ad:m.bk.aE=x.aE) (hu:C1 (c:Int) T=B):
   mj s m ⟨s.aA+1,s.ah.set j (vg (fY (c:Int) (-1)) ⟨T.aM,T.ag.take c++T.ag.drop (c+1),T.aH,T.ar,T.aL⟩)⟩
 |move (j c d:Nat) (T:ai) (h:m.bg=3) (hj:m.av=(j:Int)) (hT:s.ah[j]? =V T) (hc:m.ba=(c:Int)) (hd:m.kM=(d:Int)) (h1:c<T.ag.length) (h2:d<T.ag.length) (hk:T.aH<=(c:Int)) (yH:T.aH<=(d:Int)):
   mj s m ⟨s.aA+1,s.ah.set j (vg (fY (c:Int) (d:Int)) ⟨T.aM,xn T.ag c d,T.aH,T.ar,T.aL⟩)⟩
 |aqg (j c:Nat) (T:ai) (x:cF) (h:m.bg=4) (hj:m.av=(j:Int)) (hT:s.ah[j]? =V T) (hc:m.ba=(c:Int)) (hx:T.ag[c]? =V x):
   mj s m ⟨s.aA+1,s.ah.set j ⟨T.aM,T.ag.set c ⟨m.aM,x.aE⟩,T.aH,T.ar,T.aL⟩⟩
 |aqf (j:Nat) (T:ai) (h:m.bg=5) (hj:m.av=(j:Int)) (hT:s.ah[j]? =V T):
   mj s m ⟨s.aA+1,s.ah.set j ⟨m.aM,T.ag,T.aH,T.ar,T.aL⟩⟩
 |asw (h:m.bg=6):mj s m ⟨s.aA+1,s.ah++ [m.bt]⟩
 |abS (j:Nat) (T:ai) (h:m.bg=7) (hj:m.av=(j:Int)) (hT:s.ah[j]? =V T) (hr:∀i g8,i≠j->s.ah[i]? =V g8->∀r∈g8.ar,r.av≠(j:Int)):
   mj s m ⟨s.aA+1,(s.ah.take j++s.ah.drop (j+1)).map (nC (j:Int))⟩
 |Eh (j c:Nat) (T:ai) (x:cF) (h:m.bg=8) (hj:m.av=(j:Int)) (hT:s.ah[j]? =V T) (hc:m.ba=(c:Int)) (hx:T.ag[c]? =V x) (hk:T.aH<=(c:Int)) (hp:xl x.aE m.cA=M) (hu:C1 (c:Int) T=B):
   mj s m ⟨s.aA+1,s.ah⟩
def aKl:Ok (ZX D F) λr=>r=M->r7 F=M:=by
 unfold ZX Wd;have key:∀q:aG,Ok (se D q) λr=>r=M->E4 q=M:=λq=>by
  unfold se;refine Ok.ite (λh1=>Ok.ite (λh2=>Ok.ite (λh3=>Ok.ite (λh4=>Ok.ite (λh5=>Ok.ite (λh6=>Ok.ite (λh7=>Ok.ite (λh8=>Ok.ite (λh9=>Ok.ite (λh10=>Ok.ite (λh11=>Ok.pure λh12=> ?_) ?_) ?_) ?_) ?_) ?_) ?_) ?_) ?_) ?_) ?_) ?_
  ·have h12:((q.bt.aL.length:Int)==0)=M:=h12;have e:∀k:Nat,((k:Int)==0)=(k==0):=λk=>by rw[oa];simp
   rw[e] at h7 h9 h11 h12;have h6':Bg q.bk=M:=h6;unfold E4;rw[h1,h2,h3,h4,h5,h6',h7,h8,h9,h10,h11,h12];rfl
  all_goals exact λ_=>Ok.pure λh=>by cases h
 have fin:∀q:aG,1<=F.bg->F.bg<=8->q=SJ F->Ok (se D q) λr=>r=M->r7 F=M:=λq h1 h8 hq=>(key q).mono λr hr h=>by
  unfold r7;rw[<-hq,hr h];simp[h1,h8]
 refine Ok.ite (λh=> ?_) λn1=>Ok.ite (λh=> ?_) λn2=>Ok.ite (λh=> ?_) λn3=>Ok.ite (λh=> ?_) λn4=>Ok.ite (λh=> ?_) λn5=>Ok.ite (λh=> ?_) λn6=>Ok.ite (λh=> ?_) λn7=>Ok.ite (λh=> ?_) λn8=>Ok.pure λh=>by cases h
 all_goals (simp at h;refine fin _ (by omega) (by omega) ?_;unfold SJ;simp[h,zv,zT])
def aQa (h:r7 F=M):F98 D F=V M:=by
 have key:∀q:aG,E4 q=M->zR D q=V M:=λq hq=>by
  unfold E4 at hq;simp only[bJ,sR,j2] at hq;let ⟨a1,a2,a3,a4,a5,a6,a7,a8,a9,a10,a11,a12⟩:=hq;have a1':((q.bk.aE==0)&&((q.bk.dj==0)&&((U (q.bk.cM=vp))&&M)))=M:=a1;unfold zR Lb;simp only[a1',a2,a3,a4,a5,a6,a7,a8,a9,a10,a11,a12];rfl
 unfold r7 at h;simp only[bJ,j2] at h;let ⟨h1,h8,hb⟩:=h;have hb:=key _ hb;unfold F98 atH;unfold SJ at hb;rcases (by omega:F.bg=1\/F.bg=2\/F.bg=3\/F.bg=4\/F.bg=5\/F.bg=6\/F.bg=7\/F.bg=8) with e|e|e|e|e|e|e|e<;>(simp[e,zv,zT] at hb;simp[e,hb])
def aaP (k:gq->Int->Int->Int->gq->Int->Int->Int->Int->iH->A Bool) (l:gq) (hl:l.length<=16) (l0:gq) (kind:Int) (t19:gq) (t20 t21 t32 t33:Int) (b6:iH):∀(x:gq) (i m f s:Nat),l.drop i=x->x.length<m->f+x.length<=100->s+x.length<=100->
  IV k m l0 kind (f:Int) (s:Int) t19 t20 t21 t32 t33 l (l.length:Int) (i:Int) b6=k l0 kind ((f+zt b6.f0 x:Nat):Int) ((s+zr b6.f0 x:Nat):Int) t19 t20 t21 t32 t33 b6
 | [],i,m+1,f,s,hd,hm,_,_=>by
  let ⟨hi,hq⟩:=eI hd
  simp[IV,VW,hq,zt,zr]
 |q::x,i,m+1,f,s,hd,hm,hf,hs=>by
  let ⟨g1,g2,g3,hq⟩:=dO hd
  simp at hm hf hs;have ih:=λf' s' h1 h2=>aaP k l hl l0 kind t19 t20 t21 t32 t33 b6 x (i+1) m f' s' g2 (by omega) h1 h2
  have w:∀c:Nat,c<=100->aV ((c:Int)+1)=((c+1:Nat):Int):=λc hc=>by rw[cT (by omega) (by omega)];rfl
  have eF:zt b6.f0 (q::x)=zt b6.f0 x+if yj q.f0 b6.f0=M then 1 else 0:=by simp[zt,List.countP_cons]
  have eS:zr b6.f0 (q::x)=zr b6.f0 x+if yj q.f1 b6.f0=M then 1 else 0:=by simp[zr,List.countP_cons]
  have e1:(q.f0.aE==b6.f0.aE&&(q.f0.dj==b6.f0.dj&&(U (q.f0.cM=b6.f0.cM)&&M)))=yj q.f0 b6.f0:=rfl;have e2:(q.f1.aE==b6.f0.aE&&(q.f1.dj==b6.f0.dj&&(U (q.f1.cM=b6.f0.cM)&&M)))=yj q.f1 b6.f0:=rfl;simp only[IV,VW,hq,aO,ax,bA,g1,ak,e1,VX,e2,bV g3 (by omega),eF,eS]
  cases h1:yj q.f0 b6.f0<;>cases h2:yj q.f1 b6.f0
  ·simp only[az,au,oH];exact ih f s (by omega) (by omega)
  ·simp only[az,au,ax,oH,w s (by omega)]
   refine (ih f (s+1) (by omega) (by omega)).trans ?_
   rw[show s+1+zr b6.f0 x=s+(zr b6.f0 x+1) by omega]
  ·simp only[az,au,ax,oH,w f (by omega)]
   refine (ih (f+1) s (by omega) (by omega)).trans ?_
   rw[show f+1+zt b6.f0 x=f+(zt b6.f0 x+1) by omega]
  ·simp only[ax,w s (by omega),w f (by omega)]
   refine (ih (f+1) (s+1) (by omega) (by omega)).trans ?_
   rw[show f+1+zt b6.f0 x=f+(zt b6.f0 x+1) by omega,show s+1+zr b6.f0 x=s+(zr b6.f0 x+1) by omega]
 |_,_,0,_,_,_,hm,_,_=>by simp at hm
def aaO (n0:Nat) (l:gq) (hl:l.length<=16) (kind:Int):∀(x:gq) (i m:Nat),l.drop i=x->x.length+100<m->
  Fh (N3 n0) m l kind l (l.length:Int) (i:Int)=V (x.all λp=>jK p.f0&&(p.f0.aE==kind&&(zt p.f0 l==1&&zr p.f0 l==1)))
 | [],i,m+1,hd,hm=>by
  let ⟨hi,hq⟩:=eI hd
  simp[Fh,VU,hq,N3]
 |p::x,i,m+1,hd,hm=>by
  let ⟨g1,g2,g3,hq⟩:=dO hd
  simp at hm;have ih:=aaO n0 l hl kind x (i+1) m g2 (by omega)
  have inner:=aaP (VV (Fh (N3 n0) m) m) l hl l kind l (l.length:Int) (i:Int) p.f0.aE kind p l 0 m 0 0 rfl (by omega) (by omega) (by omega)
  simp only[Fh,VU,hq,aO,ax,bA,g1,ak,DV,ry];cases hr:jK p.f0 with
  |false=>simp
  |true=>
   by_cases hk:p.f0.aE=kind
   ·have hk1:(p.f0.aE !=kind)=B:=by simpa using hk
    have yH:(p.f0.aE==kind)=M:=by simpa using hk
    simp only[dh,az,au,hk1,yH,jd];refine inner.trans ?_;simp only[VV,cq,bV g3 (by omega:l.length<4294967296)]
    have c1:(((zt p.f0 l:Nat):Int) !=1)= !(zt p.f0 l==1):=by rw[oa];simp;omega
    have c2:(((zr p.f0 l:Nat):Int) !=1)= !(zr p.f0 l==1):=by rw[oa];simp;omega
    rw[c1,c2];cases zt p.f0 l==1
    ·simp
    ·cases zr p.f0 l==1
     ·simp
     ·simp only[dh,az,au,jd];exact ih
   ·have hk1:(p.f0.aE !=kind)=M:=by simpa using hk
    have yH:(p.f0.aE==kind)=B:=by simpa using hk
    simp[hk1,yH]
 |_,_,0,_,hm=>by simp at hm
def apg (hn:1000<D):atq D Y af=V (xl af Y):=by
 unfold atq akI xl;by_cases h1:Y.length<1
 ·have:(Y.length:Int)<1:=by omega
  have h2:¬1<=Y.length:=by omega
  simp only[this,aO,ax,h2,aR,gR]
 ·have vy:¬(Y.length:Int)<1:=by omega
  have h2:1<=Y.length:=by omega
  by_cases h3:16<Y.length
  ·have:(16:Int)<(Y.length:Int):=by omega
   have h4:¬Y.length<=16:=by omega
   simp only[vy,aR,az,au,this,aO,ax,h2,h4,jd,gR]
  ·have M1:¬(16:Int)<(Y.length:Int):=by omega
   have h4:Y.length<=16:=by omega
   simp only[vy,M1,aR,az,au,h2,h4,aO,jd];exact aaO D Y h4 af Y 0 D rfl (by omega)
def kO {l:List J} {x:J} (h:l[i]? =V x):l.set i x=l:=by
 let ⟨h1,h2⟩:=bK.1 h;rw[<-h2,Hr]
def R9 (k:ae->aG->ae->ae->bD->A (ae×Bool)) (ts:bD) (hl:ts.length<=1000) (ht:∀T∈ts,Hl T) (s:ae) (mg:aG):∀(x:bD) (i m:Nat) (b4 b6:ae),ts.drop i=x->x.length+4000<m->
  PM k m ts (ts.length:Int) (i:Int) s mg b4 b6 (ts.take i)=k s mg (ad0 b4.aA []) (ad0 b6.aA ts) ts
 | [],i,m+1,b4,b6,hd,hm=>by
  let ⟨hi,hq⟩:=eI hd
  simp only[PM,acp,hq,aR,az,au,iT hi]
 |T::x,i,m+1,b4,b6,hd,hm=>by
  let ⟨g1,g2,g3,hq⟩:=dO hd
  have hT:=ht T (bU g1);simp at hm;have ih:=R9 k ts hl ht s mg x (i+1) m (ad0 b4.aA []) (ad0 b6.aA (ts.take (i+1))) g2 (by omega)
  have e1:(ts.take i).length=i:=by simp;omega
  simp only[PM,acp,hq,aO,ax,bA,g1,ak,ZW m T hT.len hT.ref (by omega),dr (ts.take i) [T] (by simp;omega),tI g1,bV g3 (by omega)]
  rw[e1,dC _ (by simp;omega),ak]
  have e2:(ts.take (i+1)).set i T=ts.take (i+1):=kO (by rw[fw,aF (by omega)];exact g1)
  rw[e2];exact ih
 |_,_,0,_,_,_,hm=>by simp at hm
def R8 (k:Nat->aG->ae->ae->di->bD->A (ae×Bool)) (j:Nat) (mg:aG) (a b:Nat) (ha:mg.ba=(a:Int)) (hb:mg.kM=(b:Int)) (C:di) (hl:C.length<=8) (ha':a<C.length) (nP:b<C.length) (ts:bD):∀(x:di) (i m:Nat) (b4 b6:ae) (X:di) (rr:ai),C.drop i=x->x.length+100<m->X.length=C.length->(∀q:Nat,q<i->X[(fY a b q).toNat]? =C[q]?)->i<=C.length->
  ∃Cd,PL k m j (C.length:Int) (i:Int) mg b4 b6 X C ts rr=((setAt ts j (ad1 rr.aM C rr.aH rr.ar rr.aL)).bind λz2=>k j mg Cd (ad0 b6.aA z2) (xn C a b) z2)
 | [],i,m+1,b4,b6,X,rr,hd,hm,hX,hx,hi=>by
  have qD:C.length<=i:=by simpa using hd
  have hq:¬((i:Int)<(C.length:Int)):=by omega
  have e:=aLp ha' nP hX λq hq=>hx q (by omega)
  subst e;exact ⟨ad0 b4.aA [],by simp only[PL,aco,hq,aR,az,au]⟩
 |c::x,i,m+1,b4,b6,X,rr,hd,hm,hX,hx,hi=>by
  let ⟨g1,g2,g3,hq⟩:=dO hd
  simp at hm;have hbnd:eh C.length (i:Int)=V i:=fX g3;let ⟨s1,s2⟩:=afM (a:=(a:Int)) (b:=(b:Int)) (i:=(i:Int)) (n:=(C.length:Int)) (by omega) (by omega) (by omega) (by omega) (by omega) (by omega)
  have hsh:fY a b i=((fY a b i).toNat:Int):=(WN s1).symm;have dz:(fY a b i).toNat<X.length:=by omega
  have hb1:eh X.length (fY a b i)=V (fY a b i).toNat:=by rw[hsh];exact fX (by simpa using dz)
  have hF:=Qm m (i:Int) (a:Int) (b:Int) (by omega) (by omega) (by omega) (by omega)
  let ⟨Cd,ih⟩:=R8 k j mg a b ha hb C hl ha' nP ts x (i+1) m (ad0 b4.aA []) (ad0 b6.aA ts) (X.set (fY a b i).toNat c) (ad1 rr.aM [] rr.aH rr.ar rr.aL) g2 (by omega) (by simpa using hX) (λq BV=>by
   rw[List.getElem?_set];by_cases he:q=i
   ·subst he;rw[aF rfl,aF dz,g1]
   ·have:(fY a b i).toNat≠(fY a b q).toNat:=λhc=>by
     let ⟨q1,q2⟩:=afM (a:=(a:Int)) (b:=(b:Int)) (i:=(q:Int)) (n:=(C.length:Int)) (by omega) (by omega) (by omega) (by omega) (by omega) (by omega)
     have h3:fY a b i=fY a b q:=by omega
     have h1:=YP (a:=(a:Int)) (b:=(b:Int)) (i:=(i:Int)) (n:=(C.length:Int)) (by omega) (by omega) (by omega) (by omega) (by omega) (by omega)
     have h2:=YP (a:=(a:Int)) (b:=(b:Int)) (i:=(q:Int)) (n:=(C.length:Int)) (by omega) (by omega) (by omega) (by omega) (by omega) (by omega)
     rw[h3,h2] at h1;omega
    rw[aC this];exact hx q (by omega)) (by omega)
  refine ⟨Cd,?_⟩;simp only[PL,aco,hq,aO,ax,hbnd,ak,cq,g1,ha,hb,hF,hb1,cX dz,dC _ dz,bV g3 (by omega)]
  exact ih
 |_,_,0,_,_,_,_,_,hm,_,_,_=>by simp at hm
def jR:bq:=⟨aq.ag,fY E (-1) aq.av⟩
def uz:Bool:=al.all λr=>r.av !=E
def aip (k:Int->Int->ae->aG->ae->ae->ai->di->bw->bD->bD->ai->Nat->Nat->bQ->A (ae×Bool)) (t299 t300:Int) (s:ae) (mg:aG) (a:Nat) (ha:mg.av=(a:Int)) (ha8:a<=1000) (cs:di) (ch:bw) (R cur:bD) (j:Nat) (hj:j<cur.length) (rs:bQ) (hl:rs.length<=1000) (hr:∀r∈rs,nr r.av):∀(x:bQ) (i m:Nat) (b4 b6:ae) (rb rr:ai),rs.drop i=x->x.length<m->
  KN k m t299 t300 (rs.length:Int) (i:Int) s mg b4 b6 rb cs ch R cur rr j j (fT (jR a) rs i)=if uz a x=M then k t299 t300 s mg (ad0 b4.aA []) (ad0 b6.aA cur) (ad1 rb.aM cs rb.aH (rs.map (jR a)) ch) cs ch R cur (ad1 rr.aM [] rr.aH [] []) j j (rs.map (jR a)) else V (s,B)
 | [],i,m+1,b4,b6,rb,rr,hd,hm=>by
  let ⟨hi,hq⟩:=eI hd
  simp[KN,UK,hq,tS _ _ hi,uz]
 |r::x,i,m+1,b4,b6,rb,rr,hd,hm=>by
  let ⟨g1,g2,g3,hq⟩:=dO hd
  have jf:=hr r (bU g1);have ih:=aip k t299 t300 s mg a ha ha8 cs ch R cur j hj rs hl hr x (i+1) m (ad0 b4.aA []) (ad0 b6.aA cur) (ad1 rb.aM cs rb.aH (fT (jR a) rs (i+1)) ch) (ad1 rr.aM [] rr.aH [] []) g2 (by simp at hm;omega)
  have hb:eh (fT (jR a) rs i).length (i:Int)=V i:=fX (by rw[lP];exact g3)
  have e:uz (a:Int) (r::x)=(r.av !=(a:Int)&&uz a x):=by simp[uz]
  have hs:(fT (jR a) rs i).set i (bq.mk r.ag (fY a (-1) r.av))=fT (jR a) rs (i+1):=tR (jR a) g1;rw[e];by_cases h:r.av=(a:Int)
  ·have h1:(r.av==(a:Int))=M:=by simpa using h
   have h2:(r.av !=(a:Int))=B:=by simpa using h
   simp only[KN,UK,hq,aO,ax,hb,ak,cq,nj _ g1,ha,h1,show iP j j=V () by unfold iP;rw[aF rfl],dC _ hj,h2,gR,az,au]
  ·have h1:(r.av==(a:Int))=B:=by simpa using h
   have h2:(r.av !=(a:Int))=M:=by simpa using h
   simp only[KN,UK,hq,aO,ax,hb,ak,cq,nj _ g1,ha,h1,h2,jd,az,au,Qm m r.av (a:Int) (-1) jf.1 jf.2 (by omega) (by omega),dC _ (show i<(fT (jR a) rs i).length by rw[lP];exact g3),hs,bV g3 (by omega)]
   exact ih
 |_,_,0,_,_,_,_,_,hm=>by simp at hm
def rp:bD:=O.take D++O.drop (D+1)
def ayX {a:Nat} {ts:bD} {T:ai} (h:ts[i]? =V T) (cR:i≠a):rp a (ts.take i)++ [T]=rp a (ts.take (i+1)):=by
 unfold rp;rw[qk,h,HA];have hl:=(bK.1 h).1;by_cases hi:i<a
 ·rw[iT (by simp;omega),uq (by simp;omega),iT (l:=ts.take i++ [T]) (by simp;omega),uq (l:=ts.take i++ [T]) (by simp;omega)]
  simp
 ·rw[alX (by simp;omega),alW (by simp;omega),lr]
def ayY {a:Nat} {ts:bD}:rp a (ts.take (a+1))=rp a (ts.take a):=by
 unfold rp;rw[lX,lX,fu (by omega),Nat.min_self,uq (by simp;omega),uq (by simp;omega)]
def BO:Prop:=∀q g8,q<f8->q≠D->O[q]? =V g8->uz D g8.ar=M
def KM {P:ae×Bool->Prop} (k:ae->ae->bD->bD->Nat->A (ae×Bool)) (s:ae) (mg:aG) (a:Nat) (ha:mg.av=(a:Int)) (ha8:a<=1000) (ts:bD) (hl:ts.length<=1000) (ht:∀T∈ts,T.ar.length<=1000/\∀r∈T.ar,nr r.av) (v:Int) (hP:¬BO a ts ts.length->P (s,B))
  (hk:∀b4 j6 cur g,BO a ts ts.length->Ok (k b4 (ad0 v j6) ((rp a ts).map (nC a)) cur g) P):∀(x:bD) (i m:Nat) (b4:ae) (tt cur:bD),ts.drop i=x->x.length+2000<m->cur.length=ts.length->(∀q,i<=q->cur[q]? =ts[q]?)->BO a ts i->
  Ok (Gx k m (ts.length:Int) (i:Int) s mg b4 (ad0 v tt) ((rp a (ts.take i)).map (nC a)) cur i) P
 | [],i,m+1,b4,tt,cur,hd,hm,hc,hcq,BX=>by
  let ⟨hi,hq⟩:=eI hd
  simp only[Gx,UJ,hq,aR,az,au,iT hi];refine hk _ _ _ _ λq g8 h1 h2 h3=>BX q g8 (by omega) h2 h3
 |T::x,i,m+1,b4,tt,cur,hd,hm,hc,hcq,BX=>by
  let ⟨g1,g2,g3,hq⟩:=dO hd
  simp at hm;have hT:=ht T (bU g1);have hb:eh cur.length (i:Int)=V i:=fX (by omega)
  have G6:cur[i]? =V T:=(hcq i (cS _)).trans g1;have rV:i<cur.length:=by omega
  have hsj:iP i i=V ():=by unfold iP;rw[aF rfl]
  by_cases h:i=a
  ·have h1:((i:Int)==mg.av)=M:=by rw[ha,h];exact gQ _
   have ih:=KM k s mg a ha ha8 ts hl ht v hP hk x (i+1) m (ad0 b4.aA []) (cur.set i (ad1 T.aM [] T.aH [] [])) (cur.set i (ad1 T.aM [] T.aH [] [])) g2 (by omega) (by simpa using hc) (λq BV=>by rw[mE (by omega)];exact hcq q (by omega)) (λq g8 h1 h2 h3=>BX q g8 (by omega) h2 h3)
   rw[show rp a (ts.take (i+1))=rp a (ts.take i) by subst h;exact ayY] at ih
   simp only[Gx,UJ,hq,aO,ax,hb,ak,cq,G6,hsj,h1,dC _ rV,Qo,bV g3 (by omega:ts.length<4294967296)]
   exact ih
  ·have h1:((i:Int)==mg.av)=B:=by rw[ha];exact Ot (by omega)
   have inner:=aip (acn (Qo (Gx k m) m) m) (ts.length:Int) (i:Int) s mg a ha ha8 T.ag T.aL ((rp a (ts.take i)).map (nC a)) cur i rV T.ar hT.1 hT.2 T.ar 0 m (ad0 b4.aA []) (ad0 v cur) T (ad1 T.aM [] T.aH [] []) rfl (by omega)
   rw[za] at inner;simp only[Gx,UJ,hq,aO,ax,hb,ak,cq,G6,hsj,h1,az,au];rw[show (0:Int)=((0:Nat):Int) from rfl,inner];by_cases hn:uz a T.ar=M
   ·rw[aF hn];have rW:((rp a (ts.take i)).map (nC a)).length<=1000:=by
     have:(rp a (ts.take i)).length<=ts.length:=by unfold rp;simp;omega
     simpa using (by omega:(rp a (ts.take i)).length<=1000)
    have es:((rp a (ts.take i)).map (nC a)++ [ad1 T.aM T.ag T.aH (T.ar.map (jR a)) T.aL])=(rp a (ts.take (i+1))).map (nC a):=by
     rw[<-ayX g1 h,kh];rfl
    have ih:=KM k s mg a ha ha8 ts hl ht v hP hk x (i+1) m (ad0 b4.aA []) (cur.set i (ad1 T.aM [] T.aH [] [])) (cur.set i (ad1 T.aM [] T.aH [] [])) g2 (by omega) (by simpa using hc) (λq BV=>by rw[mE (by omega)];exact hcq q (by omega)) (λq g8 h1 h2 h3=>by
     by_cases he:q=i
     ·subst he;rw[g1] at h3;cases h3;exact hn
     ·exact BX q g8 (by omega) h2 h3)
    unfold acn;rw[dr _ _ (by simp at rW ⊢;omega),ak,dC _ (by simp),ak,hsj,ak,dC _ rV,ak]
    rw[kO (l:=(rp a (ts.take i)).map (nC a)++ [ad1 T.aM T.ag T.aH (T.ar.map (jR a)) T.aL]) (by simp)]
    simp only[Qo,bV g3 (by omega:ts.length<4294967296)]
    rw[es];exact ih
   ·rw[aC hn];exact Ok.pure (hP λhh=>hn (hh i T g3 h g1))
 |_,_,0,_,_,_,_,hm,_,_,_=>by simp at hm
structure MB (m:aG):Prop where
 Gg:nr m.ba
 to:nr m.kM
 dfn:Hl m.bt
def aDL (hn:1600000<D) (fP:D<4294967296) (b4 b6:ae) (ts:bD) (h:∀T∈ts,BE T):Ok (nE D b4 b6 ts) λr=>r.1=⟨b6.aA,ts⟩/\(r.2=M->gm r.1=0):=by
 unfold nE;rw[Jd D ⟨b6.aA,ts⟩ h hn fP,ak];exact Ok.pure ⟨rfl,λh=>by simpa using h⟩
def uS {ts:bD} {j:Nat} {T:ai} (h:∀g8∈ts,BE g8) (hT:BE T):∀g8∈ts.set j T,BE g8:=λg8 hU=>by
 rcases W6 hU with h1|rfl
 ·exact h g8 h1
 ·exact hT
def OD {T:ai} (h:BE T):BE (vg f T):=λp hp=>by
 obtain ⟨q,hq,rfl⟩:=dJ.1 hp;rw[anG];exact h q hq
def TG.yq {k:Nat} {T:ai} (h:TG k T):BE T:=λp hp=>by have:=(h.kC p hp).2;omega
def Ok.of_eq {x y:A J} {P:J->Prop} (h:x=y) (k:Ok y P):Ok x P:=h ▸ k
def bool_and {a b:Bool} (h:(a&&b)=M):a=M/\b=M:=(bJ _ _).mp h
def aDK (hn:1700000<D) (fP:D<4294967296) (s:ae) (hs:SG s) (m:aG) (hm:MB m) (h1:1<=m.bg) (h8:m.bg<=8) (h6:m.bg≠6) (j:Nat) (T:ai) (hj:m.av=(j:Int)) (hT:s.ah[j]? =V T) (b4 b6:ae) (hv:b6.aA=s.aA+1):
  Ok (wT D j (T.ag.length:Int) (U (T.aH<=m.ba)&&U (m.ba<(T.ag.length:Int))) s m b4 b6 s.ah) λr=>r.2=M->mj s m r.1/\gm r.1=0:=by
 have gy:=(bK.1 hT).1;have hG:=hs.bY T (bU hT);have im:∀g8∈s.ah,BE g8:=λg8 hU=>(hs.bY g8 hU).yq
 have hc8:=hG.cols;have hk1:=hG.pY;have no:Ok (V (s,B):A (ae×Bool)) λr=>r.2=M->mj s m r.1/\gm r.1=0:=Ok.pure λh=>by cases h
 have done:∀(b4:ae) (vv:ae) (ts:bD),vv.aA=s.aA+1->(∀g8∈ts,BE g8)->mj s m ⟨s.aA+1,ts⟩->Ok (nE D b4 vv ts) λr=>r.2=M->mj s m r.1/\gm r.1=0:=λb4 vv ts h2 h3 h4=>
  (aDL D (by omega) fP b4 vv ts h3).mono λr ⟨e,hr⟩ h=>⟨by rw[e,h2];exact h4,hr h⟩
 have l7:setAt s.ah j T=V s.ah:=by rw[dC _ gy,kO hT]
 unfold wT;refine Ok.ite (λq=> ?_) λq1=> ?_
 ·have q:m.bg=1:=by simpa using q
  rw[DV,ak];refine Ok.ite (λ_=>no) λhr=>Ok.ite (λ_=>no) λhk=> ?_
  have hr:jK m.bk=M:=by simpa using hr
  have hk:m.bk.aE=m.aE:=by simpa using hk
  rw[hT,ak,dr _ _ (by simp;omega),ak,dC _ gy,ak]
  exact done _ _ _ hv (uS im hG.yq) (.asx j T q hj hT hr hk)
 refine Ok.ite (λq=> ?_) λq2=> ?_
 ·have q:m.bg=2:=by simpa using q
  rw[hT,ak];refine Ok.ite (λ_=>by rw[l7,ak];exact no) λho=> ?_
  have ho:(U (T.aH<=m.ba)&&U (m.ba<(T.ag.length:Int)))=M:=by
   cases hh:(U (T.aH<=m.ba)&&U (m.ba<(T.ag.length:Int))) with
   |true=>rfl
   |false=>rw[hh] at ho;cases ho
  let ⟨o1,o2⟩:=bool_and ho;have o1:=rH o1;have o2:=rH o2;obtain ⟨c,hc⟩:∃c:Nat,m.ba=(c:Int):=⟨m.ba.toNat,by omega⟩
  have fg:c<T.ag.length:=by omega
  have hx:T.ag[c]? =V T.ag[c]:=cX fg;rw[DV,ak];refine Ok.ite (λ_=>by rw[l7,ak];exact no) λhr=> ?_
  have hr:jK m.bk=M:=by simpa using hr
  rw[hc,fX fg,ak,cq,hx,ak];refine Ok.ite (λ_=>by rw[l7,ak];exact no) λhk=> ?_
  have hk:m.bk.aE=T.ag[c].aE:=by simpa using hk
  rw[Qk D T (c:Int) (by omega) hG.cp (by omega),ak]
  refine Ok.ite (λ_=>by rw[l7,ak];exact no) λhu=> ?_
  rw[l7,ak,hT,ak];have w:aV ((c:Int)+1)=((c+1:Nat):Int):=bV fg (by omega)
  have ct:so T.ag.length (c:Int)=V c:=by unfold so;rw[aF ⟨by omega,by omega⟩];rfl
  have cl:EY T.ag.length ((c+1:Nat):Int)=V (c+1):=by unfold EY;rw[aF ⟨by omega,by omega⟩];rfl
  have an:KG T.ag c ((T.ag.drop (0+(c+1))).take (T.ag.length-(c+1)))=V (T.ag.take c++T.ag.drop (c+1)):=by
   unfold KG;rw[cq,iT (l:=T.ag.drop (c+1)) (by simp),aF ⟨by omega,by omega,by simp;omega⟩]
  rw[w,ct,ak,cl,ak,an,ak];have tok:TOK (T.ag.length:Int) ⟨T.aM,T.ag.take c++T.ag.drop (c+1),T.aH,T.ar,T.aL⟩:=⟨by rw[AQ fg];omega,hG.tok.refs,hG.tok.ref,hG.tok.CF,hG.tok.kC⟩
  rw[Qj D _ (T.ag.length:Int) (by omega) tok (c:Int) (-1) ⟨by omega,by omega⟩ (by omega),ak,dC _ gy,ak]
  exact done _ _ _ hv (uS im (OD (T:=⟨T.aM,T.ag.take c++T.ag.drop (c+1),T.aH,T.ar,T.aL⟩) hG.yq)) (.abT j c T T.ag[c] q hj hT hc hx (by omega) hr hk hu)
 refine Ok.ite (λq=> ?_) λq3=> ?_
 ·have q:m.bg=3:=by simpa using q
  refine Ok.ite (λ_=>no) λho=> ?_
  have ho:(U (T.aH<=m.ba)&&U (m.ba<(T.ag.length:Int)))=M:=by
   cases hh:(U (T.aH<=m.ba)&&U (m.ba<(T.ag.length:Int))) with
   |true=>rfl
   |false=>rw[hh] at ho;cases ho
  let ⟨o1,o2⟩:=bool_and ho;have o1:=rH o1;have o2:=rH o2;rw[hT,ak];refine Ok.ite (λ_=>no) λhk=>Ok.ite (λ_=>no) λhl=> ?_
  have hk:=Oj hk;have hl:m.kM<(T.ag.length:Int):=by simpa using hl
  obtain ⟨c,hc⟩:∃c:Nat,m.ba=(c:Int):=⟨m.ba.toNat,by omega⟩
  obtain ⟨d,hd⟩:∃d:Nat,m.kM=(d:Int):=⟨m.kM.toNat,by omega⟩
  have fg:c<T.ag.length:=by omega
  have sD:d<T.ag.length:=by omega
  have RI:rh (T.ag.length:Int) ((cF.mk vp 0):cF)=V (P' T.ag.length (cF.mk vp 0)):=by
   unfold rh;rw[aF ⟨by omega,by omega⟩];rfl
  rw[RI,ak,ak];let ⟨Cd,e⟩:=R8 (Qp (nE D) D) j m c d hc hd T.ag hc8 fg sD s.ah T.ag 0 D (ad0 b4.aA []) (ad0 b6.aA s.ah) (P' T.ag.length (cF.mk vp 0)) (ad1 T.aM [] T.aH T.ar T.aL) rfl (by omega) (by simp) (λq hq=>by omega) (by omega)
  refine Ok.of_eq e ?_;rw[l7,ak];unfold Qp;have tok:TOK (T.ag.length:Int) ⟨T.aM,xn T.ag c d,T.aH,T.ar,T.aL⟩:=⟨by rw[O9 fg sD];omega,hG.tok.refs,hG.tok.ref,hG.tok.CF,hG.tok.kC⟩
  rw[hT,ak,Qj D _ (T.ag.length:Int) (by omega) tok m.ba m.kM hm.Gg (by omega),ak,dC _ gy,ak]
  refine done _ _ _ hv (uS im (OD (T:=⟨T.aM,xn T.ag c d,T.aH,T.ar,T.aL⟩) hG.yq)) ?_;have:=mj.move (s:=s) (m:=m) j c d T q hj hT hc hd fg sD (by omega) (by omega)
  rw[<-hc,<-hd] at this;exact this
 refine Ok.ite (λq=> ?_) λq4=> ?_
 ·have q:m.bg=4:=by simpa using q
  refine Ok.ite (λ_=>no) λhk=>Ok.ite (λ_=>no) λhl=> ?_
  have hk:=Oj hk;have hl:m.ba<(T.ag.length:Int):=by simpa using hl
  obtain ⟨c,hc⟩:∃c:Nat,m.ba=(c:Int):=⟨m.ba.toNat,by omega⟩
  have fg:c<T.ag.length:=by omega
  have hx:T.ag[c]? =V T.ag[c]:=cX fg;rw[hT,ak,hc,fX fg,ak,cq,hx,ak,dC _ fg,ak,dC _ gy,ak];exact done _ _ _ hv (uS im hG.yq) (.aqg j c T T.ag[c] q hj hT hc hx)
 refine Ok.ite (λq=> ?_) λq5=> ?_
 ·have q:m.bg=5:=by simpa using q
  rw[hT,ak,dC _ gy,ak];exact done _ _ _ hv (uS im hG.yq) (.aqf j T q hj hT)
 refine Ok.ite (λq=> ?_) λq7=> ?_
 ·have q:m.bg=7:=by simpa using q
  have hl8:=hs.len;have aBY:BO j s.ah 0:=λq g8 h=>by omega
  have key:=KM (P:=λr=>r.2=M->mj s m r.1/\gm r.1=0) (Qn (nE D) D) s m j hj (by omega) s.ah (by omega) (λg8 hU=>⟨by have:=(hs.bY g8 hU).refs;omega,λr hr=>by let ⟨_,_,r1,r2⟩:=(hs.bY g8 hU).ref r hr;exact ⟨by omega,by omega⟩⟩) b6.aA (λ_ h=>by cases h) (λCd j6 cur g BX=>by
  unfold Qn;refine done _ _ _ hv (λg8 hU=> ?_) ?_
  ·obtain ⟨f7,hV,rfl⟩:=dJ.1 hU;have hV':f7∈s.ah:=by
    rcases eV.1 hV with h|h
    ·exact og h
    ·exact oG h
   exact im f7 hV'
  ·refine .abS j T q hj hT λi g8 hi hU r hr=> ?_
   have:=BX i g8 (bK.1 hU).1 hi hU;unfold uz at this;rw[j1] at this;have:=this r hr;simpa using this) s.ah 0 D (ad0 b4.aA []) s.ah s.ah rfl (by omega) rfl (λ_ _=>rfl) aBY
  rw[show (rp j (s.ah.take 0)).map (nC (j:Int))= [] by simp[rp]] at key
  exact key
 ·have q:m.bg=8:=by simp at q1 q2 q3 q4 q5 q7;omega
  rw[hT,ak];refine Ok.ite (λ_=>by rw[l7,ak];exact no) λho=> ?_
  have ho:(U (T.aH<=m.ba)&&U (m.ba<(T.ag.length:Int)))=M:=by
   cases hh:(U (T.aH<=m.ba)&&U (m.ba<(T.ag.length:Int))) with
   |true=>rfl
   |false=>rw[hh] at ho;cases ho
  let ⟨o1,o2⟩:=bool_and ho;have o1:=rH o1;have o2:=rH o2;obtain ⟨c,hc⟩:∃c:Nat,m.ba=(c:Int):=⟨m.ba.toNat,by omega⟩
  have fg:c<T.ag.length:=by omega
  have hx:T.ag[c]? =V T.ag[c]:=cX fg;rw[hc,fX fg,ak,cq,hx,ak,apg D m.cA _ (by omega),ak]
  refine Ok.ite (λ_=>by rw[l7,ak];exact no) λhp=> ?_
  rw[Qk D T (c:Int) (by omega) hG.cp (by omega),ak]
  refine Ok.ite (λ_=>by rw[l7,ak];exact no) λhu=> ?_
  rw[l7,ak];exact done _ _ _ hv im (.Eh j c T T.ag[c] q hj hT hc hx (by omega) (by simpa using hp) hu)
def aQb (hn:1700000<D) (fP:D<4294967296) (s:ae) (hs:SG s) (m:aG) (hm:MB m):Ok (F95 D s m) λr=>r.2=M->r7 m=M/\mj s m r.1/\gm r.1=0:=by
 have no:Ok (V (s,B):A (ae×Bool)) λr=>r.2=M->r7 m=M/\mj s m r.1/\gm r.1=0:=Ok.pure λh=>by cases h
 have hl8:=hs.len;have hv0:=hs.v0;have ED:=hs.v1;unfold F95 UL;refine Ok.bind (aKl D m) λb hb=>Ok.ite (λ_=>no) λnP=> ?_
 have rW:=hb (by simpa using nP)
 have e:=R9 (Ck D) s.ah (by omega) (λT hT=>(hs.bY T hT).cp) s m s.ah 0 D (ad0 0 []) (ad0 (aV (s.aA+1)) []) rfl (by omega)
 refine Ok.of_eq e ?_;rw[cT (by omega) (by omega)]
 have h18:1<=m.bg/\m.bg<=8:=by
  unfold r7 at rW;simp only[bJ,j2] at rW;exact ⟨rW.1,rW.2.1⟩
 unfold Ck;refine Ok.ite (λq=> ?_) λq6=>Ok.ite (λ_=>no) λt0=>Ok.ite (λ_=>no) λt1=> ?_
 ·have q:m.bg=6:=by simpa using q
  rw[ZW D m.bt hm.dfn.len hm.dfn.ref (by omega),ak,dr _ _ (by simp;omega),ak,dC _ (by simp),ak,kO (by simp)]
  have hz:∀T∈s.ah++ [m.bt],BE T:=λT hT=>by
   rcases eV.1 hT with h|h
   ·exact (hs.bY T h).yq
   ·rw[gg.1 h];exact λp hp=>by have:=hm.dfn.kC p hp;omega
  rw[Jd D ⟨s.aA+1,s.ah++ [m.bt]⟩ hz (by omega) fP,ak]
  exact Ok.pure λh=>⟨rW,.asw q,by simpa using h⟩
 ·have q6:m.bg≠6:=by simpa using q6
  have t0:=Oj t0;have t1:m.av<(s.ah.length:Int):=by simpa using t1
  obtain ⟨j,hj⟩:∃j:Nat,m.av=(j:Int):=⟨m.av.toNat,by omega⟩
  have gy:j<s.ah.length:=by omega
  have hT:s.ah[j]? =V s.ah[j]:=cX gy;rw[hj,fX gy,ak,cq,hT,ak];have fin:=λb4 b6 hv=>aDK D hn fP s hs m hm h18.1 h18.2 q6 j s.ah[j] hj hT b4 b6 hv
  have l7:setAt s.ah j s.ah[j]=V s.ah:=by rw[dC _ gy,kO hT]
  refine Ok.ite (λhk=> ?_) λhk=> ?_
  ·have hk:s.ah[j].aH<=m.ba:=by simpa using hk
   rw[l7,ak];have:=fin (ad0 0 []) (ad0 (s.aA+1) s.ah) rfl;rw[rI hk,jd] at this;exact this.mono λr hr h=>⟨rW,hr h⟩
  ·have hk:¬s.ah[j].aH<=m.ba:=by simp at hk;omega
   rw[l7,ak];have:=fin (ad0 0 []) (ad0 (s.aA+1) s.ah) rfl;rw[D1 hk,gR] at this;exact this.mono λr hr h=>⟨rW,hr h⟩
section
mutual
def TA {N:Int} {f g:Int->Int}:∀{p:aj},pS N p=M->(∀x,0<=x->x<N->qL x p=M->f x=g x)->nn f p=nn g p
 |⟨op,c,l,r,args⟩,hp,h=>by
  simp only[pS,bJ] at hp;let ⟨sC,hp2⟩:=hp;have ha:=QO hp2 λx h0 h1 h2=>h x h0 h1 (by simp[qL,h2])
  simp only[nn,ha];by_cases h3:op=3
  ·subst h3;simp only[gQ,ax,bJ] at sC;have ho:∀o:bO,Cv N o=M->(∀x,rn x o=M->qL x ⟨3,c,l,r,args⟩=M)->kZ f o=kZ g o:=λo ho hc=>by
    unfold kZ;split
    ·rename_i hk;have jv:o.aE=1:=by simpa using hk
     simp[Cv,jv] at ho;rw[h o.dk ho.1 ho.2 (hc _ (by simp[rn,jv]))]
    ·rfl
   rw[ho l sC.1 λx hx=>by simp[qL,hx],ho r sC.2 λx hx=>by simp[qL,hx]]
  ·have cR:(op==3)=B:=by simpa using h3
   rw[cR] at sC;simp at sC;rw[yC sC.1,yC sC.1,yC sC.2,yC sC.2]
def QO {N:Int} {f g:Int->Int}:∀{xs:bw},Mo N xs=M->(∀x,0<=x->x<N->r4 x xs=M->f x=g x)->jZ f xs=jZ g xs
 | [],_,_=>by simp[jZ]
 |p::xs,hp,h=>by
  simp only[Mo,bJ] at hp;simp only[jZ,TA hp.1 λx h0 h1 h2=>h x h0 h1 (by simp[r4,h2]),QO hp.2 λx h0 h1 h2=>h x h0 h1 (by simp[r4,h2])]
end
def Tz {N:Int} {g:Int->Int} {T:ai} (hr:∀r∈T.ar,∀c∈r.ag,f c=g c) (hp:∀p∈T.aL,pS N p=M/\∀x,0<=x->x<N->qL x p=M->f x=g x):vg f T=vg g T:=by
 unfold vg;have e1:T.ar.map (gn f)=T.ar.map (gn g):=DZ λr h=>by
  unfold gn;rw[DZ λc hc=>hr r h c hc]
 have e2:T.aL.map (nn f)=T.aL.map (nn g):=DZ λp h=>TA (hp p h).1 (hp p h).2
 rw[e1,e2]
def ZS:ZT D S L=V (jK S&&S.aE==L):=by
 unfold ZT ake;rw[apc,ak];cases jK S<;>simp
def RT {C:List J} {c:Nat} (h:c<C.length):Zw C (c:Int) ((c+1:Nat):Int)=V (C.take c++C.drop (c+1),C.take c++C.drop (c+1)):=by
 unfold Zw;rw[aF ⟨by omega,by omega,by omega⟩]
 rfl
section
variable {n:Nat} {s:ae} {m:aG} {j:Nat} {T:ai}
def aKk (hs:SG s) (hj:m.av=(j:Int)) (hT:s.ah[j]? =V T) (v:Int) (hv:jK m.bk=M) (hk:m.bk.aE=m.aE):ajs n (ad2 (ad0 v s.ah) m)=V (M,ad2 (ad0 v (s.ah.set j ⟨T.aM,T.ag++ [⟨m.aM,m.aE⟩],T.aH,T.ar,T.aL⟩)) m):=by
 have gy:=(bK.1 hT).1;have hG:=hs.bY T (bU hT);have h8:=hG.cols;unfold ajs akG;rw[Jg n v s.ah m j hj gy,ak];simp only[hT,ak,dr T.ag [(⟨m.aM,m.aE⟩:cF)] (by simp;omega),ZS,hv,hk,gQ,jd,dC _ gy]
def aKj (hs:SG s) (hj:m.av=(j:Int)) (hT:s.ah[j]? =V T) (v:Int) (gC:m.bg=2) (c:Nat) (x:cF) (hc:m.ba=(c:Int)) (hx:T.ag[c]? =V x) (hk:T.aH<=(c:Int)) (hv:jK m.bk=M) (Ad:m.bk.aE=x.aE) (hu:C1 (c:Int) T=B) (hn:100000<n):
  ajr n (ad2 (ad0 v s.ah) m)=V (M,ad2 (ad0 v (s.ah.set j (vg (fY (c:Int) (-1)) ⟨T.aM,T.ag.take c++T.ag.drop (c+1),T.aH,T.ar,T.aL⟩))) m):=by
 have gy:=(bK.1 hT).1;have fg:=(bK.1 hx).1;have hG:=hs.bY T (bU hT);have h8:=hG.cols;have l7:setAt s.ah j T=V s.ah:=by rw[dC _ gy,kO hT]
 have M3:=Qi n v s.ah m j T hj hT m.ba;rw[hc,rI hk,rI (show (c:Int)<(T.ag.length:Int) by omega)] at M3
 have ahr:=aoT n v s.ah m j T hj hT (by omega) hG.cp (by omega)
 rw[hc,hu] at ahr;have w:aV ((c:Int)+1)=((c+1:Nat):Int):=bV fg (by omega)
 unfold ajr akF;rw[Jg n v s.ah m j hj gy,ak];simp only[hT,ak,l7,hc,M3,qi,dh,az,au,fX fg,cq,hx,ZS,hv,Ad,gQ,ahr,w];rw[show ajb n T.ag (c:Int) ((c+1:Nat):Int)=V (T.ag.take c++T.ag.drop (c+1),T.ag.take c++T.ag.drop (c+1)) from RT fg,ak];simp only[dC _ gy,ak];have tok:TOK (T.ag.length:Int) ⟨T.aM,T.ag.take c++T.ag.drop (c+1),T.aH,T.ar,T.aL⟩:=⟨by rw[AQ fg];omega,hG.tok.refs,hG.tok.ref,hG.tok.CF,hG.tok.kC⟩
 rw[aoS n v _ m j _ hj (j3 gy) (.inl gC) (by rw[hc];exact ⟨by omega,by omega⟩) (T.ag.length:Int) (by omega) tok (by omega),ak,uM]
 have uD:sG (c:Int) T.ar=B/\sH (c:Int) T.aL=B:=by
  unfold C1 at hu;exact adL.1 hu
 have at2:∀y:Int,0<=y->y≠(c:Int)->ly m y=fY (c:Int) (-1) y:=λy h0 h1=>by
  unfold ly fY;rw[aF gC,hc,aC (show ¬y<0 by omega),aC h1,aF (show (-1:Int)<0 by omega)]
 have hmt:vg (ly m) ⟨T.aM,T.ag.take c++T.ag.drop (c+1),T.aH,T.ar,T.aL⟩=vg (fY (c:Int) (-1)) ⟨T.aM,T.ag.take c++T.ag.drop (c+1),T.aH,T.ar,T.aL⟩:=by
  refine Tz (N:=(T.ag.length:Int)) (λr hr y hy=> ?_) λp hp=>⟨(hG.kC p hp).1,λy h0 h1 h2=> ?_⟩
  ·refine at2 y ((hG.ref r hr).2.1 y hy).1 λe=> ?_
   have h3:=uD.1;unfold sG at h3;rw[List.any_eq_false] at h3;exact h3 r hr (by rw[<-e];exact rI hy)
  ·refine at2 y h0 λe=> ?_
   have h3:=uD.2;unfold sH at h3;rw[List.any_eq_false] at h3;exact h3 p hp (by rw[<-e];exact h2)
 rw[hmt]
def aKi (hs:SG s) (hj:m.av=(j:Int)) (hT:s.ah[j]? =V T) (v:Int) (gC:m.bg=3) (c d:Nat) (hc:m.ba=(c:Int)) (hd:m.kM=(d:Int)) (h1:c<T.ag.length) (h2:d<T.ag.length) (hk:T.aH<=(c:Int)) (yH:T.aH<=(d:Int)) (hn:100000<n):
  ajq n (ad2 (ad0 v s.ah) m)=V (M,ad2 (ad0 v (s.ah.set j (vg (fY (c:Int) (d:Int)) ⟨T.aM,xn T.ag c d,T.aH,T.ar,T.aL⟩))) m):=by
 have gy:=(bK.1 hT).1;have hG:=hs.bY T (bU hT);have h8:=hG.cols;have hk1:=hG.pY;have M3:=Qi n v s.ah m j T hj hT m.ba;rw[hc,rI hk,rI (show (c:Int)<(T.ag.length:Int) by omega)] at M3
 have aFS:=Qi n v s.ah m j T hj hT m.kM;rw[hd,rI yH,rI (show (d:Int)<(T.ag.length:Int) by omega)] at aFS
 have w:aV ((c:Int)+1)=((c+1:Nat):Int):=bV h1 (by omega)
 have sD:=AQ h1;have hins:agW (T.ag.take c++T.ag.drop (c+1)) (d:Int) [T.ag[c]]=V (xn T.ag c d,xn T.ag c d):=by
  unfold agW;rw[aF ⟨by omega,by omega,by omega,by simp,by omega,by simp⟩]
  unfold xn;rw[cX h1];rfl
 unfold ajq akE;rw[Jg n v s.ah m j hj gy,ak];simp only[hc,M3,ak,qi,dh,az,au,hd,aFS,hT,fX h1,cq,cX h1,w];rw[show ajb n T.ag (c:Int) ((c+1:Nat):Int)=V (T.ag.take c++T.ag.drop (c+1),T.ag.take c++T.ag.drop (c+1)) from RT h1,ak];rw[show aDD n (T.ag.take c++T.ag.drop (c+1)) (d:Int) [T.ag[c]]=V (xn T.ag c d,xn T.ag c d) from hins,ak];simp only[dC _ gy,ak];have tok:TOK (T.ag.length:Int) ⟨T.aM,xn T.ag c d,T.aH,T.ar,T.aL⟩:=⟨by rw[O9 h1 h2];omega,hG.tok.refs,hG.tok.ref,hG.tok.CF,hG.tok.kC⟩
 rw[aoS n v _ m j _ hj (j3 gy) (.inr gC) (by rw[hc];exact ⟨by omega,by omega⟩) (T.ag.length:Int) (by omega) tok (by omega),ak,uM]
 have at3:∀y:Int,0<=y->ly m y=fY (c:Int) (d:Int) y:=λy h0=>by
  unfold ly fY;rw[aC (show ¬m.bg=2 by omega),aF gC,hc,hd,aC (show ¬y<0 by omega),aC (show ¬(d:Int)<0 by omega)]
  by_cases e1:y=(c:Int)
  ·rw[aF e1,aF e1]
  ·rw[aC e1,aC e1];by_cases e2:(c:Int)<y/\y<=(d:Int)
   ·rw[aF e2,aF (show (c:Int)<(d:Int)/\(c:Int)<y/\y<=(d:Int) by omega)]
   ·rw[aC e2,aC (show ¬((c:Int)<(d:Int)/\(c:Int)<y/\y<=(d:Int)) by omega)]
    by_cases e3:(d:Int)<=y/\y<(c:Int)
    ·rw[aF e3,aF (show (d:Int)<(c:Int)/\(d:Int)<=y/\y<(c:Int) by omega)]
    ·rw[aC e3,aC (show ¬((d:Int)<(c:Int)/\(d:Int)<=y/\y<(c:Int)) by omega)]
 have hmt:vg (ly m) ⟨T.aM,xn T.ag c d,T.aH,T.ar,T.aL⟩=vg (fY (c:Int) (d:Int)) ⟨T.aM,xn T.ag c d,T.aH,T.ar,T.aL⟩:=Tz (N:=(T.ag.length:Int)) (λr hr y hy=>at3 y ((hG.ref r hr).2.1 y hy).1) λp hp=>⟨(hG.kC p hp).1,λy h0 h1 h2=>at3 y h0⟩
 rw[hmt]
def aKh (hs:SG s) (hj:m.av=(j:Int)) (hT:s.ah[j]? =V T) (v:Int) (c:Nat) (x:cF) (hc:m.ba=(c:Int)) (hx:T.ag[c]? =V x):
  ajp n (ad2 (ad0 v s.ah) m)=V (M,ad2 (ad0 v (s.ah.set j ⟨T.aM,T.ag.set c ⟨m.aM,x.aE⟩,T.aH,T.ar,T.aL⟩)) m):=by
 have gy:=(bK.1 hT).1;have fg:=(bK.1 hx).1;unfold ajp akD;rw[Jg n v s.ah m j hj gy,ak];have q1:¬((c:Int)<0):=by omega
 have q2:(c:Int)<(T.ag.length:Int):=by omega
 simp only[hT,ak,hc,q1,q2,aR,aO,dh,az,au,fX fg,cq,hx,dC _ fg,dC _ gy]
def aKg (hj:m.av=(j:Int)) (hT:s.ah[j]? =V T) (v:Int):
  ajo n (ad2 (ad0 v s.ah) m)=V (M,ad2 (ad0 v (s.ah.set j ⟨m.aM,T.ag,T.aH,T.ar,T.aL⟩)) m):=by
 have gy:=(bK.1 hT).1;unfold ajo akC;rw[Jg n v s.ah m j hj gy,ak];simp only[hT,ak,dC _ gy]
def aKf (hs:SG s) (hm:MB m) (v:Int) (hn:100000<n):
  ajn n (ad2 (ad0 v s.ah) m)=V (M,ad2 (ad0 v (s.ah++ [m.bt])) m):=by
 have h8:=hs.len;unfold ajn akB;rw[azL n m.bt hm.dfn.len hm.dfn.ref hm.dfn.kC (by omega),ak]
 simp only[dr s.ah [m.bt] (by simp;omega),ak]
 rw[dC _ (by simp),ak,kO (by simp)]
end
def aaN (k:Int->Int->aJ->bD->A (Bool×aJ)) (i3 t16 t17:Int) (mg:aG) (a:Nat) (ha:mg.av=(a:Int)) (v:Int) (cur:bD) (j:Nat) (ch:bw) (cs:di) (rs:bQ) (hl:rs.length<=1000) (ho:i3=(a:Int)\/uz a rs=M):∀(x:bQ) (i m:Nat) (tt:bD) (rr:ai),rs.drop i=x->x.length<m->
  IT k m i3 t16 t17 (rs.length:Int) (i:Int) (ad2 (ad0 v tt) mg) cur rr j ch cs rs=((setAt cur j (ad1 rr.aM cs rr.aH rs ch)).bind λz2=>k t16 t17 (ad2 (ad0 v z2) mg) z2)
 | [],i,m+1,tt,rr,hd,hm=>by
  let ⟨hi,hq⟩:=eI hd
  simp only[IT,VQ,hq,aR,az,au]
 |r::x,i,m+1,tt,rr,hd,hm=>by
  let ⟨g1,g2,g3,hq⟩:=dO hd
  have ih:=aaN k i3 t16 t17 mg a ha v cur j ch cs rs hl ho x (i+1) m cur (ad1 rr.aM [] rr.aH [] []) g2 (by simp at hm;omega)
  have hs:setAt rs i r=V rs:=by rw[dC _ g3,kO g1]
  simp only[IT,VQ,hq,aO,ax,fX g3,ak,cq,g1,ha,hs,bV g3 (by omega)]
  by_cases h:i3=(a:Int)
  ·have h1:(i3 !=(a:Int))=B:=by simpa using h
   simp only[h1,az,au];exact ih
  ·have h1:(i3 !=(a:Int))=M:=by simpa using h
   have h2:(r.av==(a:Int))=B:=by
    rcases ho with ho|ho
    ·exact absurd ho h
    ·unfold uz at ho;rw[j1] at ho;have:=ho r (bU g1);simpa using this
   simp only[h1,ax,h2,az,au];exact ih
 |_,_,0,_,_,_,hm=>by simp at hm
def aaM (k:aJ->bD->A (Bool×aJ)) (mg:aG) (a:Nat) (ha:mg.av=(a:Int)) (v:Int) (ts:bD) (hl:ts.length<=1000) (ht:∀T∈ts,T.ar.length<=1000) (BX:BO a ts ts.length):∀(x:bD) (i m:Nat) (tt:bD),ts.drop i=x->x.length+1000<m->
  Fg k m (ts.length:Int) (i:Int) (ad2 (ad0 v tt) mg) ts=k (ad2 (ad0 v ts) mg) ts
 | [],i,m+1,tt,hd,hm=>by
  let ⟨hi,hq⟩:=eI hd
  simp only[Fg,VO,hq,aR,az,au]
 |T::x,i,m+1,tt,hd,hm=>by
  let ⟨g1,g2,g3,hq⟩:=dO hd
  simp at hm;have hT:=ht T (bU g1);have ih:=aaM k mg a ha v ts hl ht BX x (i+1) m ts g2 (by omega)
  have inner:=aaN (VP (Fg k m) m) (i:Int) (ts.length:Int) (i:Int) mg a ha v ts i T.aL T.ag T.ar hT (by
   by_cases h:i=a
   ·exact .inl (by omega)
   ·exact .inr (BX i T g3 h g1)) T.ar 0 m ts (ad1 T.aM [] T.aH [] []) rfl (by omega)
  have hs:setAt ts i T=V ts:=by rw[dC _ g3,kO g1]
  simp only[Fg,VO,hq,aO,ax,fX g3,ak,cq,g1];refine inner.trans ?_;show (setAt ts i T).bind _=_;rw[hs,ak];simp only[VP,bV g3 (by omega:ts.length<4294967296)]
  exact ih
 |_,_,0,_,_,hm=>by simp at hm
def aaL (k:Int->Int->aJ->bD->A (Bool×aJ)) (t74 t75:Int) (mg:aG) (a:Nat) (ha:mg.av=(a:Int)) (ha8:a<=1000) (v:Int) (cs:di) (ch:bw) (cur:bD) (j:Nat) (rs:bQ) (hl:rs.length<=1000) (hr:∀r∈rs,nr r.av):∀(x:bQ) (i m:Nat) (tt:bD) (b8 rr:ai),rs.drop i=x->x.length<m->
  Ff k m t74 t75 (rs.length:Int) (i:Int) (ad2 (ad0 v tt) mg) b8 cs ch cur rr j (fT (jR a) rs i)=((setAt cur j (ad1 rr.aM cs rr.aH (rs.map (jR a)) ch)).bind λz2=>k t74 t75 (ad2 (ad0 v z2) mg) z2)
 | [],i,m+1,tt,b8,rr,hd,hm=>by
  let ⟨hi,hq⟩:=eI hd
  simp only[Ff,N0,hq,aR,az,au,tS _ _ hi]
 |r::x,i,m+1,tt,b8,rr,hd,hm=>by
  let ⟨g1,g2,g3,hq⟩:=dO hd
  have jf:=hr r (bU g1);have ih:=aaL k t74 t75 mg a ha ha8 v cs ch cur j rs hl hr x (i+1) m cur (ad1 b8.aM cs b8.aH (fT (jR a) rs (i+1)) ch) (ad1 rr.aM [] rr.aH [] []) g2 (by simp at hm;omega)
  have hml:i<(fT (jR a) rs i).length:=by rw[lP];exact g3
  have hs:setAt (fT (jR a) rs i) i r=V (fT (jR a) rs i):=by rw[dC _ hml,kO (nj _ g1)]
  have hs2:(fT (jR a) rs i).set i r=fT (jR a) rs i:=kO (nj _ g1);have e:=tR (jR a) g1;by_cases h:(a:Int)<r.av
  ·have hd:jR (a:Int) r=bq.mk r.ag (r.av-1):=by
    unfold jR fY;rw[aF (by omega),aF h]
   rw[hd] at e;simp only[Ff,N0,hq,aO,ax,fX hml,ak,cq,nj _ g1,ha,h,hs,hs2,cT (x:=r.av-1) (by have:=jf.1;omega) (by have:=jf.2;omega),dC _ hml,e,bV g3 (by omega)]
   exact ih
  ·have hd:jR (a:Int) r=r:=by
    unfold jR fY;rw[aF (by omega),aC h]
   rw[hd] at e;have e2:fT (jR a) rs i=fT (jR a) rs (i+1):=by rw[<-e,kO (nj _ g1)]
   simp only[Ff,N0,hq,aO,ax,fX hml,ak,cq,nj _ g1,ha,h,aR,az,au,hs,bV g3 (by omega)]
   rw[e2];exact ih
 |_,_,0,_,_,_,_,hm=>by simp at hm
def aaK (k:aJ->bD->A (Bool×aJ)) (mg:aG) (a:Nat) (ha:mg.av=(a:Int)) (ha8:a<=1000) (v:Int) (ts:bD) (hl:ts.length<=1000) (ht:∀T∈ts,T.ar.length<=1000/\∀r∈T.ar,nr r.av):∀(x:bD) (i m:Nat) (tt:bD),ts.drop i=x->x.length+1000<m->
  Fe k m (ts.length:Int) (i:Int) (ad2 (ad0 v tt) mg) (fT (nC a) ts i)=k (ad2 (ad0 v (ts.map (nC a))) mg) (ts.map (nC a))
 | [],i,m+1,tt,hd,hm=>by
  let ⟨hi,hq⟩:=eI hd
  simp only[Fe,VM,hq,aR,az,au,tS _ _ hi]
 |T::x,i,m+1,tt,hd,hm=>by
  let ⟨g1,g2,g3,hq⟩:=dO hd
  simp at hm;have hT:=ht T (bU g1);have ih:=aaK k mg a ha ha8 v ts hl ht x (i+1) m (fT (nC a) ts (i+1)) g2 (by omega)
  have hml:i<(fT (nC a) ts i).length:=by rw[lP];exact g3
  have inner:=aaL (VN (Fe k m) m) (ts.length:Int) (i:Int) mg a ha ha8 v T.ag T.aL (fT (nC a) ts i) i T.ar hT.1 hT.2 T.ar 0 m (fT (nC a) ts i) T (ad1 T.aM [] T.aH [] []) rfl (by omega)
  rw[za] at inner;have e:(fT (nC a) ts i).set i (ad1 T.aM T.ag T.aH (T.ar.map (jR a)) T.aL)=fT (nC a) ts (i+1):=tR (nC a) g1;simp only[Fe,VM,hq,aO,ax,fX hml,ak,cq,nj _ g1];refine inner.trans ?_;show (setAt _ i (ad1 T.aM T.ag T.aH (T.ar.map (jR a)) T.aL)).bind _=_;rw[dC _ hml,e,ak];simp only[VN,bV g3 (by omega:ts.length<4294967296)]
  exact ih
 |_,_,0,_,_,hm=>by simp at hm
def aKe {n:Nat} {s:ae} {m:aG} {j:Nat} (hs:SG s) (hj:m.av=(j:Int)) (gy:j<s.ah.length) (v:Int) (hr:∀i g8,i≠j->s.ah[i]? =V g8->∀r∈g8.ar,r.av≠(j:Int)) (hn:100000<n):
  ajm n (ad2 (ad0 v s.ah) m)=V (M,ad2 (ad0 v ((s.ah.take j++s.ah.drop (j+1)).map (nC (j:Int)))) m):=by
 have h8:=hs.len;have BX:BO j s.ah s.ah.length:=λq g8 _ cR hU=>by
  unfold uz;rw[j1];intro r jf;have:=hr q g8 cR hU r jf;simpa using this
 have sD:=AQ gy;unfold ajm akz;have e1:=aaM (VL n) m j hj v s.ah (by omega) (λT hT=>by have:=(hs.bY T hT).refs;omega) BX s.ah 0 n s.ah rfl (by omega)
 refine Eq.trans e1 ?_;unfold VL;have w:aV ((j:Int)+1)=((j+1:Nat):Int):=bV gy (by omega)
 simp only[hj,w];rw[show aDC n s.ah (j:Int) ((j+1:Nat):Int)=V (s.ah.take j++s.ah.drop (j+1),s.ah.take j++s.ah.drop (j+1)) from RT gy,ak];have MQ:∀T∈s.ah.take j++s.ah.drop (j+1),T∈s.ah:=λT hT=>by
  rcases eV.1 hT with h|h
  ·exact og h
  ·exact oG h
 have e2:=aaK (akA n) m j hj (by omega) v (s.ah.take j++s.ah.drop (j+1)) (by omega) (λT hT=>⟨by have:=(hs.bY T (MQ T hT)).refs;omega,λr jf=>by let ⟨_,_,r1,r2⟩:=(hs.bY T (MQ T hT)).ref r jf;exact ⟨by omega,by omega⟩⟩) (s.ah.take j++s.ah.drop (j+1)) 0 n (s.ah.take j++s.ah.drop (j+1)) rfl (by omega)
 rw[za] at e2;exact e2
end
def w01:aV (0+1)=1:=cT (by omega) (by omega)
def w10:aV (1-1)=0:=cT (by omega) (by omega)
def w11:aV (1+1)=2:=cT (by omega) (by omega)
def w20:aV (2-0)=2:=cT (by omega) (by omega)
def w1_0:aV (1-0)=1:=cT (by omega) (by omega)
def asc (x y:J):eh [x,y].length 0=V 0:=rfl
def aDd (x y:J):eh [x,y].length 1=V 1:=rfl
def bl10 (x:J):eh [x].length 0=V 0:=rfl
def aDw (hn:10<D) (x:bp):Sa D [x] 0 1=V [x]:=by
 obtain ⟨m,rfl⟩:∃q,D=q+3:=⟨D-3,by omega⟩
 simp only[Sa,U9,w01,uI,Jj,show ¬((1:Int)<1) by omega,aR,az,au]
def aDv (hn:100<D) (x y:bp) (hx:x.length<=10) (hy:y.length<=10):Sa D [x,y] 0 2=V (if ee y x<0 then [y,x] else [x,y]):=by
 obtain ⟨m,rfl⟩:∃q,D=q+4:=⟨D-4,by omega⟩
 have tail:∀l:bn,zS (uI (m+3)) (m+3) 0 2 1 l=V l:=λl=>by
  simp only[zS,w11,uI,Jj,show ¬((2:Int)<2) by omega,aR,az,au]
 have e:Sa (m+4) [x,y] 0 2=IB (zS (uI (m+3)) (m+3)) (m+3) 0 2 1 1 [x,y]:=by
  simp only[Sa,U9,w01];show Jj (uI (m+3)) (m+3) 0 2 1 [x,y]=_;simp only[Jj,show ((1:Int)<2) by omega,aO,ax]
 rw[e];show Jk (zS (uI (m+3)) (m+3)) (IB (zS (uI (m+3)) (m+3)) (m+2)) (m+2) 0 2 1 1 [x,y]=_;simp only[Jk,show ((0:Int)<1) by omega,aO,ax,aDd,w10,asc,ak,cq,wm,uo,Jf (m+2) y x (by omega) (by omega)]
 by_cases h:ee y x<0
 ·have s1:setAt [x,y] 1 x=V [x,x]:=rfl;have s2:setAt [x,x] 0 y=V [y,x]:=rfl;simp only[h,aO,ax,s1,ak,wm,s2];show Jk (zS (uI (m+3)) (m+3)) (IB (zS (uI (m+3)) (m+3)) (m+1)) (m+1) 0 2 1 0 [y,x]=_;simp only[Jk,show ¬((0:Int)<0) by omega,aR,az,au]
  exact tail _
 ·simp only[h,aR,az,au];exact tail _
def aQu:ZR D (U' .u64 (((1:Nat)):Int))=V 1:=by kernel_rfl
def aQt:ZR D (U' .u64 (((2:Nat)):Int))=V 2:=by kernel_rfl
def BI:iP D D=V ():=by unfold iP;rw[aF rfl]
def aDB (hn:100<D) (x:bp) (hx:x.length<=10):Sd D [x]=V [x]:=by
 obtain ⟨m,rfl⟩:∃q,D=q+4:=⟨D-4,by omega⟩
 have aCi:ZP (m+4) [x]=V [x]:=by
  unfold ZP Vg;show (app [] [x]).bind _=_;rw[dr _ _ (by simp)];rfl
 have aCg:ZN (m+4) [x] 0 1 1=V [x]:=by
  show Jl (ND (m+3)) (m+3) 0 1 1 M M [x]=_;simp only[Jl,w1_0,show ¬((12:Int)<1) by omega,aR,gB,ax,aDw (m+3) (by omega),ak,BI]
 have aCh:ZO (m+4) [x]=V [x]:=by
  unfold ZO Vf;show (ZR (m+4) (U' .u64 (((1:Nat)):Int))).bind _=_;rw[aQu,ak];show (ZN (m+4) [x] 0 1 1).bind _=_;rw[aCg,ak,BI];rfl
 unfold Sd Vk;rw[aCi,ak,aCh,ak,BI,ak];show uJ (qO (m+4)) (zN (qO (m+4)) (m+3)) (m+3) 1 0 [x] []=_;simp only[uJ,show ((0:Int)<1) by omega,aO,ax,bl10,ak,cq,wm,gQ,dr [] x (by simp;omega),j0,dr [] [x] (by simp),w01]
 show uJ (qO (m+4)) (zN (qO (m+4)) (m+2)) (m+2) 1 1 [x] [x]=_;simp only[uJ,show ¬((1:Int)<1) by omega,aR,az,au,qO]
def aiZ (hn:200<D) (x y:bp) (hx:x.length<=10) (hy:y.length<=10) (cR:ee x y≠0) (hne2:ee y x≠0):Sd D [x,y]=V (if ee y x<0 then [y,x] else [x,y]):=by
 obtain ⟨m,rfl⟩:∃q,D=q+4:=⟨D-4,by omega⟩
 have aCi:ZP (m+4) [x,y]=V [x,y]:=by
  unfold ZP Vg;show (app [] [x,y]).bind _=_;rw[dr _ _ (by simp)];rfl
 have aCg:ZN (m+4) [x,y] 0 2 2=V (if ee y x<0 then [y,x] else [x,y]):=by
  show Jl (ND (m+3)) (m+3) 0 2 2 M M [x,y]=_;simp only[Jl,w20,show ¬((12:Int)<2) by omega,aR,gB,ax,aDv (m+3) (by omega) x y hx hy,ak]
  split<;>rfl
 have aCh:ZO (m+4) [x,y]=V (if ee y x<0 then [y,x] else [x,y]):=by
  unfold ZO Vf;show (ZR (m+4) (U' .u64 (((2:Nat)):Int))).bind _=_;rw[aQt,ak];show (ZN (m+4) [x,y] 0 2 2).bind _=_;rw[aCg,ak];split<;>rfl
 have fin:∀p q:bp,p.length<=10->q.length<=10->ee p q≠0->zN (qO (m+4)) (m+4) 2 0 [p,q] []=V [p,q]:=λp q hp hq h=>by
  show uJ (qO (m+4)) (zN (qO (m+4)) (m+3)) (m+3) 2 0 [p,q] []=_;simp only[uJ,show ((0:Int)<2) by omega,aO,ax,asc,ak,cq,wm,gQ,dr [] p (by simp;omega),j0,dr [] [p] (by simp),w01]
  show uJ (qO (m+4)) (zN (qO (m+4)) (m+2)) (m+2) 2 1 [p,q] [p]=_;have hn:(ee p q !=0)=M:=by simpa using h
  simp only[uJ,show ((1:Int)<2) by omega,aO,ax,aDd,ak,cq,wm,uo,show ((1:Int)==0)=B from rfl,az,au,w10,asc,Jf (m+2) p q (by omega) (by omega),hn,dr [] q (by simp;omega),j0,dr [p] [q] (by simp),wC,w11]
  show uJ (qO (m+4)) (zN (qO (m+4)) (m+1)) (m+1) 2 2 [p,q] [p,q]=_;simp only[uJ,show ¬((2:Int)<2) by omega,aR,az,au,qO]
 unfold Sd Vk;rw[aCi,ak,aCh,ak];split
 ·rw[show iP [y,x].length [x,y].length=V () from BI 2,ak];exact fin y x hy hx hne2
 ·rw[show iP [x,y].length [x,y].length=V () from BI 2,ak];exact fin x y hx hy cR
def DB {a b:aT}:yj a b=M↔a=b:=by
 obtain ⟨k,i,t⟩:=a;obtain ⟨k',i',t'⟩:=b;simp[yj]
def Rk:ee [S] [ad]=mn S ad:=by
 unfold ee;by_cases h:mn S ad=0
 ·rw[aF h,h];rfl
 ·rw[aC h]
def hI (l:gq):Prop:=(∃a,l= [⟨a,a⟩])\/∃a b,yj a b=B/\l= [⟨a,b⟩,⟨b,a⟩]
def aaJ (k:aJ->bn->bn->A Bool) (g:aJ) (T:ai) (c:Nat) (x:cF) (hx:T.ag[c]? =V x) (l:gq) (hl:l.length<=16) (hp:∀p∈l,jK p.f0=M/\p.f0.aE=x.aE):∀(y:gq) (i m:Nat) (yQ yP:bn),l.drop i=y->y.length<m->yQ.length+y.length<=100->yP.length+y.length<=100->
  IS k m g T (c:Int) l (l.length:Int) (i:Int) yQ yP=k g (yQ++y.map λp=> [p.f0]) (yP++y.map λp=> [p.f1])
 | [],i,m+1,yQ,yP,hd,hm,_,_=>by
  obtain ⟨hi,hq⟩:=eI hd
  simp[IS,VK,hq]
 |p::y,i,m+1,yQ,yP,hd,hm,h1,h2=>by
  obtain ⟨g1,g2,g3,hq⟩:=dO hd
  simp at hm h1 h2;obtain ⟨p1,p2⟩:=hp p (bU g1);have ih:=aaJ k g T c x hx l hl hp y (i+1) m (yQ++ [[p.f0]]) (yP++ [[p.f1]]) g2 (by omega) (by simp;omega) (by simp;omega)
  simp only[IS,VK,hq,aO,ax,bA,g1,ak,hx,ZS,p1,p2,gQ,qi,dh,az,au,dr yQ [[p.f0]] (by simp;omega),dr yP [[p.f1]] (by simp;omega),bV g3 (by omega),ih]
  simp
 |_,_,0,_,_,_,hm,_,_=>by simp at hm
def JT {k:Int} (h:xl k l=M):∀p∈l,jK p.f0=M/\p.f0.aE=k:=λp hp=>by
 unfold xl at h;simp only[bJ,j1] at h;have:=h.2.2 p hp;exact ⟨this.1,by simpa using this.2.1⟩
def atd (hn:10<D) (a:aT):xA (pP D) D 1 0 [[a]] [[a]]=V M:=by
 obtain ⟨m,rfl⟩:∃q,D=q+3:=⟨D-3,by omega⟩
 show uK (pP (m+3)) (xA (pP (m+3)) (m+2)) (m+2) 1 0 [[a]] [[a]]=_;have e:(a.aE==a.aE&&(a.dj==a.dj&&(U (a.cM=a.cM)&&M)))=M:=DB.2 rfl;simp only[uK,show ((0:Int)<1) by omega,aO,ax,bl10,ak,cq,wm,show idx [a] 0=V a from rfl,gQ,qi,dh,az,au,w01]
 show uK (pP (m+3)) (xA (pP (m+3)) (m+1)) (m+1) 1 1 [[a]] [[a]]=_;simp only[uK,show ¬((1:Int)<1) by omega,aR,az,au,pP]
def Uz (hn:10<D) (a b:aT):xA (pP D) D 2 0 [[a],[b]] [[a],[b]]=V M:=by
 obtain ⟨m,rfl⟩:∃q,D=q+3:=⟨D-3,by omega⟩
 have e:∀a:aT,(a.aE==a.aE&&(a.dj==a.dj&&(U (a.cM=a.cM)&&M)))=M:=λa=>DB.2 rfl
 show uK (pP (m+3)) (xA (pP (m+3)) (m+2)) (m+2) 2 0 [[a],[b]] [[a],[b]]=_;simp only[uK,show ((0:Int)<2) by omega,aO,ax,asc,ak,cq,wm,show idx [a] 0=V a from rfl,gQ,qi,dh,az,au,w01]
 show uK (pP (m+3)) (xA (pP (m+3)) (m+1)) (m+1) 2 1 [[a],[b]] [[a],[b]]=_;simp only[uK,show ((1:Int)<2) by omega,aO,ax,aDd,ak,cq,wm,uo,show idx [b] 0=V b from rfl,gQ,qi,dh,az,au,w11]
 show uK (pP (m+3)) (xA (pP (m+3)) m) m 2 2 [[a],[b]] [[a],[b]]=_;simp only[uK,show ¬((2:Int)<2) by omega,aR,az,au,pP]
def aAb (hn:1000<D) (g:aJ) (h:hI g.fm.cA):NZ D g (g.fm.cA.map λp=> [p.f0]) (g.fm.cA.map λp=> [p.f1])=V M:=by
 unfold NZ;rcases h with ⟨a,h⟩|⟨a,b,cR,h⟩
 ·rw[h];simp only[ki,xf,aDB D (by omega) [a] (by simp),ak]
  exact atd D (by omega) a
 ·rw[h];have hab:a≠b:=λe=>by rw[DB.2 e] at cR;cases cR
  have n1:ee [a] [b]≠0:=by rw[Rk];exact λe=>hab (HI e)
  have n2:ee [b] [a]≠0:=by rw[Rk];exact λe=>hab (HI e).symm
  simp only[ki,xf,aiZ D (by omega) [a] [b] (by simp) (by simp) n1 n2,aiZ D (by omega) [b] [a] (by simp) (by simp) n2 n1,ak]
  have hneg:=adU a b;simp only[Rk] at n1 n2 ⊢;by_cases dz:mn b a<0
  ·rw[aF dz,aC (show ¬mn a b<0 by omega)]
   simp only[iU,DA,jJ,az,au];exact Uz D (by omega) b a
  ·rw[aC dz,aF (show mn a b<0 by omega)]
   simp only[iU,DA,jJ,az,au];exact Uz D (by omega) a b
def aKd {n:Nat} {s:ae} {m:aG} {j:Nat} {T:ai} (hs:SG s) (hj:m.av=(j:Int)) (hT:s.ah[j]? =V T) (v:Int) (c:Nat) (x:cF) (hc:m.ba=(c:Int)) (hx:T.ag[c]? =V x) (hk:T.aH<=(c:Int)) (hp:xl x.aE m.cA=M) (hu:C1 (c:Int) T=B) (hM:hI m.cA) (hn:100000<n):
  ajl n (ad2 (ad0 v s.ah) m)=V M:=by
 have gy:=(bK.1 hT).1;have fg:=(bK.1 hx).1;have hG:=hs.bY T (bU hT);have M3:=Qi n v s.ah m j T hj hT m.ba;rw[hc,rI hk,rI (show (c:Int)<(T.ag.length:Int) by omega)] at M3
 have ahr:=aoT n v s.ah m j T hj hT (by omega) hG.cp (by omega)
 rw[hc,hu] at ahr;have hl:1<=m.cA.length/\m.cA.length<=16:=by
  unfold xl at hp;simp only[bJ,j2] at hp;exact ⟨hp.1,hp.2.1⟩
 unfold ajl aky;rw[Sg n v s.ah m j T hj hT,ak];have q1:¬((m.cA.length:Int)<1):=by omega
 have q2:¬((16:Int)<(m.cA.length:Int)):=by omega
 simp only[hc,M3,ak,qi,dh,az,au,ahr,q1,q2,aR];have e:=aaJ (NZ n) (ad2 (ad0 v s.ah) m) T c x hx m.cA hl.2 (JT hp) m.cA 0 n [] [] rfl (by omega) (by simp;omega) (by simp;omega)
 refine Eq.trans e ?_;simp only[j0];exact aAb n (by omega) (ad2 (ad0 v s.ah) m) hM
def aQp {n:Nat} {s t:ae} {m:aG} (hs:SG s) (hm:MB m) (hb:r7 m=M) (h:mj s m t) (hM:m.bg=8->hI m.cA) (hn:100000<n):F42 n s m=V (t,M):=by
 have hv0:=hs.v0;have ED:=hs.v1;have h8:=hs.len;have h41:F41 n s=V s:=azP n s (by omega) (λT hT=>(hs.bY T hT).cp) (by omega)
 have w:aV (s.aA+1)=s.aA+1:=cT (by omega) (by omega)
 have h18:1<=m.bg/\m.bg<=8:=by
  unfold r7 at hb;simp only[bJ,j2] at hb;exact ⟨hb.1,hb.2.1⟩
 have h97:F97 n=V [148,149,150,151,152,153,154,155]:=rfl;have wop:aV (m.bg-1)=m.bg-1:=cT (by omega) (by omega)
 have front:(m.bg=6\/∃j:Nat,m.av=(j:Int)/\j<s.ah.length)->F42 n s m=xI n (m.bg-1) s m (ad0 0 []) [148,149,150,151,152,153,154,155]:=λht=>by
  unfold F42 aut;rw[h97,ak];have q1:¬(m.bg<1):=by omega
  have q2:(m.bg-1)<(([148,149,150,151,152,153,154,155]:List Nat).length:Int):=by simp;omega
  simp only[q1,aR,az,au,wop,q2,aO,dh,aQa n m hb,ak];rcases ht with h6|⟨j,hj,gy⟩
  ·simp[h6]
  ·by_cases h6:m.bg=6
   ·simp[h6]
   ·have q3:(m.bg !=6)=M:=by simpa using h6
    have q4:¬(m.av<0):=by omega
    have q5:m.av<(s.ah.length:Int):=by omega
    simp only[q3,ax,q4,aR,az,au,q5,aO,dh]
 have ph:∀(o:Nat) (t:ae),m.bg-1=(o:Int)->o<8->True->True:=λ_ _ _ _ _=>trivial
 cases h with
 |asx j T gC hj hT hv hk=>
  have gy:=(bK.1 hT).1;rw[front (.inr ⟨j,hj,gy⟩)];unfold xI;rw[h41,ak,gC];show (ajs n (ad2 (ad0 (aV (s.aA+1)) s.ah) m)).bind _=_;rw[w,aKk hs hj hT (s.aA+1) hv hk];rfl
 |abT j c T x gC hj hT hc hx hk hv Ad hu=>
  have gy:=(bK.1 hT).1;rw[front (.inr ⟨j,hj,gy⟩)];unfold xI;rw[h41,ak,gC];show (ajr n (ad2 (ad0 (aV (s.aA+1)) s.ah) m)).bind _=_;rw[w,aKj hs hj hT (s.aA+1) gC c x hc hx hk hv Ad hu (by omega)]
  rfl
 |move j c d T gC hj hT hc hd h1 h2 hk yH=>
  have gy:=(bK.1 hT).1;rw[front (.inr ⟨j,hj,gy⟩)];unfold xI;rw[h41,ak,gC];show (ajq n (ad2 (ad0 (aV (s.aA+1)) s.ah) m)).bind _=_;rw[w,aKi hs hj hT (s.aA+1) gC c d hc hd h1 h2 hk yH (by omega)]
  rfl
 |aqg j c T x gC hj hT hc hx=>
  have gy:=(bK.1 hT).1;rw[front (.inr ⟨j,hj,gy⟩)];unfold xI;rw[h41,ak,gC];show (ajp n (ad2 (ad0 (aV (s.aA+1)) s.ah) m)).bind _=_;rw[w,aKh hs hj hT (s.aA+1) c x hc hx];rfl
 |aqf j T gC hj hT=>
  have gy:=(bK.1 hT).1;rw[front (.inr ⟨j,hj,gy⟩)];unfold xI;rw[h41,ak,gC];show (ajo n (ad2 (ad0 (aV (s.aA+1)) s.ah) m)).bind _=_;rw[w,aKg hj hT (s.aA+1)];rfl
 |asw gC=>
  rw[front (.inl gC)];unfold xI;rw[h41,ak,gC];show (ajn n (ad2 (ad0 (aV (s.aA+1)) s.ah) m)).bind _=_;rw[w,aKf hs hm (s.aA+1) (by omega)]
  rfl
 |abS j T gC hj hT hr=>
  have gy:=(bK.1 hT).1;rw[front (.inr ⟨j,hj,gy⟩)];unfold xI;rw[h41,ak,gC];show (ajm n (ad2 (ad0 (aV (s.aA+1)) s.ah) m)).bind _=_;rw[w,aKe hs hj gy (s.aA+1) hr (by omega)]
  rfl
 |Eh j c T x gC hj hT hc hx hk hp hu=>
  have gy:=(bK.1 hT).1;rw[front (.inr ⟨j,hj,gy⟩)];unfold xI;rw[h41,ak,gC];show (ajl n (ad2 (ad0 (aV (s.aA+1)) s.ah) m)).bind _=_;rw[w,aKd hs hj hT (s.aA+1) c x hc hx hk hp hu (hM gC) (by omega)]
  rfl
def dQ:ae->cH->gZ->Prop
 |_,[],[]=>True
 |s,m::ms,t::ts=>r7 m=M/\mj s m t/\gm t=0/\dQ t ms ts
 |_,_,_=>False
def dQ.len:∀{s:ae} {ms:cH} {ts:gZ},dQ s ms ts->ts.length=ms.length
 |_,[],[],_=>rfl
 |_,_::_,_::_,h=>by simp[dQ.len h.2.2.2]
 |_,[],_::_,h=>by cases h
 |_,_::_,[],h=>by cases h
def dQ.kC:∀{s:ae} {ms:cH} {ts:gZ},dQ s ms ts->∀t∈ts,gm t=0
 |_,[],[],_,t,ht=>by cases ht
 |_,_::_,_::_,h,t,ht=>by
  rcases da.1 ht with rfl|ht
  ·exact h.2.2.1
  ·exact dQ.kC h.2.2.2 t ht
 |_,[],_::_,h,_,_=>by cases h
 |_,_::_,[],h,_,_=>by cases h
def mj.ver {s t:ae} {m:aG} (h:mj s m t):t.aA=s.aA+1:=by cases h<;>rfl
def G8 {l:List J} {x:J} (h:l.getLast? =V x):l≠ []/\l[l.length-1]? =V x:=by
 cases l with
 |nil=>cases h
 |cons a l=>exact ⟨by simp,by rw[<-alU];exact h⟩
def aiD (n0:Nat) (ms:cH) (hl:ms.length<=8) (hm:∀m∈ms,MB m):∀(x:cH) (i k:Nat) (b:gZ) (cur:ae),ms.drop i=x->x.length+1700000<k->k<4294967296->b.length<=100+i->i<=8->b.getLast? =V cur->gm cur=0->
  Ok (Dq (Qu n0) k (ms.length:Int) (i:Int) ms b) λr=>r.2=0->∃ts,r.1=b++ts/\dQ cur x ts
 | [],i,k+1,b,cur,hd,hk,jv,hb,hi8,hc,hs=>by
  obtain ⟨hi,hq⟩:=eI hd
  simp only[Dq,Qv,hq,aR,az,au,Qu];exact Ok.pure λ_=>⟨[],by simp,trivial⟩
 |mg::x,i,k+1,b,cur,hd,hk,jv,hb,hi8,hc,hs=>by
  obtain ⟨g1,g2,g3,hq⟩:=dO hd
  simp at hk;obtain ⟨cR,De⟩:=G8 hc;have rW:0<b.length:=HE.2 cR;have w:aV ((b.length:Int)-1)=((b.length-1:Nat):Int):=by rw[cT (by omega) (by omega)];omega
  simp only[Dq,Qv,hq,aO,ax,fX g3,ak,cq,g1,w,fX (show b.length-1<b.length by omega),De]
  refine Ok.bind (aQb k (by omega) (by omega) cur (.of hs) mg (hm mg (bU g1))) λr hr=> ?_
  refine Ok.ite (λ_=>Ok.pure λh=>by cases h) λh2=> ?_
  have h2:r.2=M:=by simpa using h2
  obtain ⟨q1,q2,q3⟩:=hr h2;rw[dr b [r.1] (by simp;omega),ak,bV g3 (by omega)]
  refine (aiD n0 ms hl hm x (i+1) k (b++ [r.1]) r.1 g2 (by omega) (by omega) (by simp;omega) (by omega) (by simp) q3).mono λr' jf h=> ?_
  obtain ⟨ts,e1,e2⟩:=jf h;exact ⟨r.1::ts,by rw[e1];simp,q1,q2,q3,e2⟩
 |_,_,0,_,_,_,hk,_,_,_,_,_=>by simp at hk
def azQ (hn:1800000<D) (fP:D<4294967296) (s:ae) (hs:gm s=0) (ms:cH) (hm:∀m∈ms,MB m) (hl:ms.length<=100000):Ok (F40 D s ms) λr=>r.2=0->ms.length<=8/\s.aA+(ms.length:Int)<=1000/\∃ts,r.1=s::ts/\dQ s ms ts:=by
 have hG:=SG.of hs;have hv0:=hG.v0;have ED:=hG.v1;unfold F40 ade;rw[Jd D s (λT hT=>(hG.bY T hT).yq) (by omega) fP,ak,hs]
 refine Ok.ite (λh=>by cases h) λ_=>Ok.ite (λ_=>Ok.pure λh=>by cases h) λh8=>Ok.ite (λ_=>Ok.pure λh=>by cases h) λhv=> ?_
 have h8:=Oj h8;have hv:=Oj hv;rw[cT (by omega) (by omega)] at hv
 have h:=aiD D ms (by omega) hm ms 0 D [s] s rfl (by omega) fP (by simp) (by omega) rfl hs
 exact Ok.mono h λr hr h0=>⟨by omega,by omega,hr h0⟩
def aiM (n0:Nat) (ms:cH) (hl:ms.length<=8) (hm:∀m∈ms,MB m/\(m.bg=8->hI m.cA)):∀(x:cH) (i k:Nat) (b ts:gZ) (cur:ae),ms.drop i=x->x.length+1700000<k->k<4294967296->b.length<=100+i->i<=8->b.getLast? =V cur->gm cur=0->dQ cur x ts->
  Qh (adH n0) k ms (ms.length:Int) (i:Int) b=V (b++ts,0)
 | [],i,k+1,b,[],cur,hd,hk,jv,hb,hi8,hc,hs,tp=>by
  obtain ⟨hi,hq⟩:=eI hd
  simp only[Qh,adI,hq,aR,az,au,adH,rG]
 |mg::x,i,k+1,b,t::ts,cur,hd,hk,jv,hb,hi8,hc,hs,tp=>by
  obtain ⟨g1,g2,g3,hq⟩:=dO hd
  simp at hk;obtain ⟨cR,De⟩:=G8 hc;have rW:0<b.length:=HE.2 cR;have w:aV ((b.length:Int)-1)=((b.length-1:Nat):Int):=by rw[cT (by omega) (by omega)];omega
  obtain ⟨c1,c2,c3,c4⟩:=tp;obtain ⟨m1,m2⟩:=hm mg (bU g1);have h42:=aQp (n:=k) (SG.of hs) m1 c1 c2 m2 (by omega)
  have F4:=UG k t (λT hT=>((SG.of c3).bY T hT).yq) (by omega) (by omega)
  rw[c3] at F4;simp only[Qh,adI,hq,aO,ax,bA,fX (show b.length-1<b.length by omega),ak,cq,g1,w,De,h42,dh,az,au,F4,jJ,dr b [t] (by simp;omega),bV g3 (by omega)]
  rw[aiM n0 ms hl hm x (i+1) k (b++ [t]) ts t g2 (by omega) (by omega) (by simp;omega) (by omega) (by simp) c3 c4]
  simp
 |_,_,0,_,_,_,_,hk,_,_,_,_,_,_=>by simp at hk
 | [],_,_+1,_,_::_,_,_,_,_,_,_,_,_,h=>by cases h
 |_::_,_,_+1,_,[],_,_,_,_,_,_,_,_,h=>by cases h
def aQx (hn:1800000<D) (fP:D<4294967296) (s:ae) (hs:gm s=0) (ms:cH) (hm:∀m∈ms,MB m/\(m.bg=8->hI m.cA)) (hl:ms.length<=8) (hv:s.aA+(ms.length:Int)<=1000) (ts:gZ) (hc:dQ s ms ts):F14 D s ms=V (s::ts,0):=by
 have hG:=SG.of hs;have hv0:=hG.v0;have h8:=hG.len;have F4:=UG D s (λT hT=>(hG.bY T hT).yq) (by omega) (by omega)
 rw[hs] at F4;unfold F14 auJ;have q1:¬((8:Int)<(ms.length:Int)):=by omega
 have w:aV (s.aA+(ms.length:Int))=s.aA+(ms.length:Int):=cT (by omega) (by omega)
 have q2:¬((1000:Int)<s.aA+(ms.length:Int)):=by omega
 simp only[F4,ak,jJ,az,au,q1,aR,w,q2,azP D s (by omega) (λT hT=>(hG.bY T hT).cp) (by omega)]
 exact aiM D ms hl hm ms 0 D [s] ts s rfl (by omega) fP (by simp) (by omega) rfl hs hc
def aDF (h:r7 F=M):ZX D F=V M:=by
 have key:∀q:aG,E4 q=M->se D q=V M:=λq hq=>by
  unfold E4 at hq;simp only[bJ,sR,j2] at hq;obtain ⟨a1,a2,a3,a4,a5,a6,a7,a8,a9,a10,a11,a12⟩:=hq;have a1':((q.bk.aE==0)&&((q.bk.dj==0)&&((U (q.bk.cM=vp))&&M)))=M:=a1;unfold se;simp only[a1',a2,a3,a4,a5,a6,a7,a8,a9,a10,a11,a12];rfl
 unfold r7 at h;simp only[bJ,j2] at h;obtain ⟨h1,h8,hb⟩:=h;have hb:=key _ hb;unfold ZX Wd;unfold SJ at hb;rcases (by omega:F.bg=1\/F.bg=2\/F.bg=3\/F.bg=4\/F.bg=5\/F.bg=6\/F.bg=7\/F.bg=8) with e|e|e|e|e|e|e|e<;>(simp[e,zv,zT] at hb;simp[e,hb])
def aQc (hn:1700000<D) (fP:D<4294967296) (s:ae) (hs:SG s) (m:aG) (hm:MB m) {t:ae} (hb:r7 m=M) (h:mj s m t) (ht:gm t=0):F95 D s m=V (t,M):=by
 have hl8:=hs.len;have hv0:=hs.v0;have ED:=hs.v1;unfold F95 UL;rw[aDF D m hb,ak,dh,aC HF];refine (R9 (Ck D) s.ah (by omega) (λT hT=>(hs.bY T hT).cp) s m s.ah 0 D (ad0 0 []) (ad0 (aV (s.aA+1)) []) rfl (by omega)).trans ?_
 rw[cT (by omega) (by omega)]
 have im:∀g8∈s.ah,BE g8:=λg8 hU=>(hs.bY g8 hU).yq
 have done:∀(b4:ae) (vv:ae) (ts:bD),vv.aA=s.aA+1->(∀g8∈ts,BE g8)->t=⟨s.aA+1,ts⟩->nE D b4 vv ts=V (t,M):=λb4 vv ts h2 h3 h4=>by
  unfold nE;rw[Jd D ⟨vv.aA,ts⟩ h3 (by omega) fP,ak,h2,<-h4,ht]
  rfl
 have js:m.bg≠6->∀(j:Nat) (T:ai),m.av=(j:Int)->s.ah[j]? =V T->(∀b4,wT D j (T.ag.length:Int) (U (T.aH<=m.ba)&&U (m.ba<(T.ag.length:Int))) s m b4 ⟨s.aA+1,s.ah⟩ s.ah=V (t,M))->Ck D s m (ad0 0 []) (ad0 (s.aA+1) s.ah) s.ah=V (t,M):=λh6 j T hj hT hk=>by
  have gy:=(bK.1 hT).1;have l7:setAt s.ah j T=V s.ah:=by rw[dC _ gy,kO hT]
  have q6:(m.bg==6)=B:=Ot h6;have q1:¬((j:Int)<0):=by omega
  have q2:(j:Int)<(s.ah.length:Int):=by omega
  unfold Ck;simp only[q6,az,au,hj,q1,aR,q2,aO,dh,fX gy,ak,cq,hT];by_cases hc:T.aH<=m.ba
  ·have lW:¬m.ba<T.aH:=by omega
   simp only[lW,aR,gB,ax,l7,ak];have:=hk (ad0 0 []);rwa[rI hc,jd] at this
  ·have lW:m.ba<T.aH:=by omega
   simp only[lW,aO,dh,az,au,l7,ak];have:=hk (ad0 0 []);rwa[D1 hc,gR] at this
 cases h with
 |asx j T q hj hT hv hk=>
  refine js (by omega) j T hj hT λb4=> ?_
  have gy:=(bK.1 hT).1;have hG:=hs.bY T (bU hT);have hc8:=hG.cols;simp only[wT,q,ab9,ax,DV,ak,hv,dh,az,au,hk,jJ,hT,dr _ _ (show T.ag.length+ [(cF.mk m.aM m.aE)].length<=1000000 by simp;omega),dC _ gy]
  show nE _ _ _ _=_;exact done _ _ _ rfl (uS im hG.yq) rfl
 |abT j c T x q hj hT hc hx hk hv Ad hu=>
  refine js (by omega) j T hj hT λb4=> ?_
  have gy:=(bK.1 hT).1;have hG:=hs.bY T (bU hT);have hc8:=hG.cols;have l7:setAt s.ah j T=V s.ah:=by rw[dC _ gy,kO hT]
  have fg:=(bK.1 hx).1;have w:aV ((c:Int)+1)=((c+1:Nat):Int):=bV fg (by omega)
  have ct:so T.ag.length (c:Int)=V c:=by unfold so;rw[aF ⟨by omega,by omega⟩];rfl
  have cl:EY T.ag.length ((c+1:Nat):Int)=V (c+1):=by unfold EY;rw[aF ⟨by omega,by omega⟩];rfl
  have an:KG T.ag c ((T.ag.drop (c+1)).take (T.ag.length-(c+1)))=V (T.ag.take c++T.ag.drop (c+1)):=by
   unfold KG;rw[iT (l:=T.ag.drop (c+1)) (by simp),aF ⟨by omega,by omega,by simp;omega⟩]
  have tok:TOK (T.ag.length:Int) ⟨T.aM,T.ag.take c++T.ag.drop (c+1),T.aH,T.ar,T.aL⟩:=⟨by rw[AQ fg];omega,hG.tok.refs,hG.tok.ref,hG.tok.CF,hG.tok.kC⟩
  have q1:T.aH<=(c:Int):=hk;have q2:(c:Int)<(T.ag.length:Int):=by omega
  simp only[wT,q,ab9,az,au,ax,hT,ak,hc,q1,q2,aO,qi,dh,DV,hv,fX fg,cq,hx,Ad,jJ,Qk D T (c:Int) (by omega) hG.cp (by omega),hu,kO hT,w,ct,cl,an,Qj D _ (T.ag.length:Int) (by omega) tok (c:Int) (-1) ⟨by omega,by omega⟩ (by omega),dC _ gy]
  show nE _ _ _ _=_;exact done _ _ _ rfl (uS im (OD (T:=⟨T.aM,T.ag.take c++T.ag.drop (c+1),T.aH,T.ar,T.aL⟩) hG.yq)) rfl
 |move j c d T q hj hT hc hd h1 h2 hk yH=>
  refine js (by omega) j T hj hT λb4=> ?_
  have gy:=(bK.1 hT).1;have hG:=hs.bY T (bU hT);have hc8:=hG.cols;have l7:setAt s.ah j T=V s.ah:=by rw[dC _ gy,kO hT]
  have q1:T.aH<=(c:Int):=hk;have q2:(c:Int)<(T.ag.length:Int):=by omega
  have q3:¬(d:Int)<T.aH:=by omega
  have q4:(d:Int)<(T.ag.length:Int):=by omega
  have RI:rh (T.ag.length:Int) ((cF.mk vp 0):cF)=V (P' T.ag.length (cF.mk vp 0)):=by
   unfold rh;rw[aF ⟨by omega,by omega⟩];rfl
  simp only[wT,q,ab9,az,au,ax,hT,ak,hc,hd,q1,q2,q3,q4,aO,aR,qi,dh,RI];obtain ⟨Cd,e⟩:=R8 (Qp (nE D) D) j m c d hc hd T.ag hc8 h1 h2 s.ah T.ag 0 D (ad0 b4.aA []) (ad0 (s.aA+1) s.ah) (P' T.ag.length (cF.mk vp 0)) (ad1 T.aM [] T.aH T.ar T.aL) rfl (by omega) (by simp) (λq hq=>by omega) (by omega)
  refine e.trans ?_;rw[l7,ak];unfold Qp;have tok:TOK (T.ag.length:Int) ⟨T.aM,xn T.ag c d,T.aH,T.ar,T.aL⟩:=⟨by rw[O9 h1 h2];omega,hG.tok.refs,hG.tok.ref,hG.tok.CF,hG.tok.kC⟩
  rw[hT,ak,Qj D _ (T.ag.length:Int) (by omega) tok m.ba m.kM hm.Gg (by omega),ak,dC _ gy,ak,hc,hd]
  show nE _ _ _ _=_;exact done _ _ _ rfl (uS im (OD (T:=⟨T.aM,xn T.ag c d,T.aH,T.ar,T.aL⟩) hG.yq)) rfl
 |aqg j c T x q hj hT hc hx=>
  refine js (by omega) j T hj hT λb4=> ?_
  have gy:=(bK.1 hT).1;have hG:=hs.bY T (bU hT);have fg:=(bK.1 hx).1;have q1:¬(c:Int)<0:=by omega
  have q2:(c:Int)<(T.ag.length:Int):=by omega
  simp only[wT,q,ab9,az,au,ax,hT,ak,hc,q1,q2,aO,aR,dh,fX fg,cq,hx,dC _ fg,dC _ gy];show nE _ _ _ _=_;exact done _ _ _ rfl (uS im hG.yq) rfl
 |aqf j T q hj hT=>
  refine js (by omega) j T hj hT λb4=> ?_
  have gy:=(bK.1 hT).1;have hG:=hs.bY T (bU hT);simp only[wT,q,ab9,az,au,ax,hT,ak,dC _ gy];show nE _ _ _ _=_;exact done _ _ _ rfl (uS im hG.yq) rfl
 |asw q=>
  have hz:∀T∈s.ah++ [m.bt],BE T:=λT hT=>by
   rcases eV.1 hT with h|h
   ·exact (hs.bY T h).yq
   ·rw[gg.1 h];exact λp hp=>by have:=hm.dfn.kC p hp;omega
  unfold Ck;rw[aF (by rw[q];rfl),ZW D m.bt hm.dfn.len hm.dfn.ref (by omega),ak,dr _ _ (by simp;omega),ak,dC _ (by simp),ak,kO (by simp)]
  rw[Jd D ⟨s.aA+1,s.ah++ [m.bt]⟩ hz (by omega) fP,ak,ht]
  rfl
 |abS j T q hj hT hr=>
  refine js (by omega) j T hj hT λb4=> ?_
  have gy:=(bK.1 hT).1;have aBY:BO j s.ah 0:=λq g8 h=>by omega
  have BX:BO j s.ah s.ah.length:=λi g8 _ hi hU=>by
   unfold uz;rw[j1];exact λr h=>by simpa using hr i g8 hi hU r h
  obtain ⟨r,e,hP⟩:=KM (P:=λr=>r=(_,M)) (Qn (nE D) D) s m j hj (by omega) s.ah (by omega) (λg8 hU=>⟨by have:=(hs.bY g8 hU).refs;omega,λr hr=>by obtain ⟨_,_,r1,r2⟩:=(hs.bY g8 hU).ref r hr;exact ⟨by omega,by omega⟩⟩) (s.aA+1) (λh=>absurd BX h) (λCd j6 cur g _=>by
   unfold Qn;exact ⟨_,done _ _ _ rfl (λg8 hU=>by
    obtain ⟨f7,hV,rfl⟩:=dJ.1 hU;have hV':f7∈s.ah:=by
     rcases eV.1 hV with h|h
     ·exact og h
     ·exact oG h
    exact im f7 hV') rfl,rfl⟩) s.ah 0 D (ad0 b4.aA []) s.ah s.ah rfl (by omega) rfl (λ_ _=>rfl) aBY
  rw[show (rp j (s.ah.take 0)).map (nC (j:Int))= [] by simp[rp]] at e
  rw[hP] at e;simp only[wT,q,ab9,az,au,ax];exact e
 |Eh j c T x q hj hT hc hx hk hp hu=>
  refine js (by omega) j T hj hT λb4=> ?_
  have gy:=(bK.1 hT).1;have hG:=hs.bY T (bU hT);have hc8:=hG.cols;have l7:setAt s.ah j T=V s.ah:=by rw[dC _ gy,kO hT]
  have fg:=(bK.1 hx).1;have q1:T.aH<=(c:Int):=hk;have q2:(c:Int)<(T.ag.length:Int):=by omega
  simp only[wT,q,ab9,az,au,ax,hT,ak,hc,q1,q2,aO,qi,dh,fX fg,cq,hx,apg D m.cA _ (by omega),hp,Qk D T (c:Int) (by omega) hG.cp (by omega),hu,l7]
  show nE _ _ _ _=_;exact done _ _ _ rfl im rfl
def aiE (n0:Nat) (ms:cH) (hl:ms.length<=8) (hm:∀m∈ms,MB m):∀(x:cH) (i k:Nat) (b ts:gZ) (cur:ae),ms.drop i=x->x.length+1700000<k->k<4294967296->b.length<=100+i->i<=8->b.getLast? =V cur->gm cur=0->dQ cur x ts->
  Dq (Qu n0) k (ms.length:Int) (i:Int) ms b=V (b++ts,0)
 | [],i,k+1,b,[],cur,hd,hk,jv,hb,hi8,hc,hs,tp=>by
  obtain ⟨hi,hq⟩:=eI hd
  simp only[Dq,Qv,hq,aR,az,au,Qu,rG]
 |mg::x,i,k+1,b,t::ts,cur,hd,hk,jv,hb,hi8,hc,hs,tp=>by
  obtain ⟨g1,g2,g3,hq⟩:=dO hd
  simp at hk;obtain ⟨cR,De⟩:=G8 hc;have rW:0<b.length:=HE.2 cR;have w:aV ((b.length:Int)-1)=((b.length-1:Nat):Int):=by rw[cT (by omega) (by omega)];omega
  obtain ⟨c1,c2,c3,c4⟩:=tp;have e95:=aQc k (by omega) (by omega) cur (.of hs) mg (hm mg (bU g1)) c1 c2 c3
  simp only[Dq,Qv,hq,aO,ax,fX g3,ak,cq,g1,w,fX (show b.length-1<b.length by omega),De,e95,dh,az,au,dr b [t] (by simp;omega),bV g3 (by omega)]
  rw[aiE n0 ms hl hm x (i+1) k (b++ [t]) ts t g2 (by omega) (by omega) (by simp;omega) (by omega) (by simp) c3 c4]
  simp
 |_,_,0,_,_,_,_,hk,_,_,_,_,_,_=>by simp at hk
 | [],_,_+1,_,_::_,_,_,_,_,_,_,_,_,h=>by cases h
 |_::_,_,_+1,_,[],_,_,_,_,_,_,_,_,h=>by cases h
def aQq (hn:1800000<D) (fP:D<4294967296) (s:ae) (hs:gm s=0) (ms:cH) (hm:∀m∈ms,MB m) (hl:ms.length<=8) (hv:s.aA+(ms.length:Int)<=1000) (ts:gZ) (hc:dQ s ms ts):F40 D s ms=V (s::ts,0):=by
 have hG:=SG.of hs;have hv0:=hG.v0;unfold F40 ade;have q1:¬((8:Int)<(ms.length:Int)):=by omega
 have w:aV (s.aA+(ms.length:Int))=s.aA+(ms.length:Int):=cT (by omega) (by omega)
 have q2:¬((1000:Int)<s.aA+(ms.length:Int)):=by omega
 rw[Jd D s (λT hT=>(hG.bY T hT).yq) (by omega) fP,ak,hs]
 simp only[jJ,az,au,q1,aR,w,q2];exact aiE D ms hl hm ms 0 D [s] ts s rfl (by omega) fP (by simp) (by omega) rfl hs hc
section
def Gc:(Utf8.encode E).size<=4:=by
 unfold Utf8.encode;simp only;repeat' split
 all_goals simp[ByteArray.size]
def ayW {a b:Z} (h:a.size+b.size<=1000000):cat a b=V (a++b):=by unfold cat;rw[aF h]
structure atE (m:aG):Prop where
 mb:MB m
 prs:m.bg=8->hI m.cA\/m.cA= []
def mj.prs {s t:ae} {m:aG} (h:mj s m t) (h8:m.bg=8):m.cA≠ []:=by
 cases h with
 |Eh j c T x gC hj hT hc hx hk hp hu=>
  intro e;rw[e] at hp;simp[xl] at hp
 |_=>omega
structure Lst (s:ae) (l:cH):Prop where
 mem:∀m∈l,MB m/\(m.bg=8->hI m.cA)
 chain:∃ts,dQ s l ts
def dQ.anF:∀{s:ae} {ms:cH} {ts:gZ},dQ s ms ts->∀m∈ms,m.bg=8->m.cA≠ []
 |_,[],[],_,m,hm,_=>by cases hm
 |_,_::_,_::_,h,m,hm,h8=>by
  rcases da.1 hm with rfl|hm
  ·exact h.2.1.prs h8
  ·exact dQ.anF h.2.2.2 m hm h8
 |_,[],_::_,h,_,_,_=>by cases h
 |_,_::_,[],h,_,_,_=>by cases h
def E9 (r:cH×aN):Prop:=dd r.2/\Lst K r.1/\r.1.length<=5
section
variable {s:ae} {n:Nat}
def ajM (hs:gm s=0) (hn:1800000<n) (fP:n<4294967296) (k:Int->aN->ae->cH->A (cH×aN)) (n8:Int) (c:aN) (hc:dd c) (l:cH) (hl:Lst s l) (hl5:l.length<=100) (m:aG) (hm:atE m) (hk:∀l',Lst s l'->l'.length<=l.length+1->Ok (k n8 c s l') (E9 s)):
  Ok (U3 k n n8 c s l m) (E9 s):=by
 unfold U3;rw[dr _ _ (by simp;omega),ak,j0,dr _ _ (by simp;omega),ak]
 refine Ok.bind (azQ n hn fP s hs (l++ [m]) (λx hx=> ?_) (by simp;omega)) λr hr=> ?_
 ·rcases eV.1 hx with h|h
  ·exact (hl.mem x h).1
  ·rw[gg.1 h];exact hm.mb
 refine Ok.ite (λh0=> ?_) λ_=>hk l hl (by omega)
 obtain ⟨_,_,ts,_,tp⟩:=hr (by simpa using h0)
 rw[ak];refine hk (l++ [m]) ⟨λx hx=> ?_,ts,tp⟩ (by simp)
 rcases eV.1 hx with h|h
 ·exact hl.mem x h
 ·rw[gg.1 h];refine ⟨hm.mb,λh8=> ?_⟩
  rcases hm.prs h8 with h|h
  ·exact h
  ·exact absurd h (tp.anF m (by simp) h8)
def aDM (hs:gm s=0) (hn:1800000<n) (fP:n<4294967296) (k:Int->aN->ae->cH->A (cH×aN)) (n8:Int) (hn8:0<n8) (hn88:n8<=100) (c:aN) (hc:dd c) (l:cH) (hl:Lst s l) (hl5:l.length<=100) (fj:ae) (m:aG) (hm:atE m) (hk:∀l',Lst s l'->l'.length<=l.length+1->Ok (k (n8-1) c s l') (E9 s)):
  Ok (uk k n n8 c s l fj m) (E9 s):=by
 have e:∀l',GF k n n8 c s l'=k (n8-1) c s l':=λl'=>by unfold GF;rw[cT (by omega) (by omega)]
 unfold uk;refine Ok.ite (λ_=>Ok.ite (λ_=> ?_) λ_=> ?_) λ_=> ?_
 ·rw[e];exact hk l hl (by omega)
 ·exact ajM hs hn fP (GF k n) n8 c hc l hl hl5 m hm λl' h1 h2=>by rw[e];exact hk l' h1 h2
 ·exact ajM hs hn fP (GF k n) n8 c hc l hl hl5 m hm λl' h1 h2=>by rw[e];exact hk l' h1 h2
def aof (a:Z) (cs:di) (k:Int) (h:cs.length<=10):Hl ⟨a,cs,k,[],[]⟩:=⟨⟨by show cs.length<=1000;omega,by simp,by simp⟩,λr hr=>by simp at hr,λp hp=>by simp at hp⟩
def TabZ:Prop:=0<=I.aH/\I.aH<=(I.ag.length:Int)/\I.ag.length<=8/\∀x∈I.ag,3<=x.aE/\x.aE<=5
def ajL (hs:gm s=0) (hn:1800000<n) (fP:n<4294967296) (k:Int->aN->ae->cH->A (cH×aN)) (n8:Int) (hn8:0<n8) (hn88:n8<=100) (c:aN) (hc:dd c) (l:cH) (hl:Lst s l) (hl5:l.length<=100) (fj:ae) (op tb:Int) (lA:ai) (hT:TabZ lA) (hk:∀l' c',dd c'->Lst s l'->l'.length<=l.length+1->Ok (k (n8-1) c' s l') (E9 s)):
  Ok (U2 k n n8 c s l fj (aG.mk op tb 0 0 vp 0 oJ [] (ad1 vp [] 0 [] [])) lA) (E9 s):=by
 obtain ⟨t1,t2,t3,t4⟩:=hT;have fin:∀(c':aN) (m:aG),dd c'->atE m->Ok (uk k n n8 c' s l fj m) (E9 s):=λc' m h1 h2=>aDM hs hn fP k n8 hn8 hn88 c' h1 l hl hl5 fj m h2 λl' h3 h4=>hk l' c' h1 h3 h4
 have cz:∀(op tb Gg to:Int) (nm:Z) (kd:Int) (v:aT) (ps:gq) (d:ai),nr Gg->nr to->Hl d->(op=8->hI ps\/ps= [])->atE (aG.mk op tb Gg to nm kd v ps d):=λop tb Gg to nm kd v ps d h1 h2 h3 h4=>⟨⟨h1,h2,h3⟩,h4⟩
 have z0:nr 0:=⟨by omega,by omega⟩
 have d0:Hl (ad1 vp [] 0 [] []):=aof _ _ _ (by simp)
 unfold U2;have w1:aV ((lA.ag.length:Int)-lA.aH)=(lA.ag.length:Int)-lA.aH:=cT (by omega) (by omega)
 rw[w1];refine Ok.bind (j7 n c _ hc) λdu ⟨c11,a0,_,_,a1⟩=> ?_
 have w2:aV (lA.aH+du.1)=lA.aH+du.1:=cT (by omega) (by omega)
 have G7:nr (lA.aH+du.1):=⟨by omega,by omega⟩
 rw[w2];have s1:(xp #[110]).size=1:=rfl;have e1:=Gc (U' .i32 (aV (97+(l.length:Int))));rw[ayW (by omega),ak]
 refine Ok.bind (j7 n du.2 26 c11) λhY ⟨c23,_,_,_,_⟩=> ?_
 have e2:=Gc (U' .i32 (aV (97+hY.1)));rw[ayW (by rw[WQ];omega),ak]
 refine Ok.ite (λq=> ?_) λq1=> ?_
 ·refine Ok.bind (j7 n hY.2 3 c23) λvi ⟨c37,p0,p1,_,_⟩=> ?_
  have p1:=p1 (by omega)
  rw[cT (x:=3+vi.1) (by omega) (by omega)]
  refine Ok.bind (Fq n (by omega) vi.2 (3+vi.1) c37 (by omega) (by omega)) λx47 hx=> ?_
  exact fin _ _ hx.1 (cz _ _ _ _ _ _ _ _ _ z0 z0 d0 λh=>.inr rfl)
 refine Ok.ite (λq=> ?_) λq2=> ?_
 ·refine Ok.ite (λh=> ?_) λ_=>fin _ _ c23 (cz _ _ _ _ _ _ _ _ _ G7 z0 d0 λh=>.inr rfl)
  have h:=rH h;obtain ⟨i,hi⟩:∃i:Nat,lA.aH+du.1=(i:Int):=⟨(lA.aH+du.1).toNat,by omega⟩
  have rV:i<lA.ag.length:=by omega
  rw[hi,bA,cX rV,ak];have Ad:=t4 _ (nZ rV);refine Ok.bind (Fq n (by omega) hY.2 _ c23 Ad.1 Ad.2) λx53 hx=> ?_
  exact fin _ _ hx.1 (cz _ _ _ _ _ _ _ _ _ (hi ▸ G7) z0 d0 λh=>.inr rfl)
 refine Ok.ite (λq=> ?_) λq3=> ?_
 ·refine Ok.bind (j7 n hY.2 _ c23) λHG ⟨c50,p0,_,_,p1⟩=> ?_
  rw[cT (x:=lA.aH+HG.1) (by omega) (by omega)]
  exact fin _ _ c50 (cz _ _ _ _ _ _ _ _ _ G7 ⟨by omega,by omega⟩ d0 λh=>.inr rfl)
 refine Ok.ite (λq=> ?_) λq4=> ?_
 ·refine Ok.bind (j7 n hY.2 _ c23) λBA ⟨c46,p0,_,_,p1⟩=> ?_
  exact fin _ _ c46 (cz _ _ _ _ _ _ _ _ _ ⟨by omega,by omega⟩ z0 d0 λh=>.inr rfl)
 refine Ok.ite (λq=> ?_) λq5=> ?_
 ·exact fin _ _ c23 (cz _ _ _ _ _ _ _ _ _ z0 z0 d0 λh=>.inr rfl)
 refine Ok.ite (λq=> ?_) λq6=> ?_
 ·rw[show ∀a k,Fs n a k=V (cF.mk a k) from λ_ _=>rfl,ak,show ∀a k,Fs n a k=V (cF.mk a k) from λ_ _=>rfl,ak]
  exact fin _ _ c23 (cz _ _ _ _ _ _ _ _ _ z0 z0 (aof _ _ _ (by simp)) λh=>.inr rfl)
 refine Ok.ite (λq=> ?_) λq8=> ?_
 ·refine Ok.ite (λh=> ?_) λ_=>fin _ _ c23 (cz _ _ _ _ _ _ _ _ _ G7 z0 d0 λh=>.inr rfl)
  have h:=rH h;obtain ⟨i,hi⟩:∃i:Nat,lA.aH+du.1=(i:Int):=⟨(lA.aH+du.1).toNat,by omega⟩
  have rV:i<lA.ag.length:=by omega
  rw[hi,bA,cX rV,ak];have Ad:=t4 _ (nZ rV);refine Ok.bind (Fq n (by omega) hY.2 _ c23 Ad.1 Ad.2) λqq hx=> ?_
  refine Ok.bind (Fq n (by omega) qq.2 _ hx.1 Ad.1 Ad.2) λsx hy=> ?_
  have aFQ:nr ((i:Nat):Int):=hi ▸ G7;refine Ok.ite (λhe=> ?_) λhe=> ?_
  ·have he:qq.1=sx.1:=DB.1 he;have ct:so 2 1=V 1:=rfl;rw[ct,ak];refine fin _ _ hy.1 (cz _ _ _ _ _ _ _ _ _ aFQ z0 d0 λh=>.inl (.inl ⟨qq.1,?_⟩))
   rw[he];rfl
  ·exact fin _ _ hy.1 (cz _ _ _ _ _ _ _ _ _ aFQ z0 d0 λh=>.inl (.inr ⟨qq.1,sx.1,he,rfl⟩))
 ·exact fin _ _ c23 (cz _ _ _ _ _ _ _ _ _ z0 z0 d0 λh=>.inr rfl)
end
def adJ {s:J} {ts:List J}:(s::ts)[(s::ts).length-1]? =V ((s::ts).getLast (by simp)):=by
 rw[<-alU,List.getLast?_eq_some_getLast]
def aiF (s:ae) (hs:gm s=0) (n0:Nat):∀(k:Nat) (i:Nat) (c:aN) (l:cH),i+1900000<k->k<4294967296->dd c->Lst s l->l.length+i<=5->Ok (Gz (Qw n0) k (i:Int) c s l) (E9 s)
 |0,_,_,_,hk,_,_,_,_=>by omega
 |k+1,0,c,l,hk,jv,hc,hl,h5=>by
  have hq:¬((0:Int)<((0:Nat):Int)):=by omega
  simp only[Gz,adf,hq,aR,az,au,Qw];exact Ok.pure ⟨hc,hl,by omega⟩
 |k+1,i+1,c,l,hk,jv,hc,hl,h5=>by
  have hq:((0:Int)<((i+1:Nat):Int)):=by omega
  simp only[Gz,adf,hq,aO,ax];refine Ok.bind (azQ k (by omega) (by omega) s hs l (λm hm=>(hl.mem m hm).1) (by omega)) λr hr=> ?_
  refine Ok.ite (λ_=>Ok.pure ⟨hc,⟨λm hm=>by simp at hm,[],trivial⟩,by simp⟩) λh0=> ?_
  obtain ⟨_,_,ts,e,tp⟩:=hr (by simpa using h0)
  have hchk:∀t∈s::ts,gm t=0:=λt ht=>by
   rcases da.1 ht with rfl|ht
   ·exact hs
   ·exact tp.kC t ht
  have hlen:=tp.len;rw[e];have hL:(s::ts).length=ts.length+1:=rfl;have w:aV (((s::ts).length:Int)-1)=(((s::ts).length-1:Nat):Int):=by rw[cT (by rw[hL];omega) (by rw[hL];omega),hL];omega
  rw[w,fX (by rw[hL];omega),ak,cq,adJ,ak]
  have aBX:=hchk _ (Oq (l:=s::ts) (by simp))
  generalize (s::ts).getLast (by simp)=now at aBX
  have hG:=SG.of aBX;have hS:=vI aBX;have h8:=hG.len;refine Ok.bind (j7 k c 10 hc) λgw ⟨c25,p0,p1,_,_⟩=> ?_
  have p1:=p1 (by omega)
  rw[cT (x:=1+gw.1) (by omega) (by omega)]
  refine Ok.bind (j7 k gw.2 _ c25) λkQ ⟨c33,u0,u1,_,_⟩=> ?_
  have rest:∀(c':aN) (op:Int),dd c'->Ok (U1 (Gz (Qw n0) k) k ((i+1:Nat):Int) c' s l now (aG.mk op kQ.1 0 0 vp 0 oJ [] (ad1 vp [] 0 [] []))) (E9 s):=λc' op lW=>by
   have back:∀l' c'',dd c''->Lst s l'->l'.length<=l.length+1->Ok (Gz (Qw n0) k (((i+1:Nat):Int)-1) c'' s l') (E9 s):=λl' c'' h1 h2 h3=>by
    rw[show (((i+1:Nat):Int)-1)=(i:Int) by omega]
    exact aiF s hs n0 k i c'' l' (by omega) (by omega) h1 h2 (by omega)
   unfold U1;refine Ok.ite (λht=> ?_) λht=> ?_
   ·have ht:=rH ht;have dz:kQ.1<(now.ah.length:Int):=by
     by_cases h1:(1:Int)<(now.ah.length:Int)
     ·rw[aF h1] at u1;exact u1 (by omega)
     ·rw[aC h1] at u1;have:=u1 (by omega)
      omega
    obtain ⟨j,hj⟩:∃j:Nat,kQ.1=(j:Int):=⟨kQ.1.toNat,by omega⟩
    have gy:j<now.ah.length:=by omega
    have hT:now.ah[j]? =V now.ah[j]:=cX gy;show Ok ((idx now.ah kQ.1).bind _) _;rw[hj,bA,hT,ak];have tg:=hG.bY _ (nZ gy);have tk:=hS.bY (j:Int) now.ah[j] (by rw[bA];exact hT)
    have a1:=tg.pY;refine ajL hs (by omega) (by omega) _ ((i+1:Nat):Int) (by omega) (by omega) c' lW l hl (by omega) now op (j:Int) now.ah[j] ⟨by omega,tg.jG,tg.cols,λx hx=> ?_⟩ back
    have BY:=tk.ks;unfold ey oh at BY;rw[j1] at BY;exact FW (BY x.aE (dJ.2 ⟨x,hx,rfl⟩))
   ·exact ajL hs (by omega) (by omega) _ ((i+1:Nat):Int) (by omega) (by omega) c' lW l hl (by omega) now op kQ.1 _ ⟨by simp,by simp,by simp,λx hx=>by simp at hx⟩ back
  refine Ok.ite (λ_=> ?_) λ_=>rest _ _ c33
  refine Ok.bind (j7 k kQ.2 2 c33) λLo ⟨c42,_,_,_,_⟩=>rest _ _ c42
def aQr (hn:2000000<D) (fP:D<4294967296) (c:aN) (hc:dd c) (s:ae) (hs:gm s=0):Ok (F39 D c s 5) (E9 s):=by
 unfold F39 auw;rw[show aV (5+1)=6 from cT (by omega) (by omega)]
 refine Ok.bind (j7 D c 6 hc) λx7 ⟨c7,p0,p1,_,_⟩=> ?_
 have p1:=p1 (by omega)
 obtain ⟨i,hi⟩:∃i:Nat,x7.1=(i:Int):=⟨x7.1.toNat,by omega⟩
 rw[hi];exact aiF s hs D D i x7.2 [] (by omega) fP c7 ⟨λm hm=>by simp at hm,[],trivial⟩ (by simp;omega)
def aQz (hn:2000000<D) (fP:D<4294967296) (c:aN) (hc:dd c):Ok (F12 D c) λr=>dd r.2.2.2.2/\NH r.1/\Lst r.1 r.2.1/\r.2.1.length<=5/\∃(ts:gZ) (k:Nat),dQ r.1 r.2.1 ts/\r.2.2.1=r.1::ts/\r.2.2.2.1=(k:Int)/\k<=ts.length:=by
 unfold F12 auL;refine Ok.bind (aQs D (by omega) fP c hc) λx6 ⟨h1,h2⟩=> ?_
 refine Ok.bind (aQr D hn fP x6.2 h1 x6.1 h2.kC) λj8 ⟨g1,g2,g3⟩=> ?_
 obtain ⟨ts,tp⟩:=g2.chain;have ED:x6.1.aA<=2:=by
  obtain ⟨v,id,k,r1,r2,r3,ch,hp,e⟩:=h2;rw[e];exact hp.v1
 rw[aQq D (by omega) fP x6.1 h2.kC j8.1 (λm hm=>(g2.mem m hm).1) (by omega) (by omega) ts tp,ak]
 refine Ok.bind (j7 D j8.2 _ g1) λlY ⟨k1,k2,k3,_⟩=> ?_
 have k3:=k3 (by simp;omega)
 obtain ⟨k,hk⟩:∃k:Nat,lY.1=(k:Int):=⟨lY.1.toNat,by omega⟩
 exact Ok.pure ⟨k1,h2,g2,g3,ts,k,tp,rfl,hk,by simp at k3;omega⟩
def dQ.ver:∀{s:ae} {ms:cH} {ts:gZ},dQ s ms ts->∀(i:Nat) t,(s::ts)[i]? =V t->t.aA=s.aA+(i:Int)
 |s,ms,ts,h,0,t,ht=>by simp at ht;subst ht;simp
 |s,[],[],_,i+1,t,ht=>by simp at ht
 |s,m::ms,u::ts,h,i+1,t,ht=>by
  have:=dQ.ver h.2.2.2 i t (by simpa using ht)
  rw[this,h.2.1.ver];omega
 |_,[],_::_,h,_+1,_,_=>by cases h
 |_,_::_,[],h,_+1,_,_=>by cases h
end
section
def aQj:F69 D S ad=V (mn S ad):=by
 unfold F69 aug mn;by_cases h1:S.aE<ad.aE
 ·simp[h1]
 ·by_cases h2:ad.aE<S.aE
  ·simp[h1,h2]
  ·by_cases h3:S.dj<ad.dj
   ·simp[h1,h2,h3]
   ·by_cases h4:ad.dj<S.dj
    ·simp[h1,h2,h3,h4]
    ·by_cases h5:Kx S.cM.toList ad.cM.toList=M
     ·simp[h1,h2,h3,h4,h5]
     ·by_cases h6:S.cM=ad.cM
      ·simp[h1,h2,h3,h4,h6,qM]
      ·have h7:¬S.cM.toList=ad.cM.toList:=λe=>h6 (CH (by rw[yL,yL] at e;exact e))
       simp[h1,h2,h3,h4,h5,h6,h7]
def azB (n0:Nat) (a b:bp) (ha:a.length<4294967296):∀(x:bp) (i m:Nat),a.drop i=x->i<=a.length->i<=b.length->x.length<m->Qa (U7 n0) m a b (i:Int)=V (ee (a.drop i) (b.drop i))
 | [],i,m+1,hd,h1,h2,hm=>by
  obtain ⟨hl,hq⟩:=eI hd
  simp only[Qa,adr,U7,hq,aR,az,au];rw[hd];cases hb:b.drop i with
  |nil=>
   have:b.length<=i:=by simpa using hb
   have e1:¬(a.length:Int)<b.length:=by omega
   have e2:¬(b.length:Int)<a.length:=by omega
   simp[e1,e2,ee]
  |cons y l=>
   obtain ⟨_,_,g3⟩:=qG hb;have e1:(a.length:Int)<b.length:=by omega
   simp[e1,ee]
 |x::xs,i,m+1,hd,h1,h2,hm=>by
  obtain ⟨g1,g2,g3,hq⟩:=dO hd
  simp only[Qa,adr,hq,aO,ax];cases hb:b.drop i with
  |nil=>
   have hl:b.length<=i:=by simpa using hb
   have e0:¬(i:Int)<b.length:=by omega
   have e1:¬(a.length:Int)<b.length:=by omega
   have e2:(b.length:Int)<a.length:=by omega
   simp[e0,e1,e2,U7,hd,ee]
  |cons y l=>
   obtain ⟨k1,k2,k3⟩:=qG hb;have e0:(i:Int)<b.length:=by omega
   simp only[e0,aO,ax,bA,g1,k1,ak,aQj];rw[hd,bV g3 ha];simp only[ee];by_cases h:mn x y=0
   ·simp only[h,jJ,az,au,ax];rw[azB n0 a b ha xs (i+1) m g2 (by omega) (by omega) (by simp at hm;omega),g2,k2]
   ·have:(mn x y !=0)=M:=by simpa using h
    simp only[this,h,ax,au]
 |_,_,0,_,_,_,hm=>by simp at hm
def aiV (ha:W.length<4294967296) (hn:W.length<D):F27 D W ay=V (ee W ay):=by
 have:=azB D W ay ha W 0 D rfl (by omega) (by omega) hn
 simp only[pF] at this;exact this
variable {s:ae} {t:Int} {T:ai} {n:Nat}
def Ji (h:W.length<=1000000):NM n W=V W:=by
 simp only[NM,ale];rw[dr _ _ (by simpa using h)]
 rfl
def NI (hT:idx s.ah t=V T) (ht:jT T) (r:bp) (hr:r.length=T.ag.length):F52 n s t r=V (r.take T.aH.toNat):=by
 obtain ⟨h0,h1,_⟩:=EA hT;have:=ht.cols;have k1:=ht.pY;have k2:=ht.jG;have e1:¬t<0:=by omega
 have e2:t<(s.ah.length:Int):=by omega
 have e3:¬(r.length:Int)<T.aH:=by omega
 have e4:0<T.aH:=by omega
 simp only[F52,auo,e1,e2,aR,aO,dh,az,au,hT,ak,e3,e4,ax];rw[ayT (by omega) (by omega),ak,Ji _ (by simp;omega)]
 rfl
end

section
def JZ {T:ai} {c:cF} (h:T.ag[i]? =V c):(ey T)[i]? =V c.aE:=by simp[ey,h]
def alL {T:ai} {c:cF} (h:T.ag[i]? =V c):(ey T).drop i=c.aE::(ey T).drop (i+1):=by
 have h1:i<(ey T).length:=by rw[pX];exact (bK.1 h).1
 have h2:=JZ h;rw[uL h1];rw[cX h1] at h2;rw[lp h2]
def agK (l:List J):((l.length:Int)==0)=l.isEmpty:=by cases l<;>simp;omega
def behind:A bp->bp->Bool
 |none,_=>M
 |some q,r=>U (ee (q.take I.aH.toNat) (r.take I.aH.toNat)<0)
def total:cf->Nat
 | []=>0
 |rs::rss=>rs.length+total rss
def auT {x:cf} (h:rs∈x):rs.length<=total x:=by
 induction x with
 |nil=>simp at h
 |cons y x ih=>
  simp only[total];rcases da.1 h with rfl|h
  ·omega
  ·have:=ih h;omega
section
variable {s:ae} {t n:Nat} {T:ai}
def Ft (hT:idx s.ah t=V T) (ht:jT T) (r:bp) (hr:r.length=T.ag.length):F68 n s t r=V (r.take T.aH.toNat):=by
 obtain ⟨h0,h1,_⟩:=EA hT;have:=ht.cols;have k1:=ht.pY;have k2:=ht.jG;have e1:¬(t:Int)<0:=by omega
 have e2:(t:Int)<(s.ah.length:Int):=by omega
 have e3:¬(r.length:Int)<T.aH:=by omega
 have e4:0<T.aH:=by omega
 simp only[F68,auh,e1,e2,aR,aO,dh,az,au,hT,ak,e3,e4,ax];rw[ayT (by omega) (by omega),ak]
end
abbrev fC:=cf
def nW (v:aT):Bool:=oK v&&U (v.aE=af\/(¬(f8:Int)<H/\((v.aE=2/\E≠1)\/(v.aE=1/\E=3))))
def gH (md key:Int):Nat->aP->bp->Bool
 |_,[],[]=>M
 |i,k::ks,v::vs=>nW md key i k v&&gH md key (i+1) ks vs
 |_,_,_=>B
section
variable {md key:Int}
def vJ:∀{i:Nat} {ks:aP} {vs:bp},gH md key i ks vs=M->vs.length=ks.length
 |_,[],[],_=>rfl
 |_,k::ks,v::vs,h=>by simp[gH] at h;simp[vJ h.2]
 |_,[],_::_,h=>by simp[gH] at h
 |_,_::_,[],h=>by simp[gH] at h
def aIJ (h:¬r.length=ks.length):gH md key i ks r=B:=by
 cases hr:gH md key i ks r with
 |false=>rfl
 |true=>exact absurd (vJ hr) h
def aai:∀{i:Nat} {ks:aP} {vs:bp} {k:Int} {v:aT},gH md key i ks vs=M->nW md key (i+ks.length) k v=M->gH md key i (ks++ [k]) (vs++ [v])=M
 |i,[],[],k,v,_,h1=>by simpa[gH] using h1
 |i,k'::ks,v'::vs,k,v,h,h1=>by
  simp only[gH,bJ] at h;simp only[wC,gH,bJ];exact ⟨h.1,aai h.2 (by rw[show i+1+ks.length=i+(k'::ks).length by simp;omega];exact h1)⟩
 |_,[],_::_,_,_,h,_=>by simp[gH] at h
 |_,_::_,[],_,_,h,_=>by simp[gH] at h
def aaz {k:Int} (h1:v.aE=k) (h2:jK v=M):nW md key i k v=M:=by
 unfold jK at h2;rw[bJ] at h2;unfold nW;rw[bJ];exact ⟨h2.1,by simp[h1]⟩
end
def aHv (n0:Nat) (md:Int) (T:ai) (r:bp) (hr:r.length=T.ag.length) (hl:r.length<4294967296):∀(x:bp) (i m:Nat),r.drop i=x->i<=r.length->x.length<m->KR (UU n0) m md r (r.length:Int) (i:Int) T=V (gH md T.aH i ((ey T).drop i) (r.drop i))
 | [],i,m+1,hd,h1,hm=>by
  have BV:r.length<=i:=by simpa using hd
  have hq:¬((i:Int)<(r.length:Int)):=by omega
  simp only[KR,acH,UU,hq,aR,az,au];rw[hd,uq (by rw[pX];omega)]
  rfl
 |x::xs,i,m+1,hd,h1,hm=>by
  obtain ⟨g1,g2,g3,hq⟩:=dO hd
  have dz:i<T.ag.length:=by omega
  have hc:T.ag[i]? =V T.ag[i]:=cX dz;have hk:=alL hc;generalize T.ag[i]=c at hc hk;have ih:=aHv n0 md T r hr hl xs (i+1) m g2 (by omega) (by simp at hm;omega)
  rw[g2] at ih;have key:∀b:Bool,Qq (KR (UU n0) m) m md (i:Int) b r (r.length:Int) (i:Int) T x=if x.aE=c.aE\/b=M\/(¬(i:Int)<T.aH/\x.aE=1/\md=3) then V (gH md T.aH (i+1) ((ey T).drop (i+1)) xs) else V B:=by
   intro b;unfold Qq UW;simp only[bA,hc,ak,bV g3 hl,ih];by_cases he:x.aE=c.aE
   ·simp[he]
   ·by_cases e1:x.aE=1
    ·by_cases m3:md=3
     ·by_cases hk:(i:Int)<T.aH<;>cases b<;>simp[he,e1,m3,hk]<;>(intro hh;exact absurd (e1.trans hh) he)
     ·cases b<;>simp[he,e1,m3]<;>(intro hh;exact absurd (e1.trans hh) he)
    ·cases b<;>simp[he,e1]
  simp only[KR,acH,hq,aO,ax,bA,g1,ak,apj,key];rw[hd,hk];simp only[gH,nW];cases hv:oK x with
  |false=>simp
  |true=>
   simp only[dh,az,au,jd];by_cases he:x.aE=c.aE
   ·by_cases h2:x.aE=2
    ·by_cases m1:md=1<;>simp[he,h2,m1]
    ·by_cases h1:x.aE=1<;>simp[he,h1,h2]
   ·by_cases h2:x.aE=2
    ·have f2:¬(2:Int)=c.aE:=λh=>he (h2.trans h)
     by_cases m1:md=1
     ·subst m1;simp[he,h2,f2]
     ·by_cases hk:(i:Int)<T.aH<;>simp[he,h2,m1,hk,f2]
    ·by_cases h1:x.aE=1
     ·have f1:¬(1:Int)=c.aE:=λh=>he (h1.trans h)
      by_cases m3:md=3<;>by_cases hk:(i:Int)<T.aH<;>simp[he,h1,m3,hk,f1]
     ·simp[he,h1,h2]
 |_,_,0,_,_,hm=>by simp at hm
section
variable {s:ae} {t md:Int} {T:ai} {n:Nat}
def uj:Prop:=E=1\/E=2\/E=3
def aHy (hm:uj md) (hT:idx s.ah t=V T) (ht:jT T) (r:bp) (hn:1000<n):F66 n s t r md=V (gH md T.aH 0 (ey T) r):=by
 have hc:=ht.cols;have hl:=pX T;have e0:F66 n s t r md=Lc n t r md B s:=by
  rcases hm with rfl|rfl|rfl<;>simp[F66,aui,apo hT]
 rw[e0];simp only[Lc,az,au,hT,ak];by_cases h:r.length=T.ag.length
 ·have e:((r.length:Int) !=(T.ag.length:Int))=B:=by simp[h]
  rw[e];simp only[az,au];have:=aHv n md T r h (by omega) r 0 n rfl (by omega) (by omega)
  simp only[pF] at this;exact this
 ·have e:((r.length:Int) !=(T.ag.length:Int))=M:=by simp;omega
  rw[e,aIJ (by omega)]
  rfl
end
def aCa {md key k:Int} (h1:md≠1) (h2:¬(i:Int)<key):nW md key i k ⟨2,0,vp⟩=M:=by
 have:oK ⟨2,0,vp⟩=M:=by simp[oK]
 simp[nW,this,h1,h2]
def aBi {md key k:Int} (h1:md=3) (h2:¬(i:Int)<key):nW md key i k ⟨1,0,vp⟩=M:=by
 have:oK ⟨1,0,vp⟩=M:=by simp[oK]
 simp[nW,this,h1,h2]
def aHw (md:Int) (ks:aP) (hk:oh ks=M) (hl:ks.length<=100) (key:Int) (n0:Nat):∀(xs:aP) (i m:Nat) (out:bp) (c:aN),ks.drop i=xs->300+xs.length<m->dd c->gH md key 0 (ks.take i) out=M->
  Ok (Gy (Qt n0) m key md ks (ks.length:Int) (i:Int) c out) λr=>dd r.2/\gH md key 0 ks r.1=M
 | [],i,m+1,out,c,hd,hm,hc,ho=>by
  obtain ⟨this,hq⟩:=eI hd
  simp only[Gy,acQ,Qt,hq,aR,az,au];exact Ok.pure ⟨hc,by rwa[iT this] at ho⟩
 |x::xs,i,m+1,out,c,hd,hm,hc,ho=>by
  obtain ⟨g1,g2,g3,hq⟩:=dO hd
  have hx:=agN hk g1;have hkr:=FW hx;have hlen:=vJ ho;rw[dE] at hlen;have vU:(ks.take i).length=i:=by rw[dE];omega
  simp only[Gy,acQ,hq,aO,ax,bA,g1,ak];simp at hm;have next:∀v c',dd c'->nW md key i x v=M->Ok (Br (Gy (Qt n0) m) m key md ks (ks.length:Int) (i:Int) c' (out++ [v])) λr=>dd r.2/\gH md key 0 ks r.1=M:=by
   intro v c' lW hv;unfold Br;rw[bV g3 (by omega)]
   refine aHw md ks hk hl key n0 xs (i+1) m _ _ g2 (by omega) lW ?_
   rw[HB,g1];exact aai ho (by rw[vU,cq];exact hv)
  have cell:∀c' b,dd c'->(b=M->md=3/\¬(i:Int)<key)->Ok (GD (Br (Gy (Qt n0) m) m) m key md x ks (ks.length:Int) (i:Int) b c' out) λr=>dd r.2/\gH md key 0 ks r.1=M:=by
   intro c' b lW hb;unfold GD;refine Ok.ite (λh=> ?_) λ_=> ?_
   ·rw[dr _ _ (by simp;omega),ak]
    exact next _ _ lW (aBi (hb h).1 (hb h).2)
   ·refine Ok.bind (Fq m (by omega) c' x lW hkr.1 hkr.2) λr ⟨hr,r1,r2⟩=> ?_
    rw[dr _ _ (by simp;omega),ak]
    exact next _ _ hr (aaz r1 r2)
  refine Ok.ite (λhge=> ?_) λ_=>cell _ _ hc (λh=>by cases h)
  have hge:¬(i:Int)<key:=by simpa using hge
  refine Ok.ite (λh1=> ?_) λ_=> ?_
  ·have h1:md≠1:=by simpa using h1
   refine Ok.bind (tC m c 5 hc) λb hb=> ?_
   refine Ok.ite (λ_=> ?_) λ_=> ?_
   ·rw[dr _ _ (by simp;omega),ak]
    exact next _ _ hb (aCa h1 hge)
   ·refine Ok.ite (λh3=> ?_) λ_=>cell _ _ hb (λh=>by cases h)
    refine Ok.bind (tC m b.2 5 hb) λd hd=> ?_
    exact cell _ _ hd λ_=>⟨by simpa using h3,hge⟩
  ·refine Ok.ite (λh3=> ?_) λ_=>cell _ _ hc (λh=>by cases h)
   refine Ok.bind (tC m c 5 hc) λd hd=> ?_
   exact cell _ _ hd λ_=>⟨by simpa using h3,hge⟩
 |_,_,0,_,_,_,hm,_,_=>by simp at hm
def aHC (hn:1000<=D) (c:aN) (ks:aP) (key:Int) (hk:oh ks=M) (hl:ks.length<=100) (hc:dd c):Ok (F49 D c ks key E) λr=>dd r.2/\gH E key 0 ks r.1=M:=
 aHw E ks hk hl key D ks 0 D [] c rfl (by omega) hc rfl
end
section
def gT {md key:Int} {T:ai} (h:gH md key 0 (ey T) r=M):r.length=T.ag.length:=by rw[vJ h,pX]
def Bc (md:Int) (T:ai):A bp->bn->Bool
 |_,[]=>M
 |p,r::rs=>gH md T.aH 0 (ey T) r&&(behind T p r&&Bc md T (V r) rs)
def C2 (md:Int):bD->cf->Bool
 |T::Ts,rs::rss=>Bc md T G rs&&C2 md Ts rss
 |_,_=>M
def SP (ts:cf):Int:=
 if L=0 then (if 512<total ts then 2 else if ts.length=K.ah.length then (if C2 E K.ah ts then 0 else 80) else 80) else L
variable {s:ae} {t n:Nat} {T:ai} {md:Int}
def aHz (mK:uj md) (he:Jh n s=V e):F64 n s md=V e:=by
 unfold F64 auj;rw[he,ak];rcases mK with rfl|rfl|rfl<;>simp<;>omega
def aoB (mK:uj md) (hT:idx s.ah (t:Int)=V T) (ht:jT T) (rows:bn) (hl:rows.length<=2000000) (k:Int->cf->Int->Int->ae->A Int) (a:cf) (a1 a2:Int):
  ∀(x:bn) (i m:Nat),rows.drop i=x->x.length+1100<m->(i=0\/∃q,rows[i-1]? =V q/\q.length=T.ag.length)->
   Qb k m md (t:Int) rows a a1 a2 rows (rows.length:Int) (i:Int) s=if Bc md T (if i=0 then G else rows[i-1]?) x then k md a a1 a2 s else V 80
 | [],i,m+1,hd,hm,_=>by
  have BV:rows.length<=i:=by simpa using hd
  have hq:¬((i:Int)<(rows.length:Int)):=by omega
  simp only[Qb,adu,hq,aR,az,au,Bc,ax]
 |r::x,i,m+1,hd,hm,hp=>by
  obtain ⟨g1,g2,g3,hq⟩:=dO hd
  simp at hm;simp only[Qb,adu,hq,aO,ax,bA,g1,ak,aHy mK hT ht r (by omega:1000<m),Bc]
  rcases lC (gH md T.aH 0 (ey T) r) with hr|hr
  rotate_left
  ·simp[hr]
  ·have hc:=gT hr;have h8:=ht.cols;have ih:=aoB mK hT ht rows hl k a a1 a2 x (i+1) m g2 (by omega) (.inr ⟨r,by rw[Nat.add_sub_cancel];exact g1,hc⟩)
   rw[aC (by omega:¬i+1=0),Nat.add_sub_cancel,g1] at ih
   simp only[hr,dh,az,au,jd,bV g3 (by omega:rows.length<4294967296),ih]
   by_cases h0:i=0
   ·subst h0;simp[behind]
   ·obtain ⟨q,hg,hql⟩:=hp.resolve_left h0;have h0':0<(i:Int):=by omega
    have hw:aV ((i:Int)-1)=((i-1:Nat):Int):=by rw[cT (by omega) (by omega)];omega
    simp only[h0',aO,ax,hw,bA,hg,ak,h0,au,Ft hT ht q hql,Ft hT ht r hc,Jf m (q.take T.aH.toNat) (r.take T.aH.toNat) (by simp;omega) (by simp;omega),behind]
    by_cases h5:ee (q.take T.aH.toNat) (r.take T.aH.toNat)<0
    ·simp[h5]
    ·simp[h5]
 |_,_,0,_,hm,_=>by simp at hm
def aoA (mK:uj md) (hs:pj s) (n0:Nat) (ts:cf) (hlen:ts.length=s.ah.length) (hl:total ts<=512):
  ∀(x:cf) (i m:Nat),ts.drop i=x->x.length+2000<m->
   KZ (U8 n0) m md ts (ts.length:Int) (i:Int) s=V (if C2 md (s.ah.drop i) x then 0 else 80)
 | [],i,m+1,hd,hm=>by
  have BV:ts.length<=i:=by simpa using hd
  have hq:¬((i:Int)<(ts.length:Int)):=by omega
  simp only[KZ,ads,U8,hq,aR,az,au];cases s.ah.drop i<;>simp[C2]
 |rs::x,i,m+1,hd,hm=>by
  obtain ⟨g1,g2,g3,hq⟩:=dO hd
  have h8:=hs.len;have zh:=auT (bU g1);simp at hm;have hi:i<s.ah.length:=by omega
  have hT:idx s.ah (i:Int)=V (s.ah[i]):=by rw[bA];exact cX _
  have ih:=aoA mK hs n0 ts hlen hl x (i+1) m g2 (by omega)
  simp only[KZ,ads,hq,aO,ax,bA,g1,ak];have e:=aoB mK hT (hs.bY _ _ hT) rs (by omega) (adt (KZ (U8 n0) m) m) ts (ts.length:Int) (i:Int) rs 0 m rfl (by omega) (.inl rfl)
  rw[aF rfl,show ((0:Nat):Int)=0 from rfl] at e;rw[e,uL hi];simp only[adt,bV g3 (by omega:ts.length<4294967296),ih,C2]
  rcases lC (Bc md s.ah[i] G rs) with hb|hb<;>simp[hb]
 |_,_,0,_,hm=>by simp at hm
def aiv (k:Int->A Int) (ts:cf) (hl:ts.length+total ts<=2000000):∀(x:cf) (i m a:Nat),ts.drop i=x->x.length<m->a+total x<=2000000->PX k m (a:Int) ts (ts.length:Int) (i:Int)=k ((a+total x:Nat):Int)
 | [],i,m+1,a,hd,hm,ha=>by
  have BV:ts.length<=i:=by simpa using hd
  have hq:¬((i:Int)<(ts.length:Int)):=by omega
  simp only[PX,acJ,hq,aR,az,au,total,oH]
 |rs::x,i,m+1,a,hd,hm,ha=>by
  obtain ⟨g1,g2,g3,hq⟩:=dO hd
  simp at hm;simp only[total] at ha;have hw:aV ((a:Int)+(rs.length:Int))=((a+rs.length:Nat):Int):=by rw[cT (by omega) (by omega)];omega
  simp only[PX,acJ,hq,aO,ax,bA,g1,ak,bV g3 (by omega:ts.length<4294967296),hw]
  rw[aiv k ts hl x (i+1) m (a+rs.length) g2 (by omega) (by omega)]
  simp only[total,gL]
 |_,_,0,_,_,hm,_=>by simp at hm
def aHD (mK:uj md) (n:Nat) (s:ae) (e:Int) (he:Jh n s=V e) (hs:e=0->pj s) (st:aw) (hl:st.ah.length+total st.ah<=2000000) (hn:2000100<=n):F26 n s md st=V (SP md s e st.ah):=by
 unfold F26 auD SP;rw[aHz mK he,ak];by_cases h0:e=0
 ·subst h0;have h57:=aiv (UX n) st.ah hl st.ah 0 n 0 rfl (by omega) (by omega)
  simp only[jJ,az,au,ax,ak,F65,acI,show ((0:Nat):Int)=0 from rfl,cq] at h57 ⊢;rw[h57];simp only[UX,ak];by_cases h1:512<total st.ah
  ·have vy:(512:Int)<(total st.ah:Int):=by omega
   simp only[h1,vy,aO,ax]
  ·have vy:¬(512:Int)<(total st.ah:Int):=by omega
   simp only[h1,vy,aR,az,au];by_cases h2:st.ah.length=s.ah.length
   ·have Ik:((st.ah.length:Int) !=(s.ah.length:Int))=B:=by simp[h2]
    rw[Ik,aF h2,aC (by simp)]
    have h8:=(hs rfl).len;have:=aoA mK (hs rfl) n st.ah h2 (by omega) st.ah 0 n rfl (by omega)
    rw[pF,show ((0:Nat):Int)=0 from rfl] at this;exact this
   ·have Ik:((st.ah.length:Int) !=(s.ah.length:Int))=M:=by simp;omega
    simp only[Ik,ax,h2,au]
 ·have:(e !=0)=M:=by simpa using h0
  simp[this,h0]
end
section
def eN (T:ai) (key row:bp):Bool->bn->bn
 |done,[]=>if done=M then [] else [row]
 |done,r::x=>if ee (dY T r) key<0 then r::eN T key row done x else (if done=M then [] else [row])++(if ee (dY T r) key=0 then [] else [r])++eN T key row M x
section
variable {s:ae} {t n:Nat} {T:ai} {md:Int} {ts:fC} {rows:bn} {key row:bp}
def amV:∀{x:bn},(∀y∈x,lt key (dY T y))->eN T key row M x=x
 | [],_=>rfl
 |r::x,h=>by
  have h1:=h r (by simp)
  have h2:¬ee (dY T r) key<0:=λh=>lt_asymm h1 (s9.1 h)
  have h3:¬ee (dY T r) key=0:=λe=>by rw[uY e] at h1;exact lt_irrefl _ h1
  have ih:=amV (x:=x) λy hy=>h y (by simp[hy])
  simp only[eN,h2,h3,au,ax,j0,WL,ih]
def amW:∀{done:Bool} {x:bn},Ord T x->eN T key row done x=mo T key (if done=M then [] else [row]) x
 |done,[],_=>by simp[eN,mo]
 |done,r::x,h=>by
  obtain ⟨h1,h2⟩:=lL.1 h;by_cases hl:ee (dY T r) key<0
  ·have EH:=s9.1 hl;have e1:U (lt (dY T r) key)=M:=by simpa using EH
   have e2:U (lt key (dY T r))=B:=by simpa using lt_asymm EH
   have ih:=amW (done:=done) h2;simp only[eN,hl,ax,ih,mo,je,e1,e2,az,au,wC]
  ·have EH:¬lt (dY T r) key:=λh=>hl (s9.2 h)
   have gt:∀y∈x,lt key (dY T y):=λy hy=>by
    rcases H6 (dY T r) key with h|h|h
    ·exact absurd h EH
    ·rw[<-h];exact h1 y hy
    ·exact lt_trans h (h1 y hy)
   have e1:U (lt (dY T r) key)=B:=by simpa using EH
   have e3:x.filter (λr=>U (lt (dY T r) key))= []:=filter_none λy hy=>by simpa using lt_asymm (gt y hy)
   have e4:x.filter (λr=>U (lt key (dY T r)))=x:=filter_all λy hy=>by simpa using gt y hy
   simp only[eN,hl,au,amV gt,mo,je,e1,e3,e4,az,j0];by_cases h0:ee (dY T r) key=0
   ·have e5:U (lt key (dY T r))=B:=by
     rw[uY h0];simpa using lt_irrefl key
    simp only[h0,ax,e5,az,au,rG]
   ·have e5:U (lt key (dY T r))=M:=by
     rcases H6 (dY T r) key with h|h|h
     ·exact absurd h EH
     ·exact absurd (uX.2 h) h0
     ·simpa using h
    simp only[h0,au,e5,ax,lr,WL]
def QV {T:ai} (k:bp):∀rows:bn,(rows.filter λr=>U (lt (dY T r) k)).length+(rows.filter λr=>U (lt k (dY T r))).length<=rows.length
 | []=>by simp
 |r::rows=>by
  have ih:=QV (T:=T) k rows;rw[je,je];by_cases h1:lt (dY T r) k
  ·have h2:¬lt k (dY T r):=lt_asymm h1;simp only[h1,h2,aO,aR,ax,az,au,iU];omega
  ·by_cases h2:lt k (dY T r)
   ·simp only[h1,h2,aO,aR,ax,az,au,iU];omega
   ·simp only[h1,h2,aR,az,au,iU];omega
def JQ {T:ai} (k:bp) (N rows:bn):(mo T k N rows).length<=rows.length+N.length:=by
 have:=QV (T:=T) k rows;unfold mo;simp only[gf];omega
def ZI (n0:Nat) (hT:s.ah[t]? =V T) (ht:jT T) (hkl:key.length<=100) (CC:row.length<=100) (hr:∀r∈rows,r.length=T.ag.length) (zh:rows.length<=1000) (mm:t<ts.length):∀(x:bn) (i m:Nat) (done:Bool) (out:bn) (z1 z2:aw),rows.drop i=x->x.length+1100<m->out.length+2*x.length<=100000->
  KS (UY n0) m (t:Int) key row done rows (rows.length:Int) (i:Int) ts s z1 z2 out=V (⟨ts.set t (out++eN T key row done x)⟩,ts.set t (out++eN T key row done x))
 | [],i,m+1,done,out,z1,z2,hd,hm,ho=>by
  have BV:rows.length<=i:=by simpa using hd
  have hq:¬((i:Int)<(rows.length:Int)):=by omega
  have e1:eh ts.length (t:Int)=V t:=by unfold eh;rw[aF (by omega)];rfl
  have e2:ts[0+t]? =V ts[t]:=by rw[cq];exact cX mm
  have e3:∀o,setAt ts (0+t) o=V (ts.set t o):=λo=>by rw[cq];unfold setAt;rw[aF mm]
  simp only[KS,acN,UY,acM,hq,aR,az,au,e1,e2,e3,ak,Ji (n:=n0) row (by omega),eN]
  cases done with
  |true=>simp
  |false=>
   simp only[gB,ax,az,au];rw[dr _ _ (by simp at ho ⊢;omega),ak]
 |r::x,i,m+1,done,out,z1,z2,hd,hm,ho=>by
  obtain ⟨g1,g2,g3,hq⟩:=dO hd
  have o9:=hr r (bU g1);have fg:=ht.cols;have yH:=ht.jG;simp at hm ho;have vx:idx s.ah (t:Int)=V T:=by rw[bA];exact hT
  have step:∀(dn:Bool) (c:Int) (ago:bn),ago.length<=out.length+1->Qs (KS (UY n0) m) m (t:Int) key row dn r c rows (rows.length:Int) (i:Int) ts s ⟨ts⟩ ⟨[]⟩ ago=V (⟨ts.set t (ago++(if c=0 then [] else [r])++eN T key row dn x)⟩,ts.set t (ago++(if c=0 then [] else [r])++eN T key row dn x)):=by
   intro dn c ago h1;unfold Qs;rw[bV g3 (by omega)]
   by_cases hc:c=0
   ·subst hc;simp only[jJ,az,au,ax,rG];exact ZI n0 hT ht hkl CC hr zh mm x (i+1) m dn _ _ _ g2 (by omega) (by omega)
   ·have lW:(c !=0)=M:=by simpa using hc
    simp only[lW,ax,hc,au];rw[dr _ _ (by simp;omega),ak]
    exact ZI n0 hT ht hkl CC hr zh mm x (i+1) m dn _ _ _ g2 (by omega) (by simp;omega)
  simp only[KS,acN,hq,aO,ax,bA,g1,ak,NI (n:=m) vx ht r o9,aiV m (r.take T.aH.toNat) key (by simp;omega) (by simp;omega),Ji (n:=m) row (by omega),eN]
  by_cases hl:ee (dY T r) key<0
  ·have h0:¬ee (dY T r) key=0:=by omega
   simp only[hl,aO,dh,az,au,ax];rw[step done _ out (by omega)]
   simp only[h0,au,lr,WL]
  ·simp only[hl,aR,gB,ax,au];cases done with
   |true=>
    simp only[dh,az,au,ax,j0];rw[step M _ out (by omega)]
    simp only[lr]
   |false=>
    simp only[gB,ax,az,au];rw[dr _ _ (by simp;omega),ak,step M _ _ (by simp)]
    simp only[lr]
 |_,_,0,_,_,_,_,_,hm,_=>by simp at hm
def kb:bn:=if W= [] then [] else [W]
def aoM (hT:s.ah[t]? =V T) (ht:jT T) (hkl:key.length<=100) (CC:row.length<=100) (iR:ts[t]? =V rows) (hr:∀r∈rows,r.length=T.ag.length) (zh:rows.length<=1000) (hO:Ord T rows) (hn:3000<n):
  F51 n s ⟨ts⟩ (t:Int) key row=V (⟨ts.set t (mo T key (kb row) rows)⟩,ts.set t (mo T key (kb row) rows)):=by
 have mm:t<ts.length:=(bK.1 iR).1;have e1:eh ts.length (t:Int)=V t:=by unfold eh;rw[aF (by omega)];rfl
 unfold F51 aup;simp only[e1,ak,cq,iR];have h:=ZI (key:=key) n hT ht hkl CC hr zh mm rows 0 n ((row.length:Int)==0) [] ⟨ts⟩ ⟨[]⟩ rfl (by omega) (by simp;omega)
 rw[show ((0:Nat):Int)=0 from rfl,j0,amW hO] at h;rw[h,agK];have:(if row.isEmpty=M then [] else [row])=kb row:=by unfold kb;cases row<;>simp
 rw[this]
end
structure StM (md:Int) (s:ae) (ts:fC):Prop where
 len:ts.length=s.ah.length
 row:∀(t:Nat) T rows,s.ah[t]? =V T->ts[t]? =V rows->(∀r∈rows,gH md T.aH 0 (ey T) r=M)/\Ord T rows
structure tz (md:Int) (s:ae) (ts:fC):Prop where
 len:ts.length=s.ah.length
 row:∀(t:Nat) T rows,s.ah[t]? =V T->ts[t]? =V rows->rows.length<=24/\∀r∈rows,gH md T.aH 0 (ey T) r=M
 ord:∀(t:Nat) T rows,s.ah[t]? =V T->ts[t]? =V rows->Ord T rows
def ZM (ts:fC):Prop:=∀(t:Nat) rows,ts[t]? =V rows->rows.length<=8
def tz.m {md:Int} {s:ae} {ts:fC} (h:tz md s ts):StM md s ts:=⟨h.len,λt T rows hT hr=>⟨(h.row t T rows hT hr).2,h.ord t T rows hT hr⟩⟩
def aoF (md:Int) (k:Int->Int->Int->aN->ae->aw->aw->cf->A (aw×aN)) (s:ae) (t:Nat) (T:ai) (hT:s.ah[t]? =V T) (ht:jT T) (a1 a2:Int) (Q:aw×aN->Prop):∀(j m:Nat) (c:aN) (z1 z2:aw) (ts:cf) (rows:bn),4000+j<m->dd c->ts[t]? =V rows->rows.length+j<=8->(∀r∈rows,gH md T.aH 0 (ey T) r=M)->Ord T rows->
  (∀c' z1' z2' rows',dd c'->rows'.length<=8->(∀r∈rows',gH md T.aH 0 (ey T) r=M)->Ord T rows'->Ok (k md a1 a2 c' s z1' z2' (ts.set t rows')) Q)->
  Ok (Qe k m md (t:Int) (j:Int) a1 a2 c s z1 z2 ts) Q
 |0,m+1,c,z1,z2,ts,rows,hm,hc,hg,hl,hr,hO,hk=>by
  have hq:¬(0:Int)<((0:Nat):Int):=by omega
  simp only[Qe,adB,hq,aR,az,au];have:=hk c ⟨[]⟩ ⟨ts⟩ rows hc (by omega) hr hO
  have e:ts.set t rows=ts:=by
   obtain ⟨h1,h2⟩:=bK.1 hg;rw[<-h2];exact Hr h1
  rwa[e] at this
 |j+1,m+1,c,z1,z2,ts,rows,hm,hc,hg,hl,hr,hO,hk=>by
  have hq:(0:Int)<((j+1:Nat):Int):=by omega
  have vx:idx s.ah (t:Int)=V T:=by rw[bA];exact hT
  have fg:=ht.cols;have hkl:=pX T;simp only[Qe,adB,hq,aO,ax,UF vx (by omega) (by omega:1000<m),ak,vx]
  refine Ok.bind (aHC m md (by omega) c (ey T) T.aH ht.ks (by omega) hc) λr ⟨h1,h2⟩=> ?_
  have o9:=gT h2;have k1:=ht.pY;have k2:=ht.jG;rw[NI (n:=m) vx ht r.1 o9,ak];rw[aoM (n:=m) hT ht (by simp;omega) (by omega) hg (λy hy=>gT (hr y hy)) (by omega) hO (by omega),ak]
  have cR:r.1≠ []:=λe=>by rw[e] at o9;simp at o9;omega
  have e1:kb r.1= [r.1]:=by unfold kb;rw[aC cR]
  rw[e1];have q2:=JQ (T:=T) (dY T r.1) [r.1] rows;have q4:=Rl (T:=T) hO (.inr ⟨r.1,rfl,rfl⟩: [r.1]= []\/∃y,[r.1]= [y]/\dY T y=dY T r.1);have q3:∀y∈mo T (dY T r.1) [r.1] rows,gH md T.aH 0 (ey T) y=M:=λy hy=>by
   rcases xP.1 hy with h|h
   ·exact hr y h.1
   ·rw[gg.1 h];exact h2
  generalize mo T (dY T r.1) [r.1] rows=rows' at q2 q3 q4;simp at q2;have hw:aV (((j+1:Nat):Int)-1)=(j:Int):=by rw[cT (by omega) (by omega)];omega
  rw[hw];have mm:t<ts.length:=(bK.1 hg).1;refine aoF md k s t T hT ht a1 a2 Q j m r.2 _ _ (ts.set t rows') rows' (by omega) h1 (by rw[j3 mm]) (by omega) q3 q4 λc' z1' z2' aLd k1 k2 k3 k4=> ?_
  rw[uM];exact hk c' z1' z2' aLd k1 k2 k3 k4
 |_,0,_,_,_,_,_,hm,_,_,_,_,_,_=>by omega
def aoE (md:Int) (n0:Nat) (s:ae) (hs:pj s):∀(x:bD) (i m:Nat) (c:aN) (z1 z2:aw) (ts:cf),s.ah.drop i=x->4100+x.length<m->dd c->tz md s ts->ZM ts->(∀t,i<=t->t<ts.length->ts[t]? =V [])->
  Ok (K0 (Vh n0) m md (s.ah.length:Int) (i:Int) c s z1 z2 ts) λr=>dd r.2/\tz md s r.1.ah/\ZM r.1.ah
 | [],i,m+1,c,z1,z2,ts,hd,hm,hc,mm,hf,h0=>by
  obtain ⟨this,hq⟩:=eI hd
  simp only[K0,adz,Vh,hq,aR,az,au];exact Ok.pure ⟨hc,mm,hf⟩
 |T::x,i,m+1,c,z1,z2,ts,hd,hm,hc,mm,hf,h0=>by
  obtain ⟨g1,g2,g3,hq⟩:=dO hd
  have hl8:=hs.len;have ht:=hs.bY (i:Int) T (by rw[bA];exact g1)
  simp at hm;simp only[K0,adz,hq,aO,ax];refine Ok.bind (j7 m c 5 hc) λr ⟨hr,r0,r1,_⟩=> ?_
  have r1:=r1 (by omega)
  have e:r.1=((r.1.toNat:Nat):Int):=by omega
  rw[e];refine aoF md (adA (K0 (Vh n0) m) m) s i T g1 ht _ _ _ r.1.toNat m r.2 _ _ ts [] (by omega) hr (h0 i (cS _) (by rw[mm.len];omega)) (by simp;omega) (by simp) (by simp[Ord]) λc' z1' z2' rows' k1 k2 k3 k4=> ?_
  unfold adA;rw[bV g3 (by omega)]
  refine aoE md n0 s hs x (i+1) m c' _ _ _ g2 (by omega) k1 ⟨by rw[kp];exact mm.len,λt T' rows gz iR=> ?_,λt T' rows gz iR=> ?_⟩ (λt rows iR=> ?_) λt h1 h2=> ?_
  ·by_cases hti:t=i
   ·subst hti;rw[g1] at gz;cases gz;rw[j3 (by rw[mm.len];omega)] at iR
    cases iR;exact ⟨by omega,k3⟩
   ·rw[mE (λe=>hti e.symm)] at iR
    exact mm.row t T' rows gz iR
  ·by_cases hti:t=i
   ·subst hti;rw[g1] at gz;cases gz;rw[j3 (by rw[mm.len];omega)] at iR
    cases iR;exact k4
   ·rw[mE (λe=>hti e.symm)] at iR
    exact mm.ord t T' rows gz iR
  ·by_cases hti:t=i
   ·subst hti;rw[j3 (by rw[mm.len];omega)] at iR
    cases iR;exact k2
   ·rw[mE (λe=>hti e.symm)] at iR
    exact hf t rows iR
  ·rw[mE (by omega)]
   rw[kp] at h2;exact h0 t (by omega) h2
 |_,_,0,_,_,_,_,_,hm,_,_,_,_=>by omega
def aWk (hn:5000<=f8) (s:ae) (hs:pj s) (c:aN) (hc:dd c):Ok (F19 f8 c s E) λr=>dd r.2/\tz E s r.1.ah/\ZM r.1.ah:=by
 have hl8:=hs.len;have e:rh (s.ah.length:Int) ([]:bn)=V (P' s.ah.length []):=by
  unfold rh;rw[aF (by omega)];rfl
 unfold F19 auG;rw[e,ak];refine aoE E f8 s hs s.ah 0 f8 c _ _ _ rfl (by omega) hc ⟨by simp,λt T rows hT iR=> ?_,λt T rows hT iR=> ?_⟩ (λt rows iR=> ?_) λt _ h=> ?_
 ·obtain ⟨h1,h2⟩:=bK.1 iR;simp at h2;subst h2;simp
 ·obtain ⟨h1,h2⟩:=bK.1 iR;simp at h2;subst h2;simp[Ord]
 ·obtain ⟨h1,h2⟩:=bK.1 iR;simp at h2;subst h2;simp
 ·rw[uN] at h;simp[h]
end
def ny:Int:=if F.bg=7 then (if H=F.av then -1 else if F.av<H then H-1 else H) else H
def Lx:Int:=if E=H then L else if H<E/\E<=L then E-1 else if L<=E/\E<H then E+1 else E
def pB:Int:=
 if F.bg=7 then (if H=F.av then -1 else L)
 else if F.bg=2 then (if H=F.av/\0<=L then (if L=F.ba then -1 else if F.ba<L then L-1 else L) else L)
 else if F.bg=3 then (if H=F.av/\0<=L then Lx L F.ba F.kM else L) else L
def uc:Bool:= !(U (F.bg=7/\H=F.av)||decide (F.bg=2/\H=F.av/\0<=L/\L=F.ba))
def apk (hm:nr F.ba) (t c:Int) (h0:0<=t) (h1:t<=1000) (h2: -1<=c) (h3:c<=1000):ZZ D F t c=V (ny F t,pB F t c,uc F t c):=by
 have w:∀x:Int,0<=x->x<=1000->aV (x-1)=x-1:=λx a b=>cT (by omega) (by omega)
 unfold ZZ Wv ny pB uc;by_cases e7:F.bg=7
 ·simp only[e7,gQ,ax];by_cases et:t=F.av
  ·simp[et]
  ·have et':(t==F.av)=B:=by simpa using et
   simp only[et',az,au,et];by_cases hl:F.av<t
   ·simp[hl,w t h0 h1]
   ·simp[hl]
 ·have e7':(F.bg==7)=B:=by simpa using e7
  simp only[e7',az,au,e7];by_cases e2:F.bg=2
  ·simp only[e2,gQ,ax];by_cases et:t=F.av
   ·have et':(t==F.av)=M:=by simpa using et
    simp only[et',ax];by_cases hc:c<0
    ·have:¬0<=c:=by omega
     simp[hc,et,this]
    ·have hc0:0<=c:=by omega
     simp only[hc,aR,gB,ax];by_cases ec:c=F.ba
     ·have:0<=F.ba:=by omega
      simp[et,ec,this]
     ·have ec':(c==F.ba)=B:=by simpa using ec
      simp only[ec',az,au];by_cases hl:F.ba<c
      ·simp[hl,et,hc0,ec,w c hc0 h3]
      ·simp[hl,et,hc0,ec]
   ·have et':(t==F.av)=B:=by simpa using et
    simp[et',et]
  ·have Nd:(F.bg==2)=B:=by simpa using e2
   simp only[Nd,az,au,e2];by_cases e3:F.bg=3
   ·simp only[e3,gQ,ax];by_cases et:t=F.av
    ·have et':(t==F.av)=M:=by simpa using et
     simp only[et',ax];by_cases hc:c<0
     ·have:¬0<=c:=by omega
      simp[hc,et,this]
     ·have hc0:0<=c:=by omega
      simp only[hc,aR,gB,ax];rw[apd D c F.ba F.kM ⟨by omega,by omega⟩ hm,ak]
      simp[et,hc0,Lx]
    ·have et':(t==F.av)=B:=by simpa using et
     simp[et',et]
   ·have e3':(F.bg==3)=B:=by simpa using e3
    simp[e3',e3]
def avS {l:List J} {j a:Nat} {g8 T:J} (h:l[a]? =V T):(l.set j g8)[a]? =V (if a=j then g8 else T):=by
 have hl:=(bK.1 h).1;by_cases e:a=j
 ·subst e;rw[j3 hl,aF rfl]
 ·rw[mE (qp e),h,aC e]
def KndP:Prop:=Y.length<=1000/\∀p∈Y,p.f0.aE=p.f1.aE
def fZ:cH->Int->Int
 | [],t=>t
 |m::ms,t=>if ny m t<0 then -1 else fZ ms (ny m t)
def hI.knd {k:Int} (h:hI l) (hp:xl k l=M):KndP l:=by
 have hm:=JT hp;rcases h with ⟨a,rfl⟩|⟨a,b,_,rfl⟩
 ·exact ⟨by simp,λp hp=>by rw[gg.1 hp]⟩
 ·have h1:=(hm ⟨a,b⟩ (by simp)).2
  have h2:=(hm ⟨b,a⟩ (by simp)).2
  refine ⟨by simp,λp hp=> ?_⟩
  rcases da.1 hp with rfl|hp
  ·exact h1.trans h2.symm
  ·rw[gg.1 hp];exact h2.trans h1.symm
section
def dQ.drop:∀{k:Nat} {s:ae} {ms:cH} {ts:gZ},gm s=0->dQ s ms ts->k<=ts.length->∃u,(s::ts)[k]? =V u/\(s::ts).drop k=u::ts.drop k/\dQ u (ms.drop k) (ts.drop k)/\gm u=0/\(u::ts.drop k).getLast (by simp)=(s::ts).getLast (by simp)
 |0,s,ms,ts,hs,hc,_=>⟨s,rfl,rfl,by simpa using hc,hs,by simp⟩
 |k+1,s,m::ms,t::ts,hs,hc,hk=>by
  obtain ⟨u,h1,h2,h3,h4,h5⟩:=dQ.drop (k:=k) hc.2.2.1 hc.2.2.2 (by simpa using hk)
  refine ⟨u,by simpa using h1,?_,by simpa using h3,h4,?_⟩
  ·simpa using h2
  ·rw[List.getLast_cons (by simp:t::ts≠ [])]
   simpa using h5
 |k+1,_,[],[],_,_,hk=>by simp at hk
 |k+1,_,[],_::_,_,h,_=>by cases h
 |k+1,_,_::_,[],_,h,_=>by cases h
section
variable {n:Nat} {s:ae} {ms:cH} {ts:gZ} {k:Nat}
def azO (hn:1800000<n) (fP:n<4294967296) (hs:gm s=0) (hm:∀m∈ms,MB m/\(m.bg=8->hI m.cA)) (hl:ms.length<=8) (hv:s.aA+(ms.length:Int)<=1000) (hc:dQ s ms ts) (hk:k<=ts.length):
  F54 n s ms (s.aA+(k:Int))=V (⟨(s::ts).drop k,ms.drop k⟩,0):=by
 have hlen:=hc.len;have hv0:=(SG.of hs).v0;have w:aV (s.aA+(k:Int)-s.aA)=(k:Int):=by rw[cT (by omega) (by omega)];omega
 have q1:¬(s.aA+(k:Int)<s.aA):=by omega
 have q2:(k:Int)<((s::ts).length:Int):=by rw[iU];omega
 unfold F54 aun;rw[aQx n hn fP s hs ms hm hl hv ts hc,ak];simp only[jJ,az,au,q1,aR,w,q2,aO,dh];rw[RX (by simp;omega),ak,RX (by omega),ak]
def azN {r:gZ} (hr:r.length<=1000):F55 n ⟨u::r,ms⟩=V ((u::r).getLast (by simp)):=by
 have hL:(u::r).length=r.length+1:=rfl;have w:aV (((u::r).length:Int)-1)=(((u::r).length-1:Nat):Int):=by rw[cT (by rw[hL];omega) (by rw[hL];omega),hL];omega
 unfold F55 aum;show (idx (u::r) (aV (((u::r).length:Int)-1))).bind _=_;rw[w,bA,adJ];rfl
def aiU {r:gZ}:F56 n ⟨u::r,ms⟩=V u:=rfl
end
section
variable {s:ae} {ms:cH} {ts:gZ} {a:Nat} {T:ai}
end
section
variable {N:ae} {ms:cH} {a:Int} {w:Nat} {T:ai} {row:bp} {ps:lz}
end
end
section
section
variable {s:ae} {T:ai} {md:Int} {ts:fC}
def afT:∀{rs:bn} {p:A bp},(∀r∈rs,gH md T.aH 0 (ey T) r=M)->(∀q,p=V q->∀r∈rs,lt (dY T q) (dY T r))->Ord T rs->Bc md T p rs=M
 | [],p,_,_,_=>by simp[Bc]
 |r::rs,p,h1,h2,h3=>by
  obtain ⟨h4,h5⟩:=lL.1 h3;simp only[Bc,bJ];refine ⟨h1 r (by simp),?_,afT (λy hy=>h1 y (by simp[hy])) (λq hq y hy=> ?_) h5⟩
  ·cases p with
   |none=>rfl
   |some q=>simp only[behind,j2];exact s9.2 (h2 q rfl r (by simp))
  ·cases hq;exact h4 y hy
def aeb:∀{Ts:bD} {rss:fC},(∀(t:Nat) T rows,Ts[t]? =V T->rss[t]? =V rows->Bc md T G rows=M)->C2 md Ts rss=M
 | [],_,_=>by simp[C2]
 |_::_,[],_=>by simp[C2]
 |T::Ts,rs::rss,h=>by
  simp only[C2,bJ];exact ⟨h 0 T rs rfl rfl,aeb λt g8 rows h1 h2=>h (t+1) g8 rows (by simpa using h1) (by simpa using h2)⟩
def StM.kC (h:StM md s ts) (ht:total ts<=512):SP md s 0 ts=0:=by
 unfold SP;rw[aF rfl,aC (by omega),aF h.len,aeb λt T rows h1 h2=>by
  obtain ⟨r1,r2⟩:=h.row t T rows h1 h2;exact afT r1 (by simp) r2,aF rfl]
end
def adZ:∀{ts:fC},(∀rs∈ts,rs.length<=24)->total ts<=24*ts.length
 | [],_=>by simp[total]
 |rs::ts,h=>by
  have h1:=h rs (by simp)
  have h2:=adZ (ts:=ts) λr hr=>h r (by simp[hr])
  simp only[total,iU];omega
def tz.tot {md:Int} {s:ae} {ts:fC} (h:tz md s ts):total ts<=24*ts.length:=adZ λrs zh=>by
 obtain ⟨t,ht⟩:=Ag zh;have vU:=(bK.1 ht).1;have hT:t<s.ah.length:=by rw[<-h.len];exact vU
 exact (h.row t s.ah[t] rs (cX hT) ht).1
end
def A4 (m:aG) (a:Nat) (T T':ai):Prop:=T'.aH=T.aH/\∀(c:Nat) x,T.ag[c]? =V x->
 (uc m a c=M/\∃(d:Nat) (y:cF),pB m a c=(d:Int)/\T'.ag[d]? =V y/\y.aE=x.aE/\((c:Int)<T.aH->d=c))\/
 (uc m a c=B/\jK m.bk=M/\pB m a c= -1/\m.bk.aE=x.aE/\T.aH<=(c:Int))
def A4.same {m:aG} {a:Nat} {T g8:ai} (h7:¬(m.bg=7/\(a:Int)=m.av)) (h2:¬(m.bg=2/\(a:Int)=m.av)) (h3:¬(m.bg=3/\(a:Int)=m.av)) (hk:g8.aH=T.aH) (hc:∀(c:Nat) x,T.ag[c]? =V x->∃y,g8.ag[c]? =V y/\y.aE=x.aE):A4 m a T g8:=⟨hk,λc x hx=>by
 obtain ⟨y,y1,y2⟩:=hc c x hx;refine .inl ⟨?_,c,y,?_,y1,y2,λ_=>rfl⟩
 ·simp only[uc];rw[D1 h7,D1 λe=>h2 ⟨e.1,e.2.1⟩];rfl
 ·unfold pB;split
  ·rw[aC λe=>h7 ⟨‹_›,e⟩]
  ·split
   ·rw[aC λe=>h2 ⟨‹_›,e.1⟩]
   ·split
    ·rw[aC λe=>h3 ⟨‹_›,e.1⟩]
    ·rfl⟩
def Km:pB F H (-1)= -1:=by
 unfold pB;split
 ·split<;>rfl
 ·split
  ·rw[aC λe=>absurd e.2 (by omega)]
  ·split
   ·rw[aC λe=>absurd e.2 (by omega)]
   ·rfl
def RN {m:aG} {t:Int} (h:m.bg=7->t≠m.av):uc m t (-1)=M:=by
 simp only[uc];rw[D1 λe=>h e.1 e.2,D1 λe=>absurd e.2.2.1 (by omega)];rfl
def mj.aCp {s t':ae} {m:aG} (h:mj s m t') {a:Nat} {T:ai} (hT:s.ah[a]? =V T):(m.bg=7/\(a:Int)=m.av)\/
  ((m.bg=7->(a:Int)≠m.av)/\∃(a':Nat) (T':ai),ny m (a:Int)=(a':Int)/\t'.ah[a']? =V T'/\A4 m a T T'):=by
 have keep:∀(g8:ai) (j:Nat) (ts:bD),m.bg≠7->m.av=(j:Int)->(a=j->A4 m a T g8)->ts=s.ah.set j g8->(m.bg=7->(a:Int)≠m.av)/\∃(a':Nat) (T':ai),ny m (a:Int)=(a':Int)/\ts[a']? =V T'/\A4 m a T T':=by
  intro g8 j ts n7 hj hU e;subst e;refine ⟨λh=>absurd h n7,a,_,by simp[ny,n7],avS hT,?_⟩
  split
  ·exact hU ‹_›
  ·rename_i ne;have et:¬(a:Int)=m.av:=by omega
   exact A4.same (λh=>et h.2) (λh=>et h.2) (λh=>et h.2) rfl λc x hx=>⟨x,hx,rfl⟩
 cases h with
 |asx j T0 h hj vX hv hk=>
  refine .inr (keep _ j _ (by omega) hj (λe=> ?_) rfl)
  subst e;rw[hT] at vX;cases vX;exact A4.same (by omega) (by omega) (by omega) rfl λc x hx=>⟨x,by
   show (T.ag++_)[c]? =_;rw[pE (bK.1 hx).1];exact hx,rfl⟩
 |aqg j c0 T0 x0 h hj vX hc MN=>
  refine .inr (keep _ j _ (by omega) hj (λe=> ?_) rfl)
  subst e;rw[hT] at vX;cases vX;exact A4.same (by omega) (by omega) (by omega) rfl λc x hx=>⟨_,avS hx,by
   split
   ·rename_i e;subst e;rw[MN] at hx;cases hx;rfl
   ·rfl⟩
 |aqf j T0 h hj vX=>
  refine .inr (keep _ j _ (by omega) hj (λe=> ?_) rfl)
  subst e;rw[hT] at vX;cases vX;exact A4.same (by omega) (by omega) (by omega) rfl λc x hx=>⟨x,hx,rfl⟩
 |Eh j c0 T0 x0 h hj vX hc hx hk hp hu=>
  exact .inr ⟨λe=>by omega,a,T,by simp[ny,h],hT,A4.same (by omega) (by omega) (by omega) rfl λc x hx=>⟨x,hx,rfl⟩⟩
 |asw h=>
  exact .inr ⟨λe=>by omega,a,T,by simp[ny,h],by
   show (s.ah++ [m.bt])[a]? =V T;rw[pE (bK.1 hT).1,hT],A4.same (by omega) (by omega) (by omega) rfl λc x hx=>⟨x,hx,rfl⟩⟩
 |abS j T0 h hj vX hr=>
  by_cases e:(a:Int)=m.av
  ·exact .inl ⟨h,e⟩
  ·have ne:a≠j:=λh=>e (by rw[h,hj])
   have F3:=(bK.1 vX).1;have fin:∀a':Nat,(s.ah.take j++s.ah.drop (j+1))[a']? =V T->ny m (a:Int)=(a':Int)->((m.bg=7->(a:Int)≠m.av)/\∃(a':Nat) (T':ai),ny m (a:Int)=(a':Int)/\((s.ah.take j++s.ah.drop (j+1)).map (nC (j:Int)))[a']? =V T'/\A4 m a T T'):=λa' ha' hf=>
    ⟨λ_=>e,a',nC (j:Int) T,hf,by rw[oe,ha'];rfl,A4.same (λq=>e q.2) (λq=>e q.2) (λq=>e q.2) rfl λc x hx=>⟨x,hx,rfl⟩⟩
   right;by_cases hl:j<a
   ·refine fin (a-1) ?_ ?_
    ·rw[nY (by rw[dE];omega),dE,fu (by omega),fh,show j+1+(a-1-j)=a by omega,hT]
    ·have:m.av<(a:Int):=by omega
     simp only[ny,h,e,this,ax,au];omega
   ·refine fin a ?_ ?_
    ·rw[pE (by rw[dE];omega),fw,aF (by omega),hT]
    ·have:¬m.av<(a:Int):=by omega
     simp[ny,h,e,this]
 |abT j c0 T0 x0 h hj vX hc MN hk hv Ad hu=>
  refine .inr (keep _ j _ (by omega) hj (λe=> ?_) rfl)
  subst e;rw[hT] at vX;cases vX;have hl:c0<T.ag.length:=(bK.1 MN).1;have et:(a:Int)=m.av:=hj.symm;refine ⟨rfl,λc x hx=> ?_⟩
  have fg:=(bK.1 hx).1;have ec:pB m a c=if (c:Int)=m.ba then -1 else if m.ba<(c:Int) then (c:Int)-1 else (c:Int):=by simp[pB,h,et]
  have es:uc m a c= !U ((c:Int)=m.ba):=by simp[uc,h,et]
  rw[ec,es,hc];by_cases q:c=c0
  ·subst q;rw[MN] at hx;cases hx;exact .inr ⟨by simp,hv,by simp,Ad,hk⟩
  ·have q':¬(c:Int)=(c0:Int):=by omega
   refine .inl ⟨by simp[q'],if c0<c then c-1 else c,x,?_,?_,rfl,λhq=> ?_⟩
   ·rw[aC q'];split<;>split<;>omega
   ·show (T.ag.take c0++T.ag.drop (c0+1))[_]? =_;split
    ·rw[nY (by rw[dE];omega),dE,fu (by omega),fh,show c0+1+(c-1-c0)=c by omega,hx]
    ·rw[pE (by rw[dE];omega),fw,aF (by omega),hx]
   ·rw[aC (by omega)]
 |move j c0 d T0 h hj vX hc hd k1 k2 hk yH=>
  refine .inr (keep _ j _ (by omega) hj (λe=> ?_) rfl)
  subst e;rw[hT] at vX;cases vX;have et:(a:Int)=m.av:=hj.symm;refine ⟨rfl,λc x hx=> ?_⟩
  have fg:=(bK.1 hx).1;have ec:pB m a c=Lx c c0 d:=by simp[pB,h,et,hc,hd]
  have es:uc m a c=M:=by simp[uc,h]
  rw[ec,es];have hm:0<=Lx (c:Int) c0 d/\Lx (c:Int) c0 d<(T.ag.length:Int)/\((c:Int)<T.aH->Lx (c:Int) c0 d=c):=by
   unfold Lx;split
   ·exact ⟨by omega,by omega,by omega⟩
   ·split
    ·exact ⟨by omega,by omega,by omega⟩
    ·split<;>exact ⟨by omega,by omega,by omega⟩
  have hq:((Lx (c:Int) c0 d).toNat:Int)=Lx (c:Int) c0 d:=WN hm.1;refine .inl ⟨rfl,(Lx (c:Int) c0 d).toNat,x,hq.symm,?_,rfl,λjv=>by have:=hm.2.2 jv;omega⟩
  show (xn T.ag c0 d)[_]? =_;rw[anD k1 k2 (by omega),hq]
  have:fY (d:Int) (c0:Int) (Lx (c:Int) c0 d)=(c:Int):=by
   unfold fY Lx;repeat' split
   all_goals omega
  rw[this];exact hx
def CL:Prop:=Y.length<=1000/\∀p∈Y,p.f0.aE=p.f1.aE/\jK p.f0=M
def ach:Prop:=ad.aE=S.aE/\(jK S=M->jK ad=M)
def azF (n0:Nat) (l:gq) (hl:CL l) (v z:aT):∀(x:gq) (i k:Nat),l.drop i=x->x.length<k->Ok (zO (Js n0) k 1 l (l.length:Int) (i:Int) v z) (ach v)
 | [],i,k+1,hd,hk=>by
  have hq:¬((i:Int)<(l.length:Int)):=by
   have:l.length<=i:=by simpa using hd
   omega
  simp only[zO,Jt,hq,aR,az,au,Js];exact Ok.pure ⟨rfl,id⟩
 |p::x,i,k+1,hd,hk=>by
  obtain ⟨g1,g2,g3,hq⟩:=dO hd
  have EH:=hl.1;simp at hk;simp only[zO,Jt,hq,aO,ax,bA,g1,ak];have e10:((1:Int)==0)=B:=rfl;have e11:((1:Int)==1)=M:=rfl;simp only[e10,e11,az,au,ax];unfold NY;have w0:aV (1-1)=0:=cT (by omega) (by omega)
  rw[w0,bV g3 (by omega)]
  refine Ok.ite (λhe=> ?_) λ_=>azF n0 l hl v z x (i+1) k g2 (by omega)
  have e00:((0:Int)==0)=M:=rfl;simp only[e00,ax];obtain ⟨p1,p2⟩:=hl.2 p (bU g1);simp only[bJ,sR] at he;exact Ok.pure ⟨p1.trans he.1,λ_=>p2⟩
 |_,_,0,_,hk=>by omega
def aQw (hl:CL Y) (v:aT) (hn:2000<D):Ok (ajj D Y v 1) (ach v):=
 azF D Y hl v _ Y 0 D rfl (by have:=hl.1;omega)
def azH (n0:Nat) (p:dR) (hp:∀l∈p.cU,CL l) (hl:p.cU.length<=1000) (z:aT):∀(i k:Nat) (v:aT),i<=p.cU.length->i+2100<k->Ok (zP (Jx n0) k ((i:Int)-1) p v z) λr=>ach v r/\(i=0->r=v)
 |0,k+1,v,_,_=>by
  have hq:(((0:Nat):Int)-1)<0:=by omega
  simp only[zP,Jy,hq,aO,dh,az,au,Jx];exact Ok.pure ⟨⟨rfl,id⟩,λ_=>rfl⟩
 |i+1,k+1,v,hi,hk=>by
  have e:(((i+1:Nat):Int)-1)=(i:Int):=by omega
  rw[e];have hq:¬((i:Int)<0):=by omega
  have hg:p.cU[i]? =V p.cU[i]:=cX (by omega)
  simp only[zP,Jy,hq,aR,gB,ax,bA,hg,ak];refine Ok.bind (aQw k _ (hp _ (nZ _)) v (by omega)) λr hr=> ?_
  rw[cT (by omega) (by omega)]
  exact (azH n0 p hp hl z i k r (by omega) (by omega)).mono λq hq=>⟨⟨hq.1.1.trans hr.1,λh=>hq.1.2 (hr.2 h)⟩,λh=>by omega⟩
 |_,0,_,_,hk=>by omega
def aQA (p:dR) (hp:∀l∈p.cU,CL l) (hl:p.cU.length<=1000) (v:aT) (hn:4000<D):Ok (Si D p v) λr=>ach v r/\(p.cU= []->r=v):=by
 unfold Si Ww;rw[cT (by omega) (by omega)]
 exact (azH D p hp hl _ p.cU.length D v (cS _) (by omega)).mono λr hr=>⟨hr.1,λh=>hr.2 (by rw[h];rfl)⟩
section
def AtK (T:ai) (c:Int) (sv:Bool) (fx:aT) (k0 c0:Int):Prop:=(c0<0/\c= -1/\sv=M)\/(0<=c0/\sv=M/\∃(d:Nat) (y:cF),c=(d:Int)/\T.ag[d]? =V y/\y.aE=k0/\(c0<T.aH->c=c0))\/(0<=c0/\sv=B/\c= -1/\jK fx=M/\fx.aE=k0/\T.aH<=c0)
def AtK.rng {T:ai} {k0 c0:Int} {fx:aT} (h:AtK T c sv fx k0 c0): -1<=c/\c<(T.ag.length:Int):=by
 rcases h with ⟨_,h,_⟩|⟨_,_,d,y,h1,h2,_⟩|⟨_,_,h,_⟩
 ·omega
 ·have:=(bK.1 h2).1;omega
 ·omega
structure asT (sN:ae) (w Cz k0 c0:Int) (p:dR):Prop where
 bY:p.gX=w
 agd:∀l∈p.cU,CL l
 few:p.cU.length<=1000
 off:w<0->p.dL=B
 on:0<=w->∃(a:Nat) (T:ai),w=(a:Int)/\sN.ah[a]? =V T/\T.aH=Cz/\AtK T p.fV p.dL p.fU k0 c0/\(0<=c0->c0<Cz->p.cU= [])
def hI.kndR {k:Int} (h:hI l) (hp:xl k l=M):CL l:=by
 obtain ⟨h1,h2⟩:=h.knd hp;exact ⟨h1,λp hm=>⟨h2 p hm,(JT hp p hm).1⟩⟩
def ata (n0:Nat) (all:cH) (hl:all.length<=8) (Cz k0 c0:Int) (im:∀m∈all,MB m/\(m.bg=8->hI m.cA)) (b6:dR):∀(x:cH) (i k:Nat) (s:ae) (ts:gZ) (a:Nat) (T:ai) (c:Int) (p:dR),all.drop i=x->x.length+5000<k->k<4294967296->gm s=0->dQ s x ts->s.ah[a]? =V T->T.aH=Cz->AtK T c p.dL p.fU k0 c0->
  p.gX=(a:Int)->p.fV=c->(∀l∈p.cU,CL l)->p.cU.length<=100+i->i<=8->(0<=c0->c0<Cz->p.cU= [])->
  Ok (xH (Dt n0) k all (all.length:Int) (i:Int) b6 p p.cU) (asT ((s::ts).getLast (by simp)) (fZ x (a:Int)) Cz k0 c0)
 | [],i,k+1,s,ts,a,T,c,p,hd,hk,jv,hs,hc,hT,hK,hA,e1,e2,hr,o9,hi,h0=>by
  obtain rfl:ts= []:=by cases ts with|nil=>rfl|cons=>cases hc
  have hq:¬((i:Int)<(all.length:Int)):=by
   have:all.length<=i:=by simpa using hd
   omega
  simp only[xH,Qr,hq,aR,az,au,Dt];exact Ok.pure ⟨e1,hr,by show p.cU.length<=_;omega,λh=>by simp only[fZ] at h;omega,λ_=>⟨a,T,rfl,hT,hK,by show AtK T p.fV _ _ _ _;rw[e2];exact hA,h0⟩⟩
 |m::x,i,k+1,s,ts,a,T,c,p,hd,hk,jv,hs,hc,hT,hK,hA,e1,e2,hr,o9,hi,h0=>by
  obtain ⟨g1,g2,g3⟩:=qG hd;have hm:=im m (bU g1);obtain ⟨t',vE,rfl⟩:∃t' vE,ts=t'::vE:=by cases ts with|nil=>cases hc|cons t' vE=>exact ⟨t',vE,rfl⟩
  obtain ⟨hb,lV,Lz,lW⟩:=hc;have hG:=SG.of hs;have B0:=hG.bY T (bU hT);have fg:T.ag.length<=8:=B0.cols;have EM:a<8:=by have:=(bK.1 hT).1;have:=hG.len;omega
  obtain ⟨c1,c2⟩:=hA.rng;have hq:(i:Int)<(all.length:Int):=by omega
  have De:((s::t'::vE).getLast (by simp))=((t'::vE).getLast (by simp)):=by simp
  rw[De];simp at hk;simp only[xH,Qr,hq,aO,ax,bA,g1,ak];have rest:∀(rs:tw) (b6':dR),(∀l∈rs,CL l)->rs.length<=101+i->(0<=c0->c0<Cz->rs= [])->Ok (Bq (xH (Dt n0) k) k all (all.length:Int) (i:Int) b6' ⟨p.gX,p.fV,p.dL,p.fU,rs⟩ m rs) (asT ((t'::vE).getLast (by simp)) (fZ (m::x) (a:Int)) Cz k0 c0):=λrs b6' zh hrl' xt=>by
   unfold Bq;simp only[e1,e2];rw[apk k m hm.1.Gg (a:Int) c (by omega) (by omega) c1 (by omega),ak]
   rcases lV.aCp hT with ⟨h7,ha⟩|⟨hn7,a',T',f1,f2,f3,f4⟩
   ·have:ny m (a:Int)= -1:=by simp[ny,h7,ha]
    simp only[this,show ((-1:Int)<0) from by omega,aO,ax]
    refine Ok.pure ⟨by simp[fZ,this],λl hl=>by simp at hl,by simp,λ_=>rfl,λh=> ?_⟩
    simp[fZ,this] at h
   ·have dz:¬(ny m (a:Int)<0):=by omega
    have hw:fZ (m::x) (a:Int)=fZ x (a':Int):=by simp only[fZ];rw[aC dz,f1]
    simp only[dz,aR,az,au];rw[hw,f1];have stay:uc m a c=M->AtK T' (pB m a c) p.dL p.fU k0 c0:=λqC=>by
     rcases hA with ⟨a1,a2,a3⟩|⟨a1,a2,d,y,a3,a4,a5,a6⟩|⟨a1,a2,a3,a4,a5,a6⟩
     ·exact .inl ⟨a1,by rw[a2,Km],a3⟩
     ·rcases f4 d y a4 with ⟨_,d',y',b1,b2,b3,b4⟩|⟨b1,_⟩
      ·exact .inr (.inl ⟨a1,a2,d',y',by rw[a3,b1],b2,b3.trans a5,λh=>by
        have h6:=a6 (by omega)
        have:=b4 (by omega)
        rw[a3,b1];omega⟩)
      ·rw[a3,b1] at qC;cases qC
     ·exact .inr (.inr ⟨a1,a2,by rw[a3,Km],a4,a5,by omega⟩)
    refine Ok.ite (λqC=> ?_) λqC=> ?_
    ·have qC:uc m a c=B:=by simpa using qC
     obtain ⟨a1,d,y,a3,a4,a5,a6⟩:0<=c0/\∃(d:Nat) (y:cF),c=(d:Int)/\T.ag[d]? =V y/\y.aE=k0/\(c0<T.aH->c=c0):=by
      rcases hA with ⟨_,a2,_⟩|⟨a1,_,h⟩|⟨_,_,a2,_⟩
      ·rw[a2,RN hn7] at qC;cases qC
      ·exact ⟨a1,h⟩
      ·rw[a2,RN hn7] at qC;cases qC
     obtain ⟨hv,hcm,Ad,Zo⟩:jK m.bk=M/\pB m a c= -1/\m.bk.aE=y.aE/\T.aH<=c:=by
      rcases f4 d y a4 with ⟨b1,_⟩|⟨_,b⟩
      ·rw[a3,b1] at qC;cases qC
      ·rw[a3];exact b
     refine Ok.bind (aQA k ⟨(a:Int),c,p.dL,p.fU,rs⟩ zh (by show rs.length<=_;omega) m.bk (by omega)) λy' hy=> ?_
     unfold Ld;rw[bV g3 (by omega)]
     exact ata n0 all hl Cz k0 c0 im _ x (i+1) k t' vE a' T' (pB m a c) ⟨(a':Int),pB m a c,B,y',rs⟩ g2 (by omega) (by omega) Lz lW f2 (by omega) (.inr (.inr ⟨a1,rfl,hcm,hy.1.2 hv,hy.1.1.trans (Ad.trans a5),by
      by_cases h:c0<T.aH
      ·have:=a6 h;omega
      ·omega⟩)) rfl rfl zh (by show rs.length<=_;omega) (by omega) xt
    ·have qC:uc m a c=M:=by simpa using qC
     unfold Ld;rw[bV g3 (by omega)]
     exact ata n0 all hl Cz k0 c0 im _ x (i+1) k t' vE a' T' (pB m a c) ⟨(a':Int),pB m a c,p.dL,p.fU,rs⟩ g2 (by omega) (by omega) Lz lW f2 (by omega) (stay qC) rfl rfl zh (by show rs.length<=_;omega) (by omega) xt
  refine Ok.ite (λh8=>Ok.ite (λht=>Ok.ite (λhc=> ?_) λ_=>rest _ _ hr (by omega) h0) λ_=>rest _ _ hr (by omega) h0) λ_=>rest _ _ hr (by omega) h0
  have h8:m.bg=8:=by simpa using h8
  have ht:m.av=p.gX:=by simpa using ht
  have hc:m.ba=p.fV:=by simpa using hc
  rw[dr _ _ (by simp;omega),ak]
  obtain ⟨hk,Zo⟩:CL m.cA/\T.aH<=c:=by
   cases lV with
   |Eh j c1 T0 x0 h hj vX qE hx hk hp hu=>
    have:j=a:=by omega
    rw[this,hT] at vX;cases vX;exact ⟨(hm.2 h8).kndR hp,by omega⟩
   |_=>omega
  refine rest _ _ (λl hl=>(eV.1 hl).elim (hr l) λh=>by rw[gg.1 h];exact hk) (by simp;omega) λz1 z2=> ?_
  rcases hA with ⟨a1,_⟩|⟨_,_,d,y,_,_,_,a6⟩|⟨_,_,a3,_⟩
  ·omega
  ·have:=a6 (by omega);omega
  ·have:=B0.pY;omega
 |_,_,0,_,_,_,_,_,_,_,hk,_,_,_,_,_,_,_,_,_,_,_,_=>by omega
def aWe (hn:6000<D) (fP:D<4294967296) (s:ae) (ms:cH) (ts:gZ) (hl:ms.length<=8) (im:∀m∈ms,MB m/\(m.bg=8->hI m.cA)) (hs:gm s=0) (hc:dQ s ms ts) {a:Nat} {T:ai} (hT:s.ah[a]? =V T) {k0:Int} (hA:∀fx,AtK T c M fx k0 c):
  Ok (F63 D ms (a:Int) c) (asT ((s::ts).getLast (by simp)) (fZ ms (a:Int)) T.aH k0 c):=
 ata D ms hl T.aH k0 c im _ ms 0 D s ts a T c ⟨(a:Int),c,M,_,[]⟩ rfl (by omega) fP hs hc hT rfl (hA _) rfl rfl (λl hl=>by simp at hl) (by simp) (by omega) (λ_ _=>rfl)
def AtK.Gg {T:ai} {c:Nat} {x:cF} (h:T.ag[c]? =V x) (fx:aT):AtK T (c:Int) M fx x.aE (c:Int):=.inr (.inl ⟨by omega,rfl,c,x,rfl,h,rfl,λ_=>rfl⟩)
section
variable {s:ae} {ms:cH} {ts:gZ} {a:Nat} {T:ai}
end
end
end Go.Proofs.YtbnkhmoelnfjoaaGreat
end
