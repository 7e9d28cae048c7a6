/- Part. -/
import Derived.Test.YtbnkhmoelnfjoaaGreatP7
import Derived.Test.YtbnkhmoelnfjoaaGreatP6
set_option linter.all false
set_option maxRecDepth 100000
open Option renaming some->V
open Bool renaming true->M,false->B
open Decidable renaming decide->U
open List.Pairwise renaming nil->ac6
noncomputable section
namespace Go.Proofs.YtbnkhmoelnfjoaaGreat
open Go.bL
variable (o:Nat) (D:cH) (f9:ae) (C:bC) (F:bB) (H:fC) (O:Int) (E:Nat) (I:bp) (f8:ai) (K:bB) (W:bn) (Y:bp) (g7:bC) (aa:bn)
variable {i b':Nat} {J:Type} {ks qU:aP} {xs:bp}
def rm:gq->aT->aT
 | [],v=>v
 |p::l,v=>if yj p.f1 v=M then p.f0 else rm l v
def vA:tw->aT->aT
 | [],v=>v
 |l::ls,v=>rm l (vA ls v)
def KB (l:gq) (v:aT):∀ls:tw,vA (ls++ [l]) v=vA ls (rm l v)
 | []=>rfl
 |x::ls=>by rw[wC,vA,KB l v ls];rfl
def aoI (n0:Nat) (l:gq) (hl:l.length<=1000) (v z:aT):∀(x:gq) (i k:Nat),l.drop i=x->x.length<k->zO (Js n0) k 1 l (l.length:Int) (i:Int) v z=V (rm x v)
 | [],i,k+1,hd,hk=>by
  have hq:¬((i:Int)<(l.length:Int)):=by
   have:l.length<=i:=by simpa using hd
   omega
  simp only[zO,Jt,hq,aR,az,au,Js,rm]
 |p::x,i,k+1,hd,hk=>by
  obtain ⟨g1,g2,g3,hq⟩:=dO hd
  simp at hk;have e10:((1:Int)==0)=B:=rfl;have e11:((1:Int)==1)=M:=rfl;have e00:((0:Int)==0)=M:=rfl;have w0:aV (1-1)=0:=cT (by omega) (by omega)
  have ih:=aoI n0 l hl v z x (i+1) k g2 (by omega)
  simp only[zO,Jt,hq,aO,ax,bA,g1,ak,e10,e11,az,au,NY,w0,bV g3 (by omega:l.length<4294967296),ih,e00]
  by_cases h:yj p.f1 v=M
  ·rw[show rm (p::x) v=p.f0 from aF h];exact aF h
  ·rw[show rm (p::x) v=rm x v from aC h];exact aC h
 |_,_,0,_,hk=>by omega
def aKb (l:gq) (hl:l.length<=1000) (v:aT) (hn:2000<o):ajj o l v 1=V (rm l v):=
 aoI o l hl v _ l 0 o rfl (by omega)
def aoK (n0:Nat) (p:dR) (hp:∀l∈p.cU,l.length<=1000) (hl:p.cU.length<=1000) (z:aT):∀(i k:Nat) (v:aT),i<=p.cU.length->i+2100<k->zP (Jx n0) k ((i:Int)-1) p v z=V (vA (p.cU.take i) v)
 |0,k+1,v,_,_=>by
  have hq:(((0:Nat):Int)-1)<0:=by omega
  simp only[zP,Jy,hq,aO,dh,az,au,Jx,yV,vA]
 |i+1,k+1,v,hi,hk=>by
  have e:(((i+1:Nat):Int)-1)=(i:Int):=by omega
  rw[e];have hq:¬((i:Int)<0):=by omega
  have hg:p.cU[i]? =V p.cU[i]:=cX (by omega)
  have ih:=aoK n0 p hp hl z i k (rm p.cU[i] v) (by omega) (by omega)
  have w:aV ((i:Int)-1)=(i:Int)-1:=cT (by omega) (by omega)
  simp only[zP,Jy,hq,aR,gB,ax,bA,hg,ak,aKb k _ (hp _ (nZ _)) v (by omega),w,ih]
  rw[qk,hg,HA,KB]
 |_,0,_,_,hk=>by omega
def apl (p:dR) (hp:∀l∈p.cU,l.length<=1000) (hl:p.cU.length<=1000) (v:aT) (hn:4000<o):Si o p v=V (vA p.cU v):=by
 unfold Si Ww;rw[cT (by omega) (by omega),aoK o p hp hl _ p.cU.length o v (cS _) (by omega),nF]
def Ei (m:aG) (t c:Int):Bool:=(m.bg==8)&&((m.av==t)&&(m.ba==c))
def qV:cH->Int->Int->(Int->aT)->aT
 | [],_,c,f=>f c
 |m::ms,t,c,f=>if Ei m t c=M then rm m.cA (if uc m t c=M then qV ms (ny m t) (pB m t c) f else m.bk) else if uc m t c=M then qV ms (ny m t) (pB m t c) f else m.bk
structure aik (w:Int) (f7:(Int->aT)->aT) (p:dR):Prop where
 bY:p.gX=w
 agd:∀l∈p.cU,l.length<=1000
 few:p.cU.length<=1000
 val:0<=w->∀f,f7 f=if p.dL=M then vA p.cU (f p.fV) else p.fU
def atD (T:ai) (c:Int):Prop:=c= -1\/∃(d:Nat) (y:cF),c=(d:Int)/\T.ag[d]? =V y
def atD.rng {T:ai} {c:Int} (h:atD T c): -1<=c/\c<(T.ag.length:Int):=by
 rcases h with h|⟨d,y,h1,h2⟩
 ·omega
 ·have:=(bK.1 h2).1;omega
def hI.few {l:gq} (h:hI l):l.length<=1000:=by
 rcases h with ⟨a,rfl⟩|⟨a,b,_,rfl⟩<;>simp
def atb (n0:Nat) (all:cH) (hl:all.length<=8) (im:∀m∈all,MB m/\(m.bg=8->hI m.cA)) (b6:dR):∀(x:cH) (i k:Nat) (s:ae) (ts:gZ) (a:Nat) (T:ai) (c:Int) (p:dR),all.drop i=x->x.length+5000<k->k<4294967296->gm s=0->dQ s x ts->s.ah[a]? =V T->atD T c->(p.dL=B->c= -1)->
  p.gX=(a:Int)->p.fV=c->(∀l∈p.cU,l.length<=1000)->p.cU.length<=100+i->i<=8->
  Ok (xH (Dt n0) k all (all.length:Int) (i:Int) b6 p p.cU) (aik (fZ x (a:Int)) λf=>if p.dL=M then vA p.cU (qV x (a:Int) c f) else p.fU)
 | [],i,k+1,s,ts,a,T,c,p,hd,hk,jv,hs,hc,hT,hA,hB,e1,e2,hr,o9,hi=>by
  have hq:¬((i:Int)<(all.length:Int)):=by
   have:all.length<=i:=by simpa using hd
   omega
  simp only[xH,Qr,hq,aR,az,au,Dt];exact Ok.pure ⟨e1,hr,by show p.cU.length<=_;omega,λ_ f=>by simp only[qV,e2]⟩
 |m::x,i,k+1,s,ts,a,T,c,p,hd,hk,jv,hs,hc,hT,hA,hB,e1,e2,hr,o9,hi=>by
  obtain ⟨g1,g2,g3⟩:=qG hd;have hm:=im m (bU g1);obtain ⟨t',vE,rfl⟩:∃t' vE,ts=t'::vE:=by cases ts with|nil=>cases hc|cons t' vE=>exact ⟨t',vE,rfl⟩
  obtain ⟨hb,lV,Lz,lW⟩:=hc;have hG:=SG.of hs;have B0:=hG.bY T (bU hT);have fg:T.ag.length<=8:=B0.cols;have EM:a<8:=by have:=(bK.1 hT).1;have:=hG.len;omega
  obtain ⟨c1,c2⟩:=hA.rng;have hq:(i:Int)<(all.length:Int):=by omega
  simp at hk;simp only[xH,Qr,hq,aO,ax,bA,g1,ak];have rest:∀(rs:tw) (b6':dR),(∀l∈rs,l.length<=1000)->rs.length<=101+i->(∀v,vA rs v=vA p.cU (if Ei m (a:Int) c=M then rm m.cA v else v))->Ok (Bq (xH (Dt n0) k) k all (all.length:Int) (i:Int) b6' ⟨p.gX,p.fV,p.dL,p.fU,rs⟩ m rs) (aik (fZ (m::x) (a:Int)) λf=>if p.dL=M then vA p.cU (qV (m::x) (a:Int) c f) else p.fU):=λrs b6' zh hrl' hrv=>by
   unfold Bq;simp only[e1,e2];rw[apk k m hm.1.Gg (a:Int) c (by omega) (by omega) c1 (by omega),ak]
   rcases lV.aCp hT with ⟨h7,ha⟩|⟨hn7,a',T',f1,f2,f3,f4⟩
   ·have:ny m (a:Int)= -1:=by simp[ny,h7,ha]
    simp only[this,show ((-1:Int)<0) from by omega,aO,ax]
    refine Ok.pure ⟨by simp[fZ,this],λl hl=>by simp at hl,by simp,λh=> ?_⟩
    simp[fZ,this] at h
   ·have dz:¬(ny m (a:Int)<0):=by omega
    have hw:fZ (m::x) (a:Int)=fZ x (a':Int):=by simp only[fZ];rw[aC dz,f1]
    simp only[dz,aR,az,au];rw[hw,f1];refine Ok.ite (λqC=> ?_) λqC=> ?_
    ·have qC:uc m a c=B:=by simpa using qC
     obtain ⟨d,y,a3,a4⟩:∃(d:Nat) (y:cF),c=(d:Int)/\T.ag[d]? =V y:=by
      rcases hA with a2|h
      ·rw[a2,RN hn7] at qC;cases qC
      ·exact h
     have hsv:p.dL=M:=by
      cases h:p.dL with
      |true=>rfl
      |false=>have:=hB h;omega
     have hcm:pB m a c= -1:=by
      rcases f4 d y a4 with ⟨b1,_⟩|⟨_,_,b,_⟩
      ·rw[a3,b1] at qC;cases qC
      ·rw[a3];exact b
     rw[apl k ⟨(a:Int),c,p.dL,p.fU,rs⟩ zh (by show rs.length<=_;omega) m.bk (by omega),ak]
     unfold Ld;rw[bV g3 (by omega)]
     refine (atb n0 all hl im _ x (i+1) k t' vE a' T' (pB m a c) ⟨(a':Int),pB m a c,B,vA rs m.bk,rs⟩ g2 (by omega) (by omega) Lz lW f2 (.inl hcm) (λ_=>hcm) rfl rfl zh (by show rs.length<=_;omega) (by omega)).mono λq hq=>⟨hq.bY,hq.agd,hq.few,λh0 f=> ?_⟩
     rw[<-hq.val h0 f];simp only[hsv,ax,az,au,qV,qC];rw[hrv]
    ·have qC:uc m a c=M:=by simpa using qC
     unfold Ld;rw[bV g3 (by omega)]
     refine (atb n0 all hl im _ x (i+1) k t' vE a' T' (pB m a c) ⟨(a':Int),pB m a c,p.dL,p.fU,rs⟩ g2 (by omega) (by omega) Lz lW f2 ?_ (λh=>by rw[hB h,Km]) rfl rfl zh (by show rs.length<=_;omega) (by omega)).mono λq hq=>⟨hq.bY,hq.agd,hq.few,λh0 f=> ?_⟩
     ·rcases hA with a2|⟨d,y,a3,a4⟩
      ·exact .inl (by rw[a2,Km])
      ·rcases f4 d y a4 with ⟨_,d',y',b1,b2,_⟩|⟨b1,_⟩
       ·exact .inr ⟨d',y',by rw[a3,b1],b2⟩
       ·rw[a3,b1] at qC;cases qC
     ·rw[<-hq.val h0 f];simp only[qV,qC,ax,f1];rw[hrv]
  have no:Ei m (a:Int) c=B->Ok (Bq (xH (Dt n0) k) k all (all.length:Int) (i:Int) b6 ⟨p.gX,p.fV,p.dL,p.fU,p.cU⟩ m p.cU) (aik (fZ (m::x) (a:Int)) λf=>if p.dL=M then vA p.cU (qV (m::x) (a:Int) c f) else p.fU):=λh=>rest _ _ hr (by omega) λv=>by simp[h]
  refine Ok.ite (λh8=>Ok.ite (λht=>Ok.ite (λhc=> ?_) λh=>no ?_) λh=>no ?_) λh=>no ?_
  ·have h8':m.bg=8:=by simpa using h8
   rw[dr _ _ (by simp;omega),ak]
   refine rest _ _ (λl hl=>(eV.1 hl).elim (hr l) λh=>by rw[gg.1 h];exact (hm.2 h8').few) (by simp;omega) λv=> ?_
   rw[KB,aF (show Ei m (a:Int) c=M from ?_)];unfold Ei;rw[<-e1,<-e2,h8,ht,hc];rfl
  all_goals (unfold Ei;rw[<-e1,<-e2,h];simp)
 |_,_,0,_,_,_,_,_,_,_,hk,_,_,_,_,_,_,_,_,_,_,_=>by omega
def aHA (hn:6000<o) (fP:o<4294967296) (s:ae) (ms:cH) (ts:gZ) (hl:ms.length<=8) (im:∀m∈ms,MB m/\(m.bg=8->hI m.cA)) (hs:gm s=0) (hc:dQ s ms ts) {a:Nat} {T:ai} (hT:s.ah[a]? =V T) {c:Int} (hA:atD T c):
  Ok (F63 o ms (a:Int) c) (aik (fZ ms (a:Int)) (qV ms (a:Int) c)):=
 (atb o ms hl im _ ms 0 o s ts a T c ⟨(a:Int),c,M,_,[]⟩ rfl (by omega) fP hs hc hT hA (λh=>by cases h) rfl rfl (λl hl=>by simp at hl) (by simp) (by omega)).mono λq hq=>⟨hq.bY,hq.agd,hq.few,hq.val⟩
def aAB {a b:aT} (h:yj a b=M):a.aE=b.aE:=by
 unfold yj at h;simp only[bJ,sR] at h;exact h.1
def aJt {l:gq} (hl:CL l) (v:aT):rm l v=v\/(jK (rm l v)=M/\(rm l v).aE=v.aE):=by
 obtain ⟨hlen,h⟩:=hl;induction l with
 |nil=>exact .inl rfl
 |cons p l ih=>
  by_cases e:yj p.f1 v=M
  ·rw[show rm (p::l) v=p.f0 from aF e];obtain ⟨h1,h2⟩:=h p (by simp)
   exact .inr ⟨h2,h1.trans (aAB e)⟩
  ·rw[show rm (p::l) v=rm l v from aC e];exact ih (by simp at hlen;omega) λq hq=>h q (dW _ hq)
def ayV {md key:Int} {k:Int} {v:aT} {l:gq} (hl:CL l) (h:nW md key i k v=M):nW md key i k (rm l v)=M:=by
 rcases aJt hl v with e|⟨h1,h2⟩
 ·rw[e];exact h
 ·unfold jK at h1;rw[bJ] at h1;unfold nW at h ⊢;rw[bJ] at h ⊢;exact ⟨h1.1,by rw[h2];exact h.2⟩
def JJ {md key:Int}:∀{i:Nat} {ks:aP} {vs:bp} {q:Nat} {k:Int},gH md key i ks vs=M->ks[q]? =V k->∃v,vs[q]? =V v/\nW md key (i+q) k v=M
 |i,k::ks,v::vs,0,k',h,hk=>by
  simp only[gH,bJ] at h;simp at hk;subst hk;exact ⟨v,rfl,h.1⟩
 |i,k::ks,v::vs,q+1,k',h,hk=>by
  simp only[gH,bJ] at h;obtain ⟨w,w1,w2⟩:=JJ (q:=q) h.2 (by simpa using hk)
  exact ⟨w,by simpa using w1,by rw[show i+(q+1)=i+1+q by omega];exact w2⟩
 |_,[],_,_,_,_,hk=>by simp at hk
 |_,_::_,[],_,_,h,_=>by simp[gH] at h
def YT {md key:Int}:∀{i:Nat} {ks:aP} {vs:bp},vs.length=ks.length->(∀(q:Nat) k v,ks[q]? =V k->vs[q]? =V v->nW md key (i+q) k v=M)->gH md key i ks vs=M
 |_,[],[],_,_=>rfl
 |i,k::ks,v::vs,hl,h=>by
  simp only[gH,bJ];exact ⟨h 0 k v rfl rfl,YT (by simpa using hl) λq k' w hk hw=>by
   have:=h (q+1) k' w (by simpa using hk) (by simpa using hw)
   rwa[show i+(q+1)=i+1+q by omega] at this⟩
 |_,[],_::_,hl,_=>by simp at hl
 |_,_::_,[],hl,_=>by simp at hl
def wY (c:Int):aT:=(I[c.toNat]?).getD zv
def aCZ {md key:Int} {d:Nat} {k:Int} {v:aT} (h:nW md key d k v=M) (hd:(i:Int)<key->d=i):nW md key i k v=M:=by
 unfold nW at h ⊢;simp only[bJ,j2] at h ⊢;refine ⟨h.1,h.2.imp id λh=>⟨λhi=>h.1 ?_,h.2⟩⟩
 rw[hd hi];exact hi
def Ca {md:Int}:∀{ms:cH} {u:ae} {ts:gZ} {a w:Nat} {T T':ai} {i:Nat} {x:cF} {row:bp},(∀m∈ms,MB m/\(m.bg=8->hI m.cA))->gm u=0->dQ u ms ts->u.ah[a]? =V T->fZ ms (a:Int)=(w:Int)->((u::ts).getLast (by simp)).ah[w]? =V T'->T.ag[i]? =V x->gH md T'.aH 0 (ey T') row=M->
  T'.aH=T.aH/\nW md T.aH i x.aE (qV ms (a:Int) (i:Int) (wY row))=M/\((i:Int)<T.aH->qV ms (a:Int) (i:Int) (wY row)=wY row (i:Int))
 | [],u,ts,a,w,T,T',i,x,row,hm,hs,hc,hT,hw,gz,hx,hr=>by
  obtain rfl:ts= []:=by cases ts with|nil=>rfl|cons=>cases hc
  have haw:a=w:=by simp only[fZ] at hw;omega
  rw[<-haw] at gz;have gz:u.ah[a]? =V T':=gz;rw[hT] at gz;cases gz;obtain ⟨v,v1,v2⟩:=JJ hr (JZ hx);have e:wY row (i:Int)=v:=by unfold wY;rw[show ((i:Int)).toNat=i by simp,v1];rfl
  refine ⟨rfl,?_,λ_=>rfl⟩
  show nW md T.aH i x.aE (wY row (i:Int))=M;rw[e];rw[cq] at v2;exact v2
 |m::ms,u,ts,a,w,T,T',i,x,row,hm,hs,hc,hT,hw,gz,hx,hr=>by
  obtain ⟨t',vE,rfl⟩:∃t' vE,ts=t'::vE:=by cases ts with|nil=>cases hc|cons t' vE=>exact ⟨t',vE,rfl⟩
  obtain ⟨hb,lV,Lz,lW⟩:=hc;have B0:=(SG.of hs).bY T (bU hT);rw[show ((u::t'::vE).getLast (by simp))=((t'::vE).getLast (by simp)) by simp] at gz
  have rU:=λq hq=>hm q (dW _ hq)
  rcases lV.aCp hT with ⟨h7,ha⟩|⟨hn7,a',g8,f1,f2,f3,f4⟩
  ·have:ny m (a:Int)= -1:=by simp[ny,h7,ha]
   simp[fZ,this] at hw
  have dz:¬(ny m (a:Int)<0):=by omega
  have qA:fZ ms (a':Int)=(w:Int):=by rw[<-hw];simp only[fZ];rw[aC dz,f1]
  have hrec:Ei m (a:Int) (i:Int)=M->CL m.cA/\T.aH<=(i:Int):=λhr=>by
   unfold Ei at hr;simp only[bJ,sR] at hr;obtain ⟨h8,h2,h3⟩:=hr;cases lV with
   |Eh j c1 T0 x0 h hj vX qE MN hk hp hu=>
    have:j=a:=by omega
    rw[this,hT] at vX;cases vX;exact ⟨((hm m (by simp)).2 h8).kndR hp,by omega⟩
   |_=>omega
  have fin:∀v:aT,nW md T.aH i x.aE v=M->nW md T.aH i x.aE (if Ei m (a:Int) (i:Int)=M then rm m.cA v else v)=M:=λv hv=>by
   split
   ·rename_i h;exact ayV (hrec h).1 hv
   ·exact hv
  have nok:(i:Int)<T.aH->∀v:aT,(if Ei m (a:Int) (i:Int)=M then rm m.cA v else v)=v:=λhi v=>by
   rw[aC];intro h;have:=(hrec h).2;omega
  have key:T'.aH=T.aH:=by
   have hU0:0<g8.ag.length:=by have hU:=(SG.of Lz).bY g8 (bU f2);have h1:=hU.pY;have h2:=hU.jG;omega
   exact (Ca rU Lz lW f2 qA gz (cX hU0) hr).1.trans f3
  have eC:∀v,(if uc m (a:Int) (i:Int)=M then qV ms (ny m (a:Int)) (pB m (a:Int) (i:Int)) (wY row) else m.bk)=v->qV (m::ms) (a:Int) (i:Int) (wY row)=if Ei m (a:Int) (i:Int)=M then rm m.cA v else v:=λv hv=>by subst hv;rfl
  refine ⟨key,?_⟩;rcases f4 i x hx with ⟨b1,d,y,b2,b3,b4,b5⟩|⟨b1,b2,b3,b4,b5⟩
  ·obtain ⟨_,i1,i2⟩:=Ca rU Lz lW f2 qA gz b3 hr;rw[eC (qV ms (a':Int) (d:Int) (wY row)) (by rw[b1,aF rfl,f1,b2])]
   refine ⟨fin _ ?_,λhi=> ?_⟩
   ·rw[f3,b4] at i1;exact aCZ i1 b5
   ·rw[nok hi,i2 (by rw[b5 hi,f3];exact hi),b5 hi]
  ·rw[eC m.bk (by rw[b1];rfl)]
   refine ⟨fin _ ?_,λhi=>by omega⟩
   exact aaz b4 b2
def si:bp:=(List.range E).map λ(i:Nat)=>qV D O (i:Int) (wY I)
def Aw:(si D O E I).length=E:=by simp[si]
def Ri {ms:cH} {t:Int} {n:Nat} {row:bp} (h:i<n):(si ms t n row)[i]? =V (qV ms t (i:Int) (wY row)):=by simp[si,h]
def Ay {md:Int} {ms:cH} {u:ae} {ts:gZ} {a w:Nat} {T T':ai} {row:bp} (hm:∀m∈ms,MB m/\(m.bg=8->hI m.cA)) (hs:gm u=0) (hc:dQ u ms ts) (hT:u.ah[a]? =V T) (hw:fZ ms (a:Int)=(w:Int)) (gz:((u::ts).getLast (by simp)).ah[w]? =V T') (hr:gH md T'.aH 0 (ey T') row=M):
  T'.aH=T.aH/\gH md T.aH 0 (ey T) (si ms (a:Int) T.ag.length row)=M/\(si ms (a:Int) T.ag.length row).take T.aH.toNat=row.take T.aH.toNat:=by
 have B0:=(SG.of hs).bY T (bU hT);have k1:=B0.pY;have k2:=B0.jG;have h0:0<T.ag.length:=by omega
 have hk:=(Ca hm hs hc hT hw gz (cX h0) hr).1;refine ⟨hk,YT (by rw[Aw,pX]) λq k v hq hv=> ?_,wu λq=> ?_⟩
 ·have hql:q<T.ag.length:=by have:=(bK.1 hv).1;rw[Aw] at this;exact this
  have hx:T.ag[q]? =V T.ag[q]:=cX hql;rw[JZ hx] at hq;rw[Ri hql] at hv;cases hq;cases hv;rw[cq];exact (Ca hm hs hc hT hw gz hx hr).2.1
 ·rw[fw,fw];split
  ·rename_i hq;have hql:q<T.ag.length:=by omega
   have hx:T.ag[q]? =V T.ag[q]:=cX hql;rw[Ri hql,(Ca hm hs hc hT hw gz hx hr).2.2 (by omega)]
   have o9:=gT hr;have BV:q<row.length:=by
    have:∃ge,((u::ts).getLast (by simp)).ah[w]? =V ge:=⟨T',gz⟩
    have yH:T'.aH<=(T'.ag.length:Int):=by
     rcases da.1 (Oq (l:=u::ts) (by simp)) with h|h
     ·rw[h] at gz;exact ((SG.of hs).bY T' (bU gz)).jG
     ·exact ((SG.of (hc.kC _ h)).bY T' (bU gz)).jG
    omega
   unfold wY;rw[show ((q:Int)).toNat=q by simp,cX BV]
   rfl
  ·rfl
section
def Ok.and {x:A J} {P Q:J->Prop} (h1:Ok x P) (h2:Ok x Q):Ok x λv=>P v/\Q v:=by
 obtain ⟨v,e,p⟩:=h1;obtain ⟨v',e',q⟩:=h2;rw[e] at e';cases e';exact ⟨v,e,p,q⟩
def KI (ms:cH) (a:Int) (Cz k0:Int) (i:Nat) (p:dR):Prop:=asT f9 (fZ ms a) Cz k0 (i:Int) p/\aik (fZ ms a) (qV ms a (i:Int)) p
section
variable {s:ae} {ms:cH} {ts:gZ} {a:Nat} {T:ai}
def azJ (n0:Nat) (hl:ms.length<=8) (im:∀m∈ms,MB m/\(m.bg=8->hI m.cA)) (hs:gm s=0) (hc:dQ s ms ts) (hT:s.ah[a]? =V T) (r:gZ):∀(j i k:Nat) (acc:lz),i+j=T.ag.length->j+7000<k->k<4294967296->acc.length=i->(∀(q:Nat) p,acc[q]? =V p->∃k0,KI ((s::ts).getLast (by simp)) ms (a:Int) T.aH k0 q p)->
  Ok (I9 (Wz n0) k (a:Int) (T.ag.length:Int) (i:Int) ⟨r,ms⟩ acc) λps=>ps.length=T.ag.length/\∀(q:Nat) p,ps[q]? =V p->∃k0,KI ((s::ts).getLast (by simp)) ms (a:Int) T.aH k0 q p
 |0,i,k+1,acc,hi,hk,jv,EM,hw=>by
  have hq:¬((i:Int)<(T.ag.length:Int)):=by omega
  simp only[I9,WA,hq,aR,az,au,Wz];exact Ok.pure ⟨by omega,hw⟩
 |j+1,i,k+1,acc,hi,hk,jv,EM,hw=>by
  have fg:=((SG.of hs).bY T (bU hT)).cols;have hq:(i:Int)<(T.ag.length:Int):=by omega
  have rV:i<T.ag.length:=by omega
  have hx:T.ag[i]? =V T.ag[i]:=cX rV;simp only[I9,WA,hq,aO,ax];refine Ok.bind ((aWe k (by omega) (by omega) s ms ts hl im hs hc hT (AtK.Gg hx)).and (aHA k (by omega) (by omega) s ms ts hl im hs hc hT (.inr ⟨i,_,rfl,hx⟩))) λp hp=> ?_
  rw[dr _ _ (by simp;omega),ak,bV (L:=T.ag.length) (by omega) (by omega)]
  refine azJ n0 hl im hs hc hT r j (i+1) k (acc++ [p]) (by omega) (by omega) (by omega) (by simp;omega) λq y BV=> ?_
  by_cases he:q<acc.length
  ·rw[pE he] at BV;exact hw q y BV
  ·have hqi:q=i:=by
    have:=(bK.1 BV).1;simp at this;omega
   subst hqi;rw[nY (by omega),EM,rF] at BV
   simp at BV;subst BV;exact ⟨_,hp⟩
 |_,_,0,_,_,hk,_,_,_=>by omega
def aHB (hn:8000<o) (fP:o<4294967296) (hl:ms.length<=8) (im:∀m∈ms,MB m/\(m.bg=8->hI m.cA)) (hs:gm s=0) (hc:dQ s ms ts) (hT:s.ah[a]? =V T) (r:gZ):
  Ok (F57 o ⟨s::r,ms⟩ (a:Int)) λq=>q.1=fZ ms (a:Int)/\q.2.length=T.ag.length/\∀(i:Nat) p,q.2[i]? =V p->∃k0,KI ((s::ts).getLast (by simp)) ms (a:Int) T.aH k0 i p:=by
 have fg:=((SG.of hs).bY T (bU hT)).cols;unfold F57 aul;refine Ok.bind (P:=λps=>ps.length=T.ag.length/\∀(i:Nat) p,ps[i]? =V p->∃k0,KI ((s::ts).getLast (by simp)) ms (a:Int) T.aH k0 i p) ?_ λps ⟨h1,h2⟩=> ?_
 ·unfold atA ald;rw[aiU,ak,bA,hT,ak];exact azJ o hl im hs hc hT (s::r) T.ag.length 0 o [] (by omega) (by omega) fP rfl λi p h=>by simp at h
 ·refine Ok.bind (aHA o (by omega) fP s ms ts hl im hs hc hT (.inl rfl)) λp hp=> ?_
  exact Ok.pure ⟨hp.bY,h1,h2⟩
end
section
variable {N:ae} {ms:cH} {a:Int} {w:Nat} {T':ai} {key:Int} {row:bp} {ps:lz}
def azI (n0:Nat) (hw:fZ ms a=(w:Int)) (hT:N.ah[w]? =V T') (hr:row.length=T'.ag.length) (hp:∀(i:Nat) p,ps[i]? =V p->∃k0,KI N ms a key k0 i p) (yG:ps.length<=1000):∀(x:lz) (i k:Nat) (acc:bp),ps.drop i=x->i<=ps.length->x.length+5000<k->acc=(si ms a ps.length row).take i->
  Fp (Ob n0) k row ps (ps.length:Int) (i:Int) acc=V (si ms a ps.length row)
 | [],i,k+1,acc,hd,qD,hk,ark=>by
  obtain ⟨hi,hq⟩:=eI hd
  simp only[Fp,Wy,hq,aR,az,au,Ob];rw[ark,iT (by rw[Aw];exact hi)]
 |p::x,i,k+1,acc,hd,qD,hk,ark=>by
  obtain ⟨g1,g2,g3,hq⟩:=dO hd
  obtain ⟨k0,hpi,hpc⟩:=hp i p g1;obtain ⟨w',T2,e1,e2,e3,hA,h0⟩:=hpi.on (by omega)
  have yE:w'=w:=by omega
  rw[yE,hT] at e2;have e2:=lp e2;subst e2;simp at hk;have hV:=hpc.val (by omega) (wY row)
  have EM:acc.length=i:=by rw[ark,dE,Aw];omega
  have step:Oc (Fp (Ob n0) k) k row ps (ps.length:Int) (i:Int) acc (qV ms a (i:Int) (wY row))=V (si ms a ps.length row):=by
   unfold Oc;rw[dr _ _ (by simp;omega),ak,bV g3 (by omega)]
   refine azI n0 hw hT hr hp yG x (i+1) k _ g2 (by omega) (by omega) ?_
   rw[ark,qk,Ri g3];rfl
  simp only[Fp,Wy,hq,aO,ax,bA,g1,ak];rcases hA with ⟨a1,_⟩|⟨a1,a2,d,y,a3,a4,a5,a6⟩|⟨a1,a2,a3,a4,a5,a6⟩
  ·omega
  ·have sD:d<row.length:=by rw[hr];exact (bK.1 a4).1
   have hg:row[d]? =V row[d]:=cX sD;have ef:wY row (d:Int)=row[d]:=by unfold wY;rw[show ((d:Int)).toNat=d by simp,hg];rfl
   rw[a2,aF rfl,a3,ef] at hV;rw[a2,aF rfl,a3,bA,hg,ak,apl k p hpc.agd hpc.few row[d] (by omega),ak,<-hV]
   exact step
  ·rw[a2,aC HF] at hV;rw[a2,aC HF,<-hV];exact step
 |_,_,0,_,_,_,hk,_=>by omega
def azR (hn:7000<o) (hw:fZ ms a=(w:Int)) (hT:N.ah[w]? =V T') (hr:row.length=T'.ag.length) (xt:row≠ []) (hp:∀(i:Nat) p,ps[i]? =V p->∃k0,KI N ms a key k0 i p) (yG:ps.length<=1000):
  NL o row ps=V (si ms a ps.length row):=by
 unfold NL Wx;have h0:((row.length:Int)==0)=B:=by cases row with
  |nil=>exact absurd rfl xt
  |cons=>exact Ot (by simp;omega)
 rw[h0,aC HF];exact azI o hw hT hr hp yG ps 0 o [] rfl (by omega) (by omega) (by simp)
end
def xJ:bn:=if fZ D (E:Int)<0 then [] else ((H[(fZ D (E:Int)).toNat]?).getD []).map (si D (E:Int) f8.ag.length)
def p7:fC:=(List.range f9.ah.length).map λ(q:Nat)=>((f9.ah[q]?).map (xJ D H q)).getD []
def aau:(p7 D f9 H).length=f9.ah.length:=by simp[p7]
def B8 {ms:cH} {u:ae} {st:fC} {q:Nat} {T:ai} (h:u.ah[q]? =V T):(p7 ms u st)[q]? =V (xJ ms st q T):=by
 obtain ⟨h1,e⟩:=bK.1 h;simp[p7,h1,e]
section
variable {u N:ae} {ms:cH} {ts r:gZ} {st:fC} {a w:Nat} {T T':ai} {ps:lz} {rows:bn} {md:Int}
def aoD {R:A (aw×Int)} (k:Int->Int->aw->aw->eM->aw->cf->A (aw×Int)) (t49 t50:Int) (b9:aw) (cD:eM) (g6:fC)
  (hw:fZ ms (a:Int)=(w:Int)) (hT:N.ah[w]? =V T') (hr:∀r∈rows,r.length=T'.ag.length/\r≠ []) (hp:∀(i:Nat) p,ps[i]? =V p->∃k0,KI N ms (a:Int) T.aH k0 i p) (yG:ps.length=T.ag.length) (Zl:ps.length<=1000) (o9:rows.length<=1000)
  (hk:k t49 t50 b9 ⟨[]⟩ cD ⟨g6⟩ g6=R):
  ∀(x:bn) (i m:Nat) (sF qf:aw) (b:fC),rows.drop i=x->i<=rows.length->x.length+8000<m->b[a]? =V ((rows.take i).map (si ms (a:Int) T.ag.length))->b.set a (rows.map (si ms (a:Int) T.ag.length))=g6->
  Qd k m (a:Int) ps t49 t50 rows (rows.length:Int) (i:Int) b9 sF cD qf b=R
 | [],i,m+1,sF,qf,b,hd,qD,hm,hb,hB=>by
  obtain ⟨hi,hq⟩:=eI hd
  simp only[Qd,ady,hq,aR,az,au];rw[iT hi] at hb;obtain ⟨q1,q2⟩:=bK.1 hb;have:b=g6:=by rw[<-hB,<-q2];exact (Hr q1).symm
  rw[this];exact hk
 |row::x,i,m+1,sF,qf,b,hd,qD,hm,hb,hB=>by
  obtain ⟨g1,g2,g3,hq⟩:=dO hd
  have rW:=(bK.1 hb).1;obtain ⟨r1,r2⟩:=hr row (bU g1);simp at hm;simp only[Qd,ady,hq,aO,ax,bA,g1,ak,fX rW,cq,hb,azR m (by omega) hw hT r1 r2 hp Zl,yG]
  rw[dr _ _ (by simp;omega),ak,dC _ rW,ak,bV g3 (by omega)]
  refine aoD k t49 t50 b9 cD g6 hw hT hr hp yG Zl o9 hk x (i+1) m _ _ _ g2 (by omega) (by omega) ?_ ?_
  ·rw[j3 rW,qk,g1];simp
  ·rw[uM];exact hB
 |_,_,0,_,_,_,_,_,hm,_,_=>by omega
def aoC (n0:Nat) (hl:ms.length<=8) (im:∀m∈ms,MB m/\(m.bg=8->hI m.cA)) (hs:gm u=0) (hc:dQ u ms ts) (EE:gm ((u::ts).getLast (by simp))=0) (lV:tz md ((u::ts).getLast (by simp)) st):
  ∀(j i m:Nat) (sF qf:aw) (b:fC),i+j=u.ah.length->j+10000<m->m<4294967296->b.length=u.ah.length->(∀q,q<i->b[q]? =(p7 ms u st)[q]?)->(∀q,i<=q->q<b.length->b[q]? =V [])->
  GB (QC n0) m (u.ah.length:Int) (i:Int) ⟨st⟩ sF ⟨u::r,ms⟩ qf b=V (⟨p7 ms u st⟩,0)
 |0,i,m+1,sF,qf,b,hi,hm,rU,hb,h1,h2=>by
  have hq:¬((i:Int)<(u.ah.length:Int)):=by omega
  simp only[GB,adx,hq,aR,az,au,QC];have:b=p7 ms u st:=wu λq=>by
   by_cases hq:q<i
   ·exact h1 q hq
   ·rw[oW (by omega),oW (by rw[aau];omega)]
  rw[this]
 |j+1,i,m+1,sF,qf,b,hi,hm,rU,hb,h1,h2=>by
  have hq:(i:Int)<(u.ah.length:Int):=by omega
  have hul:=(SG.of hs).len;have rV:i<u.ah.length:=by omega
  have hu:u.ah[i]? =V u.ah[i]:=cX rV;have fg:=((SG.of hs).bY _ (nZ rV)).cols;have hbi:=h2 i (cS _) (by omega)
  have nx:∀(b9:aw) (b':fC),b'=b.set i (xJ ms st i u.ah[i])->QD (GB (QC n0) m) m (u.ah.length:Int) (i:Int) ⟨st⟩ ⟨[]⟩ ⟨u::r,ms⟩ ⟨b'⟩ b'=V (⟨p7 ms u st⟩,0):=λb9 b' e=>by
   unfold QD;rw[bV rV (by omega)]
   subst e;refine aoC n0 hl im hs hc EE lV j (i+1) m _ _ _ (by omega) (by omega) (by omega) (by rw[kp];omega) (λq hq=> ?_) λq hq hqb=> ?_
   ·by_cases he:q=i
    ·rw[he,j3 (by omega),B8 hu]
    ·rw[mE (qp he)];exact h1 q (by omega)
   ·rw[kp] at hqb;rw[mE (by omega)]
    exact h2 q (by omega) (by omega)
  simp only[GB,adx,hq,aO,ax];obtain ⟨z,ez,z1,z2,z3⟩:=aHB m (by omega) (by omega) hl im hs hc hu r
  rw[ez,ak];by_cases hw:z.1<0
  ·simp only[hw,aO,ax];refine nx ⟨[]⟩ b ?_;have:xJ ms st i u.ah[i]= []:=by unfold xJ;rw[aF (by omega)]
   rw[this];obtain ⟨q1,q2⟩:=bK.1 hbi;rw[<-q2];exact (Hr q1).symm
  ·simp only[hw,aR,az,au];obtain ⟨w,yE⟩:∃w:Nat,z.1=(w:Int):=⟨z.1.toNat,by omega⟩
   have qA:fZ ms (i:Int)=(w:Int):=by omega
   obtain ⟨T',gz⟩:∃T',((u::ts).getLast (by simp)).ah[w]? =V T':=by
    have h0:0<z.2.length:=by have h1:=((SG.of hs).bY _ (nZ rV)).pY;have h2:=((SG.of hs).bY _ (nZ rV)).jG;omega
    obtain ⟨_,z4,_⟩:=z3 0 z.2[0] (cX h0);obtain ⟨w',T',e1,e2,_⟩:=z4.on (by omega)
    have:w'=w:=by omega
    rw[this] at e2;exact ⟨T',e2⟩
   have Ic:w<st.length:=by rw[lV.len];exact (bK.1 gz).1
   have iR:st[w]? =V st[w]:=cX Ic;obtain ⟨rw1,rw2⟩:=lV.row w T' st[w] gz iR;have hT2:jT T':=(vI EE).bY (w:Int) T' (by rw[bA];exact gz)
   have hk1:=hT2.pY;have yH:=hT2.jG;have et:xJ ms st i u.ah[i]=st[w].map (si ms (i:Int) u.ah[i].ag.length):=by
    unfold xJ;rw[aC (by omega),qA,show ((w:Int)).toNat=w by simp,iR];rfl
   rw[yE,bA,iR,ak];exact aoD (QD (GB (QC n0) m) m) (u.ah.length:Int) (i:Int) ⟨st⟩ ⟨u::r,ms⟩ _ qA gz (λy hy=>by
    have:=gT (rw2 y hy);exact ⟨this,λe=>by rw[e] at this;simp at this;omega⟩) z3 z2 (by omega) (by omega) (nx ⟨st⟩ _ (by rw[et])) st[w] 0 m _ _ b rfl (by omega) (by omega) (by simpa using hbi) rfl
 |_,_,0,_,_,_,_,hm,_,_,_,_=>by omega
end
section
variable {n:Nat} {s u:ae} {ms:cH} {ts:gZ} {k:Nat} {st:fC} {md:Int}
def aHE (mK:uj md) (hn:3000000<n) (fP:n<4294967296) (hs:gm s=0) (hm:∀m∈ms,MB m/\(m.bg=8->hI m.cA)) (hl:ms.length<=8) (hv:s.aA+(ms.length:Int)<=1000) (hc:dQ s ms ts) (hk:k<=ts.length) (hu:(s::ts)[k]? =V u) (lV:tz md ((s::ts).getLast (by simp)) st):
  F21 n s ms (s.aA+(k:Int)) md ⟨st⟩=V (⟨p7 (ms.drop k) u st⟩,0):=by
 have hlen:=hc.len;obtain ⟨u',e1,e2,e3,e4,e5⟩:=dQ.drop hs hc hk;rw[hu] at e1;have e1:=lp e1;rw[<-e1] at e2 e3 e4;have e5:(u::ts.drop k).getLast (by simp)=(s::ts).getLast (by simp):=by
  rw[<-e5];congr 1;rw[e1]
 have EE:gm ((s::ts).getLast (by simp))=0:=by
  rcases da.1 (Oq (l:=s::ts) (by simp)) with h|h
  ·rw[h];exact hs
  ·exact hc.kC _ h
 have hGN:=SG.of EE;have hul:=(SG.of e4).len;have hNl:=hGN.len;have aqZ:=lV.tot;have Ig:=lV.len;have RI:rh (u.ah.length:Int) ([]:bn)=V (List.replicate u.ah.length []):=by
  unfold rh;rw[aF ⟨by omega,by omega⟩];rfl
 have F4:=UG n ((s::ts).getLast (by simp)) (λT hT=>(hGN.bY T hT).yq) (by omega) fP
 rw[EE] at F4;have h26:=aHD mK n _ 0 F4 (λ_=>vI EE) ⟨st⟩ (by show st.length+total st<=2000000;omega) (by omega)
 rw[StM.kC lV.m (by omega)] at h26
 unfold F21 auF;rw[azO (by omega) fP hs hm hl hv hc hk,ak,e2]
 simp only[jJ,az,au];rw[azN (by simp;omega),ak,e5,h26,ak]
 simp only[jJ,az,au];rw[aiU,ak,RI,ak,uN];rw[<-e5] at lV EE;exact aoC n (by simp;omega) (λm rU=>hm m (oG rU)) e4 e3 EE lV u.ah.length 0 n _ _ _ (by omega) (by omega) fP (by simp) (λq h=>by omega) λq _ hq=>by
  rw[uN] at hq;simp[hq]
def Ng (hs:gm u=0) (hm:∀m∈ms,MB m/\(m.bg=8->hI m.cA)) (hc:dQ u ms ts) (lV:tz md ((u::ts).getLast (by simp)) st):tz md u (p7 ms u st):=by
 have main:∀(t:Nat) T rows,u.ah[t]? =V T->(p7 ms u st)[t]? =V rows->(rows.length<=24/\∀r∈rows,gH md T.aH 0 (ey T) r=M)/\Ord T rows:=λt T rows hT hr=>by
  rw[B8 hT] at hr;cases hr;unfold xJ;split
  ·exact ⟨⟨by simp,λr hr=>by simp at hr⟩,ac6⟩
  ·rename_i hw;obtain ⟨w,yE⟩:∃w:Nat,fZ ms (t:Int)=(w:Int):=⟨(fZ ms (t:Int)).toNat,by omega⟩
   rw[yE,show ((w:Int)).toNat=w by simp]
   cases hg:st[w]? with
   |none=>exact ⟨⟨by simp,λr hr=>by simp at hr⟩,ac6⟩
   |some rows=>
    have Ic:w<((u::ts).getLast (by simp)).ah.length:=by rw[<-lV.len];exact (bK.1 hg).1
    have gz:=cX Ic;obtain ⟨r1,r2⟩:=lV.row w _ rows gz hg;have r3:=lV.ord w _ rows gz hg;refine ⟨⟨by simpa using r1,λr hr=> ?_⟩,?_⟩
    ·obtain ⟨row,CC,rfl⟩:=dJ.1 (show r∈rows.map _ from hr);exact (Ay hm hs hc hT yE gz (r2 row CC)).2.1
    ·refine List.pairwise_map.2 (r3.imp_of_mem λ{a b} ha hb hab=> ?_)
     obtain ⟨k1,_,k2⟩:=Ay hm hs hc hT yE gz (r2 a ha);obtain ⟨_,_,k3⟩:=Ay hm hs hc hT yE gz (r2 b hb);show lt (dY T _) (dY T _);unfold dY;rw[k2,k3,<-k1];exact hab
 exact ⟨aau _ _ _,λt T rows hT hr=>(main t T rows hT hr).1,λt T rows hT hr=>(main t T rows hT hr).2⟩
end
end
section
section
variable {u t':ae} {m:aG} {ms:cH} {ts:gZ} {a a':Nat} {T g8:ai} {st:fC}
end
end
def aiw (n0:Nat) (rows:bn) (hl:rows.length<=1000) (hr:∀r∈rows,r.length<=100):∀(x:bn) (i m:Nat),rows.drop i=x->x.length+200<m->PY (acK n0) m rows rows (rows.length:Int) (i:Int)=V M
 | [],i,m+1,hd,hm=>by
  have hq:¬((i:Int)<(rows.length:Int)):=by
   have:rows.length<=i:=by simpa using hd
   omega
  simp only[PY,acL,hq,aR,az,au,acK]
 |r::x,i,m+1,hd,hm=>by
  obtain ⟨g1,g2,g3,hq⟩:=dO hd
  have h1:=hr r (bU g1);simp at hm;simp only[PY,acL,hq,aO,ax,bA,g1,ak,aiV m r r (by omega) (by omega),tK,jJ,az,au,bV g3 (by omega:rows.length<4294967296)]
  exact aiw n0 rows hl hr x (i+1) m g2 (by omega)
 |_,_,0,_,hm=>by omega
def aDs (hl:W.length<=1000) (hr:∀r∈W,r.length<=100) (hn:2000<o):F62 o W W=V M:=by
 unfold F62 auk;simp only[jJ,az,au];exact aiw o W hl hr W 0 o rfl (by omega)
def aiG (n0:Nat) (st:fC) (hl:st.length<=1000) (hr:∀rows∈st,rows.length<=1000/\∀r∈rows,r.length<=100):∀(x:fC) (i m:Nat),st.drop i=x->x.length+3000<m->Qc (adv n0) m (st.length:Int) (i:Int) ⟨st⟩ ⟨st⟩=V M
 | [],i,m+1,hd,hm=>by
  have hq:¬((i:Int)<(st.length:Int)):=by
   have:st.length<=i:=by simpa using hd
   omega
  simp only[Qc,adw,hq,aR,az,au,adv]
 |r::x,i,m+1,hd,hm=>by
  obtain ⟨g1,g2,g3,hq⟩:=dO hd
  obtain ⟨h1,h2⟩:=hr r (bU g1);simp at hm;simp only[Qc,adw,hq,aO,ax,bA,g1,ak,aDs m r h1 h2 (by omega),dh,az,au,bV g3 (by omega:st.length<4294967296)]
  exact aiG n0 st hl hr x (i+1) m g2 (by omega)
 |_,_,0,_,hm=>by omega
def aDu (hl:H.length<=1000) (hr:∀rows∈H,rows.length<=1000/\∀r∈rows,r.length<=100) (hn:5000<o):F23 o ⟨H⟩ ⟨H⟩=V M:=by
 unfold F23 auE;simp only[jJ,az,au];exact aiG o H hl hr H 0 o rfl (by omega)
def azy (n0:Nat) (a b:bp) (hl:a.length=b.length) (ha:a.length<=1000):∀(x:bp) (i m:Nat),a.drop i=x->x.length<m->Ok (PT (V M) m a b (a.length:Int) (i:Int)) λv=>(v=M↔a.drop i=b.drop i)
 | [],i,m+1,hd,hm=>by
  obtain ⟨hi,hq⟩:=eI hd
  simp only[PT,acD,hq,aR,az,au];rw[uq hi,uq (by omega)]
  exact Ok.pure (by simp)
 |v::x,i,m+1,hd,hm=>by
  obtain ⟨g1,g2,g3,hq⟩:=dO hd
  have hb:b[i]? =V b[i]:=cX (by omega)
  simp at hm;have ih:=azy n0 a b hl ha x (i+1) m g2 (by omega)
  have e1:a.drop i=v::a.drop (i+1):=by rw[g2];exact hd
  have e2:b.drop i=b[i]::b.drop (i+1):=uL (by omega)
  simp only[PT,acD,hq,aO,ax,bA,g1,hb,ak,bV g3 (by omega:a.length<4294967296)]
  rw[e1,e2];refine Ok.ite (λh=>Ok.pure ?_) λh=>ih.mono λw hw=> ?_
  ·have cR:¬v=b[i]:=λe=>by
    have h2:yj v b[i]=M:=DB.2 e;unfold yj at h2;rw[h2] at h;cases h
   exact ⟨λh=>(by cases h),λe=>absurd (abo e).1 cR⟩
  ·have h2:yj v b[i]=M:=by
    unfold yj;simpa using h
   rw[DB.1 h2];exact hw.trans ⟨λe=>by rw[e],λe=>(abo e).2⟩
 |_,_,0,_,hm=>by omega
def aQg (ha:I.length<=1000) (hn:2000<o):Ok (F81 o I Y) λv=>(v=M↔I=Y):=by
 unfold F81 atX;by_cases h:I.length=Y.length
 ·have e:((I.length:Int) !=(Y.length:Int))=B:=by simp[h]
  rw[e,aC HF];exact azy o I Y h ha I 0 o rfl (by omega)
 ·have e:((I.length:Int) !=(Y.length:Int))=M:=by simp;omega
  rw[e,aF rfl];have:¬I=Y:=λe=>h (by rw[e])
  exact Ok.pure (by simp[this])
section
def jF:bp:=if I= [] then [] else si D O E I
def Hd:A bB:=if ee (jF D O E K.dS) (jF D O E K.dP)=0 then none else V ⟨O,jF D O E K.dS,jF D O E K.dP⟩
def pQ:bC:=(C.filter λc=>U (c.av=fZ D (E:Int))).filterMap (Hd D (E:Int) f8.ag.length)
def xF:bC:=(List.range f9.ah.length).flatMap λ(q:Nat)=>((f9.ah[q]?).map (pQ D C q)).getD []
def gA (md:Int) (N:ae) (c:bB):Prop:=∃(w:Nat) (T:ai),c.av=(w:Int)/\N.ah[w]? =V T/\(c.dS≠ []\/c.dP≠ [])/\(c.dS≠ []->gH md T.aH 0 (ey T) c.dS=M)/\(c.dP≠ []->gH md T.aH 0 (ey T) c.dP=M)/\(c.dS≠ []->c.dP≠ []->dY T c.dS=dY T c.dP)
section
variable {u N:ae} {ms:cH} {ts r:gZ} {net:bC} {a w:Nat} {T T':ai} {ps:lz} {md:Int}
def ajA (hn:7000<o) (hw:fZ ms (a:Int)=(w:Int)) (hT:N.ah[w]? =V T') {row:bp} {key:Int} (hr:row≠ []->row.length=T'.ag.length) (hp:∀(i:Nat) p,ps[i]? =V p->∃k0,KI N ms (a:Int) key k0 i p) (yG:ps.length<=1000):
  NL o row ps=V (jF ms (a:Int) ps.length row):=by
 unfold jF;by_cases h:row= []
 ·subst h;unfold NL Wx;simp
 ·rw[aC h];exact azR o hn hw hT (hr h) h hp yG
def aov {R:A (bC×Int)} (k:Int->Int->eM->bC->bC->A (bC×Int)) (t46 t47:Int) (cD:eM) (wz:Int) (hwz:wz=fZ ms (a:Int)) (hC:∀c∈net,gA md N c) (hp:∀(i:Nat) p,ps[i]? =V p->∃k0,KI N ms (a:Int) T.aH k0 i p) (yG:ps.length=T.ag.length) (Zl:ps.length<=1000) (Ab:net.length<=1000):
  ∀(x:bC) (i m:Nat) (acc:bC),net.drop i=x->i<=net.length->x.length+8000<m->acc.length+x.length<=100000->k t46 t47 cD net (acc++pQ ms x a T)=R->
  P7 k m (a:Int) wz ps t46 t47 (net.length:Int) (i:Int) cD net acc=R
 | [],i,m+1,acc,hd,qD,hm,EM,hk=>by
  obtain ⟨hi,hq⟩:=eI hd
  simp only[P7,adk,hq,aR,az,au];simpa[pQ] using hk
 |c::x,i,m+1,acc,hd,qD,hm,EM,hk=>by
  obtain ⟨g1,g2,g3,hq⟩:=dO hd
  simp at hm EM;have ih:=λacc' h1 h2=>aov (R:=R) k t46 t47 cD wz hwz hC hp yG Zl Ab x (i+1) m acc' g2 (by omega) (by omega) h1 h2
  simp only[P7,adk,hq,aO,ax,fX g3,ak,cq,g1,bV g3 (by omega:net.length<4294967296)]
  by_cases hw:c.av=wz
  ·obtain ⟨w,T',c1,c2,c3,c4,c5,c6⟩:=hC c (bU g1);have qA:fZ ms (a:Int)=(w:Int):=by omega
   have f1:=ajA m (by omega) qA c2 (row:=c.dS) (λh=>gT (c4 h)) hp Zl
   have f2:=ajA m (by omega) qA c2 (row:=c.dP) (λh=>gT (c5 h)) hp Zl
   rw[yG] at f1 f2;have hl1:(jF ms (a:Int) T.ag.length c.dS).length<=1000:=by
    unfold jF;split
    ·simp
    ·rw[Aw];omega
   have e0:pQ ms (c::x) a T=(Hd ms (a:Int) T.ag.length c).toList++pQ ms x a T:=by
    unfold pQ;rw[je,aF (by rw[j2];omega),List.filterMap_cons]
    cases Hd ms (a:Int) T.ag.length c<;>rfl
   have cR:(c.av !=wz)=B:=by simp[hw]
   obtain ⟨v,ev,hv⟩:=aQg m (jF ms (a:Int) T.ag.length c.dS) (jF ms (a:Int) T.ag.length c.dP) hl1 (by omega)
   simp only[cR,az,au,f1,f2,ak,ev];by_cases he:ee (jF ms (a:Int) T.ag.length c.dS) (jF ms (a:Int) T.ag.length c.dP)=0
   ·rw[hv.2 (uY he)];simp only[dh,az,au];refine ih acc (by omega) ?_
    rw[e0] at hk;simpa[Hd,he] using hk
   ·have hvf:v=B:=by
     cases v with
     |false=>rfl
     |true=>exact absurd (uX.2 (hv.1 rfl)) he
    rw[hvf];simp only[gB,ax];rw[dr _ _ (by simp;omega),ak]
    refine ih _ (by simp;omega) ?_
    rw[e0] at hk;simpa[Hd,he] using hk
  ·have cR:(c.av !=wz)=M:=by simp[hw]
   simp only[cR,ax];refine ih acc (by omega) ?_
   have e0:pQ ms (c::x) a T=pQ ms x a T:=by
    unfold pQ;rw[je,aC (by rw[j2];omega)]
   rw[e0] at hk;exact hk
 |_,_,0,_,_,_,hm,_,_=>by omega
end
end
section
def aAD:(pQ D C E f8).length<=C.length:=by
 unfold pQ;exact kP (List.length_filterMap_le ..) (List.length_filter_le ..)
section
variable {u:ae} {ms:cH} {ts r:gZ} {net:bC} {md:Int}
def aou (n0:Nat) (hl:ms.length<=8) (im:∀m∈ms,MB m/\(m.bg=8->hI m.cA)) (hs:gm u=0) (hc:dQ u ms ts) (hC:∀c∈net,gA md ((u::ts).getLast (by simp)) c) (Ab:net.length<=1000):
  ∀(j i m:Nat) (acc:bC),i+j=u.ah.length->j+20000<m->m<4294967296->acc.length<=1000*i->
  KX (U6 n0) m (u.ah.length:Int) (i:Int) ⟨u::r,ms⟩ net acc=V (acc++(List.range' i j).flatMap (λ(q:Nat)=>((u.ah[q]?).map (pQ ms net q)).getD []),0)
 |0,i,m+1,acc,hi,hm,rU,EM=>by
  have hq:¬((i:Int)<(u.ah.length:Int)):=by omega
  simp only[KX,adi,hq,aR,az,au,U6];simp
 |j+1,i,m+1,acc,hi,hm,rU,EM=>by
  have hq:(i:Int)<(u.ah.length:Int):=by omega
  have hul:=(SG.of hs).len;have rV:i<u.ah.length:=by omega
  have hu:u.ah[i]? =V u.ah[i]:=cX rV;have fg:=((SG.of hs).bY _ (nZ rV)).cols;have vU:=aAD ms net i u.ah[i];simp only[KX,adi,hq,aO,ax];obtain ⟨z,ez,z1,z2,z3⟩:=aHB m (by omega) (by omega) hl im hs hc hu r
  rw[ez,ak];refine aov (T:=u.ah[i]) (adj (KX (U6 n0) m) m) (u.ah.length:Int) (i:Int) ⟨u::r,ms⟩ z.1 z1 hC z3 z2 (by omega) Ab net 0 m acc rfl (by omega) (by omega) (by omega) ?_
  unfold adj;rw[bV rV (by omega),aou n0 hl im hs hc hC Ab j (i+1) m _ (by omega) (by omega) (by omega) (by rw[gf];omega)]
  rw[Bu,Hy,hu,lr];rfl
 |_,_,0,_,_,hm,_,_=>by omega
end
section
variable {n:Nat} {s u:ae} {ms:cH} {ts:gZ} {k:Nat} {changes net:bC} {md:Int}
def aWh (hn:3000000<n) (fP:n<4294967296) (hs:gm s=0) (hm:∀m∈ms,MB m/\(m.bg=8->hI m.cA)) (hl:ms.length<=8) (hv:s.aA+(ms.length:Int)<=1000) (hc:dQ s ms ts) (hk:k<=ts.length) (hu:(s::ts)[k]? =V u) (hnet:F37 n ((s::ts).getLast (by simp)) md changes=V (net,0)) (hC:∀c∈net,gA md ((s::ts).getLast (by simp)) c) (Ab:net.length<=1000):
  F34 n s ms (s.aA+(k:Int)) md changes=V (xF (ms.drop k) u net,0):=by
 have hlen:=hc.len;obtain ⟨u',e1,e2,e3,e4,e5⟩:=dQ.drop hs hc hk;rw[hu] at e1;have e1:=lp e1;rw[<-e1] at e2 e3 e4;have e5:(u::ts.drop k).getLast (by simp)=(s::ts).getLast (by simp):=by
  rw[<-e5];congr 1;rw[e1]
 have hul:=(SG.of e4).len;unfold F34 auA;rw[azO (by omega) fP hs hm hl hv hc hk,ak,e2]
 simp only[jJ,az,au];rw[azN (by simp;omega),ak,e5,hnet,ak]
 simp only[jJ,az,au];rw[aiU,ak];rw[<-e5] at hC;have:=aou (r:=ts.drop k) n (by simp;omega) (λm rU=>hm m (oG rU)) e4 e3 hC Ab u.ah.length 0 n [] (by omega) (by omega) fP (by simp)
 rw[show ((0:Nat):Int)=0 from rfl] at this;rw[this,j0,<-LL];rfl
end
def AI {ms:cH} {t:Int} {n:Nat} {row:bp} (hn:0<n):jF ms t n row= []↔row= []:=by
 unfold jF;split
 ·simp[*]
 ·rename_i h;constructor
  ·intro e;have:=bH List.length e;rw[Aw] at this;simp at this;omega
  ·intro e;exact absurd e h
section
variable {u t':ae} {m:aG} {ms:cH} {a a':Nat} {T g8:ai}
end
end
section
def Je (ha:I.length<4294967296) (hn:I.length<o):F87 o I Y=V (ee I Y==0):=by
 unfold F87 atT;rw[Jf o I Y ha hn];rfl
section
variable {N:ae} {md:Int} {c:bB} {n:Nat}
def Ph {r:bp}:U (0<(r.length:Int))= !r.isEmpty:=by cases r<;>simp
def apq (mK:uj md) (hN:pj N) {w:Nat} {T:ai} (hw:c.av=(w:Int)) (hT:N.ah[w]? =V T) {row:bp} (hr:row≠ []->gH md T.aH 0 (ey T) row=M) (k:Int->Hh->Int->ae->bB->A Bool) (t36:Hh) (t37:Int) (hn:1000<n):UT k n md row t36 t37 N c=k md t36 (aV (t37+1)) N c:=by
 have ht:jT T:=hN.bY (w:Int) T (by rw[bA];exact hT)
 have vx:idx N.ah (w:Int)=V T:=by rw[bA];exact hT
 unfold UT;rw[Ph];by_cases h:row= []
 ·subst h;simp
 ·have e:row.isEmpty=B:=by cases row with
   |nil=>exact absurd rfl h
   |cons=>rfl
  rw[e];simp only[gB,ax];rw[hw,aHy mK vx ht row hn,ak,hr h];simp
def azM (mK:uj md) (hN:pj N) (hc:gA md N c) (hn:2000<n):F78 n N md c=V M:=by
 obtain ⟨w,T,hw,hT,h1,h2,h3,h4⟩:=hc;have ht:jT T:=hN.bY (w:Int) T (by rw[bA];exact hT)
 have vx:idx N.ah (w:Int)=V T:=by rw[bA];exact hT
 have Ic:=(bK.1 hT).1;have q1:¬((w:Int)<0):=by omega
 have q2:(w:Int)<(N.ah.length:Int):=by omega
 obtain ⟨m,rfl⟩:∃m,n=m+3:=⟨n-3,by omega⟩
 have w1:aV (0+1)=1:=cT (by omega) (by omega)
 have w2:aV (1+1)=2:=cT (by omega) (by omega)
 have d0:U ((0:Int)<2)=M:=rfl;have d1:U ((1:Int)<2)=M:=rfl;have d2:U ((2:Int)<2)=B:=rfl;have e00:((0:Int)==0)=M:=rfl;have e10:((1:Int)==0)=B:=rfl;have e11:((1:Int)==1)=M:=rfl;have main:UR (m+3) md N c=V M:=by
  unfold UR;simp only[PV,US,d0,ax,e00];rw[apq mK hN hw hT h2 _ _ _ (by omega),w1]
  simp only[PV,US,d1,ax,e10,az,au,e11];rw[apq mK hN hw hT h3 _ _ _ (by omega),w2]
  simp only[PV,US,d2,az,au,aua];rw[agK,agK];by_cases g1:c.dS= []
  ·simp[g1]
  ·by_cases g2:c.dP= []
   ·simp[g2]
   ·have i1:c.dS.isEmpty=B:=by simpa using g1
    have i2:c.dP.isEmpty=B:=by simpa using g2
    have l1:=gT (h2 g1);have l2:=gT (h3 g2);have h8:=ht.cols;rw[i1,i2];simp only[az,au];rw[hw,Ft vx ht _ l1,ak,Ft vx ht _ l2,ak,Je _ _ _ (by simp;omega) (by simp;omega),ak]
    have e:=h4 g1 g2;unfold dY at e;rw[e,tK];rfl
 unfold F78 atZ;rw[hw];simp only[q1,q2,aR,aO,dh,az,au];rw[agK,agK,main];by_cases g1:c.dS= []
 ·have g2:c.dP≠ []:=h1.resolve_left λh=>h g1
  have i2:c.dP.isEmpty=B:=by simpa using g2
  rw[g1,i2];simp
 ·have i1:c.dS.isEmpty=B:=by simpa using g1
  rw[i1];simp
def aor (mK:uj md) (hN:pj N) (n0:Nat) (ch:bC) (hl:ch.length<=1000) (hC:∀c∈ch,gA md N c):∀(x:bC) (i m:Nat),ch.drop i=x->x.length+2100<m->PS (acB n0) m ch (ch.length:Int) (i:Int) N md=V (-1,N,md)
 | [],i,m+1,hd,hm=>by
  have hq:¬((i:Int)<(ch.length:Int)):=by
   have:ch.length<=i:=by simpa using hd
   omega
  simp only[PS,acC,hq,aR,az,au,acB]
 |c::x,i,m+1,hd,hm=>by
  obtain ⟨g1,g2,g3,hq⟩:=dO hd
  simp at hm;have h78:F84 m c N md=V (B,N,md):=by
   unfold F84 atV;rw[azM mK hN (hC c (bU g1)) (by omega)];rfl
  simp only[PS,acC,hq,aO,ax,bA,g1,ak,h78,az,au,bV g3 (by omega:ch.length<4294967296)]
  exact aor mK hN n0 ch hl hC x (i+1) m g2 (by omega)
 |_,_,0,_,hm=>by omega
def aWc (mK:uj md) (hN:pj N) (ch:bC) (hl:ch.length<=1000) (hC:∀c∈ch,gA md N c) (hn:4000<n):F83 n ch N md=V (-1,N,md):=by
 unfold F83 atW;exact aor mK hN n ch hl hC ch 0 n rfl (by omega)
def aQf (hl:C.length<=1000):F85 o C=V C:=by
 unfold F85 atU;cases C with
 |nil=>rfl
 |cons c x=>
  simp only[List.isEmpty_cons,az,au];rw[dr _ _ (by simp at hl ⊢;omega)]
  simp
def iV:bp:=dY f8 (if K.dS.isEmpty=M then K.dP else K.dS)
def K3 (hN:pj N) {w:Nat} {T:ai} (hw:c.av=(w:Int)) (hT:N.ah[w]? =V T) (hc:gA md N c):F88 n N c=V (iV T c):=by
 obtain ⟨w',T',qA,gz,h1,h2,h3,_⟩:=hc;have:w'=w:=by omega
 rw[this,hT] at gz;cases gz;have ht:jT T:=hN.bY (w:Int) T (by rw[bA];exact hT)
 have vx:idx N.ah (w:Int)=V T:=by rw[bA];exact hT
 unfold F88 atQ iV;rw[Ph,hw];by_cases g1:c.dS= []
 ·have g2:c.dP≠ []:=h1.resolve_left λh=>h g1
  rw[g1];simp only[Oo,dh,az,au,ax];rw[Ft vx ht _ (gT (h3 g2))];rfl
 ·have i1:c.dS.isEmpty=B:=by simpa using g1
  rw[i1];simp only[gB,ax,az,au];rw[Ft vx ht _ (gT (h2 g1))];rfl
end
end
section
section
variable {u:ae} {ms:cH} {ts:gZ} {net:bC} {md:Int}
def Nh {c:bB} (h:c∈xF ms u net):∃(q:Nat) (T:ai) (d:bB),u.ah[q]? =V T/\d∈net/\d.av=fZ ms (q:Int)/\Hd ms (q:Int) T.ag.length d=V c:=by
 obtain ⟨q,hq,hc⟩:=wy.1 h;cases hT:u.ah[q]? with
 |none=>rw[hT] at hc;simp at hc
 |some T=>
  rw[hT] at hc;obtain ⟨d,hd,hc⟩:=On.1 (show c∈pQ ms net q T from hc);obtain ⟨h1,h2⟩:=mD.1 hd;exact ⟨q,T,d,hT,h1,by simpa using h2,hc⟩
def yJ {ms:cH} {t:Int} {n:Nat} {d c:bB} (h:Hd ms t n d=V c):c=⟨t,jF ms t n d.dS,jF ms t n d.dP⟩/\ee (jF ms t n d.dS) (jF ms t n d.dP)≠0:=by
 unfold Hd at h;split at h
 ·cases h
 ·rename_i e;cases h;exact ⟨rfl,e⟩
def ayN (hs:gm u=0) (hm:∀m∈ms,MB m/\(m.bg=8->hI m.cA)) (hc:dQ u ms ts) (hC:∀c∈net,gA md ((u::ts).getLast (by simp)) c):∀c∈xF ms u net,gA md u c/\c.dS≠c.dP:=λc h=>by
 obtain ⟨q,T,d,hT,h1,h2,h3⟩:=Nh h;obtain ⟨rfl,cR⟩:=yJ h3;obtain ⟨w,T',w1,w2,w3,w4,w5,w6⟩:=hC d h1;have hw:fZ ms (q:Int)=(w:Int):=by omega
 have B0:=(SG.of hs).bY T (bU hT);have k1:=B0.pY;have k2:=B0.jG;have h0:0<T.ag.length:=by omega
 have map:∀row,(row≠ []->gH md T'.aH 0 (ey T') row=M)->jF ms (q:Int) T.ag.length row≠ []->row≠ []/\jF ms (q:Int) T.ag.length row=si ms (q:Int) T.ag.length row/\gH md T.aH 0 (ey T) (jF ms (q:Int) T.ag.length row)=M/\dY T (jF ms (q:Int) T.ag.length row)=dY T' row:=λrow hr cR=>by
  have CC:row≠ []:=λe=>cR ((AI h0).2 e)
  have e:jF ms (q:Int) T.ag.length row=si ms (q:Int) T.ag.length row:=by unfold jF;rw[aC CC]
  obtain ⟨f1,f2,f3⟩:=Ay hm hs hc hT hw w2 (hr CC);refine ⟨CC,e,by rw[e];exact f2,?_⟩
  unfold dY;rw[e,f3,f1]
 refine ⟨⟨q,T,rfl,hT,?_,λh=>(map _ w4 h).2.2.1,λh=>(map _ w5 h).2.2.1,λg1 g2=> ?_⟩,λe=> ?_⟩
 ·exact w3.imp (λg e=>g ((AI h0).1 e)) λg e=>g ((AI h0).1 e)
 ·obtain ⟨a1,_,_,a2⟩:=map _ w4 g1;obtain ⟨b1,_,_,b2⟩:=map _ w5 g2;exact a2.trans ((w6 a1 b1).trans b2.symm)
 ·exact cR (uX.2 e)
end
section
variable {u t':ae} {m:aG} {ms:cH} {net:bC}
end
end
section
def vS:bp:=((f9.ah[F.av.toNat]?).map λT=>iV T F).getD []
def jI:Int:=if F.av=K.av then ee (vS f9 F) (vS f9 K) else F.av-K.av
section
variable {N:ae} {md:Int} {n:Nat}
def kL {c:bB} {w:Nat} {T:ai} (hw:c.av=(w:Int)) (hT:N.ah[w]? =V T):vS N c=iV T c:=by
 unfold vS;rw[hw,show ((w:Int)).toNat=w by simp,hT];rfl
def RB (hN:pj N) {c:bB} {w:Nat} {T:ai} (hT:N.ah[w]? =V T):(iV T c).length<=8:=by
 have ht:jT T:=hN.bY (w:Int) T (by rw[bA];exact hT)
 have h1:=ht.jG;have h2:=ht.cols;unfold iV dY;rw[dE];omega
def aWa (hN:pj N) {c d:bB} (hc:gA md N c) (hd:gA md N d) (hn:100<n):F90 n c d N=V (jI N c d,N):=by
 obtain ⟨w,T,hw,hT,_⟩:=id hc;obtain ⟨w',T',qA,gz,_⟩:=id hd;have hl:=hN.len;have Ic:=(bK.1 hT).1;have hwl':=(bK.1 gz).1;unfold F90 atO jI;by_cases e:c.av=d.av
 ·have yE:w'=w:=by omega
  rw[yE] at qA;have h1:=K3 (n:=n) hN hw hT hc;have h2:=K3 (n:=n) hN qA hT hd;have cR:(c.av !=d.av)=B:=by simp[e]
  have l1:=RB (c:=c) hN hT;simp only[cR,az,au,h1,h2,ak,Jf n (iV T c) (iV T d) (by omega) (by omega)]
  rw[aF e,kL hw hT,kL qA hT]
 ·have cR:(c.av !=d.av)=M:=by simp[e]
  simp only[cR,ax];rw[aC e,cT (by omega) (by omega)]
def px (N:ae) (x:bB):bC->bC
 | []=> [x]
 |y::l=>if jI N x y<0 then y::px N x l else x::y::l
def pR:bC:=C.foldl (λacc x=>(px f9 x acc.reverse).reverse) []
def RC (x:bB):∀l:bC,(px N x l).length=l.length+1
 | []=>rfl
 |y::l=>by
  unfold px;split
  ·rw[iU,RC x l];rfl
  ·rfl
def aiI (hN:pj N) (k:Int->Int->Int->bC->ae->A (bC×ae)) (b2 i8:Int) (x:bB) (hx:gA md N x):∀(p q:bC) (m:Nat),(∀c∈p,gA md N c)->p.length+200<m->p.length+q.length<=1000->
  IQ k m 0 b2 i8 (p.length:Int) (p.reverse++x::q) N=k 0 b2 i8 ((px N x p).reverse++q) N
 | [],q,m+1,hp,hm,hl=>by
  simp only[IQ,VH];simp[px]
 |y::p,q,m+1,hp,hm,hl=>by
  simp at hm hl;have hq:(0:Int)<(((y::p).length:Nat):Int):=by rw[iU];omega
  have hL:((y::p).reverse++x::q).length=p.length+1+(q.length+1):=by simp;omega
  have hj:(y::p).length<((y::p).reverse++x::q).length:=by rw[hL,iU];omega
  have MT:p.length<((y::p).reverse++x::q).length:=by rw[hL];omega
  have w:aV ((((y::p).length:Nat):Int)-1)=(p.length:Int):=by rw[iU,cT (by omega) (by omega)];omega
  have e1:((y::p).reverse++x::q)[(y::p).length]? =V x:=by
   rw[nY (by simp)];simp
  have e2:((y::p).reverse++x::q)[p.length]? =V y:=by
   rw[pE (by simp),List.reverse_cons,nY (by simp)];simp
  have ih:=aiI hN k b2 i8 x hx p (y::q) m (λc hc=>hp c (dW _ hc)) (by omega) (by simp;omega)
  simp only[IQ,VH,hq,aO,ax,fX hj,ak,cq,e1,w,fX MT,e2,aWa hN hx (hp y (by simp)) (by omega:100<m)]
  by_cases hc:jI N x y<0
  ·have s1:(((y::p).reverse++x::q).set (y::p).length y)=p.reverse++y::y::q:=by
    rw[wv _ _ (by simp)];simp
   have s2:(p.reverse++y::y::q).set p.length x=p.reverse++x::y::q:=by
    rw[wv _ _ (by simp)];simp
   have e3:(p.reverse++y::y::q)[p.length]? =V y:=by rw[nY (by simp)];simp
   simp only[hc,aO,ax];rw[dC _ hj,ak,s1,e3,ak,dC _ (by rw[gf,yf,iU];omega),ak,s2,ih]
   simp[px,hc]
  ·simp only[hc,aR,az,au];simp[px,hc]
 |_,_,0,_,hm,_=>by omega
def J5 {x c:bB}:∀{l:bC},c∈px N x l↔c=x\/c∈l
 | []=>by simp[px]
 |y::l=>by
  unfold px;split
  ·rw[da,J5 (l:=l),da];constructor
   ·rintro (h|h|h)<;>simp[h]
   ·rintro (h|h|h)<;>simp[h]
  ·rw[da]
def aiH (hN:pj N):∀(q acc:bC) (m:Nat),(∀c∈acc,gA md N c)->(∀c∈q,gA md N c)->q.length+1300<m->acc.length+q.length<=1000->
  Ch m 0 ((acc.length+q.length:Nat):Int) (acc.length:Int) (acc++q) N=V (q.foldl (λacc x=>(px N x acc.reverse).reverse) acc,N)
 | [],acc,m+1,h1,h2,hm,hl=>by
  simp[Ch,NX]
 |x::q,acc,m+1,h1,h2,hm,hl=>by
  simp at hm hl;have hq:(acc.length:Int)<((acc.length+(x::q).length:Nat):Int):=by rw[iU];omega
  have h:=aiI (md:=md) hN (VG (Ch m) m) ((acc.length+(x::q).length:Nat):Int) (acc.length:Int) x (h2 x (by simp)) acc.reverse q m (λc hc=>h1 c (by simpa using hc)) (by rw[yf];omega) (by rw[yf];omega)
  rw[yf,List.reverse_reverse] at h;simp only[Ch,NX,hq,aO,ax];rw[h];unfold VG;have rV:((px N x acc.reverse).reverse).length=acc.length+1:=by rw[yf,RC,yf]
  have w:aV ((acc.length:Int)+1)=((((px N x acc.reverse).reverse).length:Nat):Int):=by rw[cT (by omega) (by omega),rV];omega
  rw[w];have ih:=aiH hN q (px N x acc.reverse).reverse m (λc hc=>by
   rcases J5.1 (WK.1 hc) with e|e
   ·rw[e];exact h2 x (by simp)
   ·exact h1 c (by simpa using e)) (λc hc=>h2 c (dW _ hc)) (by omega) (by rw[rV];omega)
  rw[rV] at ih ⊢;rw[show acc.length+(x::q).length=acc.length+1+q.length by rw[iU];omega]
  exact ih
 |_,_,0,_,_,hm,_=>by omega
def aQv (hN:pj N) (l:bC) (hl:l.length<=1000) (hC:∀c∈l,gA md N c) (hn:3000<n):ajg n l 0 (l.length:Int) N=V (pR N l,N):=by
 unfold ajg akq;rw[show aV (0+1)=1 from cT (by omega) (by omega)]
 cases l with
 |nil=>
  obtain ⟨m,rfl⟩:∃m,n=m+1:=⟨n-1,by omega⟩
  simp[Ch,NX,pR]
 |cons x q=>
  simp at hl;have h:=aiH (md:=md) hN q [x] n (λc hc=>hC c (by simp at hc;simp[hc])) (λc hc=>hC c (dW _ hc)) (by omega) (by simp;omega)
  rw[show (((x::q).length:Nat):Int)=(([x].length+q.length:Nat):Int) by simp;omega]
  exact h
def aad:∀(q acc:bC),(q.foldl (λacc x=>(px N x acc.reverse).reverse) acc).length=acc.length+q.length
 | [],acc=>by simp
 |x::q,acc=>by rw[wA,aad q,yf,RC,yf,iU];omega
def FF:(pR N C).length=C.length:=by
 unfold pR;rw[aad];simp
def aWb (hN:pj N) (l:bC) (hl:l.length<20) (hC:∀c∈l,gA md N c) (hn:5000<n):F89 n l N=V (pR N l,N):=by
 have hs:iP (pR N l).length l.length=V ():=by unfold iP;rw[aF (FF l)]
 have h133:atv n l (l.length:Int) N=V (pR N l,N):=by
  unfold atv akU;obtain ⟨m,rfl⟩:∃m,n=m+1:=⟨n-1,by omega⟩
  have q1:(l.length:Int)<20:=by omega
  have q2:¬((20:Int)<(l.length:Int)):=by omega
  simp only[UB,akX,q1,aO,dh,az,au];unfold akV;rw[aQv hN l (by omega) hC (by omega),ak,hs,ak]
  simp only[UA,akW,q2,aR,az,au]
 unfold F89 atP;rw[h133,ak,hs];rfl
def CK:Prop:=C.Pairwise λc d=>0<jI f9 d c
end
end
section
def UE (h:I.length<=1000):F77 o I=V I:=by
 unfold F77 aub;rw[dr _ _ (by simp;omega)];simp
section
variable {N:ae} {md:Int} {n:Nat} {ch:bC}
def aQe (hN:pj N) {c d:bB} (hc:gA md N c) (hd:gA md N d) (h:0<jI N d c) (hn:100<n):F86 n c d N=V (B,N):=by
 obtain ⟨w,T,hw,hT,_⟩:=id hc;obtain ⟨w',T',qA,gz,_⟩:=id hd;unfold F86 acA;by_cases e:c.av=d.av
 ·have yE:w'=w:=by omega
  rw[yE] at qA;have h1:=K3 (n:=n) hN hw hT hc;have h2:=K3 (n:=n) hN qA hT hd;have he:(c.av==d.av)=M:=by simp[e]
  have l1:=RB (c:=c) hN hT;unfold jI at h;rw[aF e.symm,kL hw hT,kL qA hT,xL] at h;have cR:(ee (iV T c) (iV T d)==0)=B:=by simp;omega
  simp only[he,ax,h1,h2,ak,Je n (iV T c) (iV T d) (by omega) (by omega),cR]
 ·have he:(c.av==d.av)=B:=by simp[e]
  simp only[he,az,au]
def gA.lens (hN:pj N) {c:bB} (h:gA md N c):c.dS.length<=8/\c.dP.length<=8:=by
 obtain ⟨w,T,hw,hT,_,h2,h3,_⟩:=h;have ht:jT T:=hN.bY (w:Int) T (by rw[bA];exact hT)
 have h8:=ht.cols;constructor
 ·by_cases g:c.dS= []
  ·rw[g];simp
  ·have:=gT (h2 g);omega
 ·by_cases g:c.dP= []
  ·rw[g];simp
  ·have:=gT (h3 g);omega
end
end
section
section
variable {u:ae} {ms:cH} {ts:gZ} {net:bC} {md:Int}
def Pk (hs:gm u=0) (hm:∀m∈ms,MB m/\(m.bg=8->hI m.cA)) (hc:dQ u ms ts) {q w:Nat} {T T':ai} (hT:u.ah[q]? =V T) (hw:fZ ms (q:Int)=(w:Int)) (gz:((u::ts).getLast (by simp)).ah[w]? =V T') {c:bB} (hC:gA md ((u::ts).getLast (by simp)) c) (hcw:c.av=(w:Int)):
  iV T ⟨(q:Int),jF ms (q:Int) T.ag.length c.dS,jF ms (q:Int) T.ag.length c.dP⟩=iV T' c:=by
 obtain ⟨w',T2,w1,w2,w3,w4,w5,w6⟩:=hC;have:w'=w:=by omega
 rw[this,gz] at w2;cases w2;have B0:=(SG.of hs).bY T (bU hT);have k1:=B0.pY;have k2:=B0.jG;have h0:0<T.ag.length:=by omega
 have one:∀row,row≠ []->gH md T'.aH 0 (ey T') row=M->dY T (jF ms (q:Int) T.ag.length row)=dY T' row:=λrow cR hr=>by
  obtain ⟨f1,f2,f3⟩:=Ay hm hs hc hT hw gz hr;unfold jF;rw[aC cR];unfold dY;rw[f3,f1]
 unfold iV;by_cases g:c.dS= []
 ·have g2:c.dP≠ []:=w3.resolve_left λh=>h g
  have e:jF ms (q:Int) T.ag.length c.dS= []:=(AI h0).2 g;simp only[e,g,Oo,ax];exact one _ g2 (w5 g2)
 ·have e:(jF ms (q:Int) T.ag.length c.dS).isEmpty=B:=by
   cases h:jF ms (q:Int) T.ag.length c.dS with
   |nil=>exact absurd ((AI h0).1 h) g
   |cons=>rfl
  have e2:c.dS.isEmpty=B:=by simpa using g
  simp only[e,e2,az,au];exact one _ g (w4 g)
def ayM (hs:gm u=0) (hm:∀m∈ms,MB m/\(m.bg=8->hI m.cA)) (hc:dQ u ms ts) (hC:∀c∈net,gA md ((u::ts).getLast (by simp)) c) (hO:CK ((u::ts).getLast (by simp)) net):CK u (xF ms u net):=by
 have bY:∀(q:Nat) c,c∈((u.ah[q]?).map (pQ ms net q)).getD []->c.av=(q:Int):=λq c hc=>by
  cases hq:u.ah[q]? with
  |none=>rw[hq] at hc;simp at hc
  |some f7=>
   rw[hq] at hc;obtain ⟨d,_,hd⟩:=On.1 (show c∈pQ ms net q f7 from hc);rw[(yJ hd).1]
 unfold CK xF;refine List.pairwise_flatMap.2 ⟨λq hq=> ?_,?_⟩
 ·cases hT:u.ah[q]? with
  |none=>exact ac6
  |some T=>
   show (pQ ms net q T).Pairwise _;unfold pQ;have hp:(net.filter λc=>U (c.av=fZ ms (q:Int))).Pairwise λc d=>0<jI ((u::ts).getLast (by simp)) d c:=hO.sublist List.filter_sublist
   have hp2:=hp.imp_of_mem (S:=λc d=>(gA md ((u::ts).getLast (by simp)) c/\c.av=fZ ms (q:Int))/\(gA md ((u::ts).getLast (by simp)) d/\d.av=fZ ms (q:Int))/\0<jI ((u::ts).getLast (by simp)) d c) λ{a b} ha hb h=>by
    obtain ⟨a1,a2⟩:=mD.1 ha;obtain ⟨b1,b2⟩:=mD.1 hb;exact ⟨⟨hC a a1,by simpa using a2⟩,⟨hC b b1,by simpa using b2⟩,h⟩
   refine List.Pairwise.filterMap _ (λc d ⟨⟨c1,c2⟩,⟨d1,d2⟩,h⟩ c' lW d' hd'=> ?_) hp2
   obtain ⟨rfl,_⟩:=yJ lW;obtain ⟨rfl,_⟩:=yJ hd';obtain ⟨w,T',w1,w2,_⟩:=id c1;have e1:=Pk hs hm hc hT (by omega:fZ ms (q:Int)=(w:Int)) w2 c1 w1
   have e2:=Pk hs hm hc hT (by omega:fZ ms (q:Int)=(w:Int)) w2 d1 (by omega)
   unfold jI at h ⊢;rw[aF (by omega),kL (by omega:d.av=(w:Int)) w2,kL w1 w2] at h
   rw[aF rfl,kL rfl hT,kL rfl hT,e1,e2];exact h
 ·refine List.pairwise_lt_range.imp λ{a b} hab c hc d hd=> ?_
  have h1:=bY a c hc;have h2:=bY b d hd;unfold jI;rw[aC (by omega)]
  omega
end
end

section
section
variable {n:Nat} {s v:ae} {ms:cH} {ts:gZ} {k:Nat} {st:fC} {net:bC} {md:Int}
end
end
def aCo {m:aG} {a b:Int} (h:ny m a=ny m b) (h0:0<=ny m a):a=b:=by
 unfold ny at h h0;split at h
 ·split at h
  ·rename_i h7 e;rw[aF h7,aF e] at h0;omega
  ·rename_i h7 e;rw[aF h7,aC e] at h0;by_cases q:m.av<a
   ·rw[aF q] at h h0;split at h
    ·omega
    ·split at h<;>omega
   ·rw[aC q] at h h0;split at h
    ·omega
    ·split at h<;>omega
 ·exact h
def adT:∀{ms:cH} {a b:Int},fZ ms a=fZ ms b->0<=fZ ms a->a=b
 | [],_,_,h,_=>h
 |m::ms,a,b,h,h0=>by
  simp only[fZ] at h h0;split at h
  ·rename_i e;rw[aF e] at h0;omega
  ·rename_i e;rw[aC e] at h0;split at h
   ·omega
   ·exact aCo (adT h h0) (by omega)
def anV {f g:Nat->bC}:∀{L:List Nat},(∀a∈L,(f a).length=(g a).length)->(L.flatMap f).length=(L.flatMap g).length
 | [],_=>rfl
 |a::L,h=>by
  rw[Hy,Hy,gf,gf,h a (by simp),anV λb hb=>h b (dW _ hb)]
def anU {f g:Nat->bC} {P:Nat->Prop}:∀{L:List Nat},L.Nodup->(∀a∈L,¬P a->(f a).length=(g a).length)->(∀a∈L,(f a).length<=(g a).length+1)->(∀a∈L,∀b∈L,P a->P b->a=b)->(L.flatMap f).length<=(L.flatMap g).length+1
 | [],_,_,_,_=>by simp
 |a::L,hn,h1,h2,h3=>by
  obtain ⟨n1,n2⟩:=pG.1 hn;rw[Hy,Hy,gf,gf];by_cases hP:P a
  ·have e:=anV (f:=f) (g:=g) (L:=L) λb hb=>h1 b (dW _ hb) λnP=>n1 (by rw[h3 a (by simp) b (dW _ hb) hP nP];exact hb)
   have:=h2 a (by simp)
   omega
  ·have e:=h1 a (by simp) hP
   have:=anU (f:=f) (g:=g) (P:=P) n2 (λb hb=>h1 b (dW _ hb)) (λb hb=>h2 b (dW _ hb)) λb hb c hc=>h3 b (dW _ hb) c (dW _ hc)
   omega
def aav {ms:cH} {u:ae}:∀{net:bC},(∀c∈net,0<=c.av)->(xF ms u net).length<=net.length
 | [],_=>by
  have:xF ms u []= []:=List.flatMap_eq_nil_iff.2 λa _=>by
   cases u.ah[a]? <;>rfl
  rw[this];simp
 |c::net,h=>by
  have ih:=aav (ms:=ms) (u:=u) (net:=net) λd hd=>h d (dW _ hd)
  have hc:=h c (by simp)
  unfold xF at ih ⊢;refine kP (anU (g:=λq=>((u.ah[q]?).map (pQ ms net q)).getD []) (P:=λq=>c.av=fZ ms (q:Int)) List.nodup_range (λa _ hP=> ?_) (λa _=> ?_) λa _ b _ ha hb=> ?_) (by rw[iU];omega)
  ·cases u.ah[a]? with
   |none=>rfl
   |some T=>
    show (pQ ms (c::net) a T).length=(pQ ms net a T).length;unfold pQ;rw[je,aC (by rw[j2];exact hP)]
  ·cases u.ah[a]? with
   |none=>simp
   |some T=>
    show (pQ ms (c::net) a T).length<=(pQ ms net a T).length+1;unfold pQ;rw[je];split
    ·rw[List.filterMap_cons];split<;>simp
    ·omega
  ·have:=adT (ha.symm.trans hb) (by rw[<-ha];exact hc)
   omega
def aji {n:Nat} {u:ae} (hu:gm u=0) (hn:2000000<n) (fP:n<4294967296):Jh n u=V 0:=by
 have h:=UG n u (λT hT=>((SG.of hu).bY T hT).yq) (by omega) fP
 rw[hu] at h;exact h
def tz.same {N:ae} {n:Nat} {md:Int} {st:fC} (hN:pj N) (h:tz md N st) (hn:5000<n):F23 n ⟨st⟩ ⟨st⟩=V M:=by
 have hl:=h.len;have h8:=hN.len;refine aDu n st (by omega) (λrows hr=> ?_) hn
 obtain ⟨t,ht⟩:=Ag hr;have vU:=(bK.1 ht).1;have hT:N.ah[t]? =V (N.ah[t]'(by omega)):=cX (by omega)
 obtain ⟨r1,r2⟩:=h.row t _ rows hT ht;have hk:=(hN.bY (t:Int) _ (by rw[bA];exact hT)).cols
 exact ⟨by omega,λr hr=>by have:=gT (r2 r hr);omega⟩
def aot {R:A aw} (k:fC->Int->Int->aw->aw->bn->fC->A aw) (t10:fC) (t11 t12:Int) (rows:bn) (hl:rows.length<=1000) (hr:∀r∈rows,r.length<=100) (cm:fC) (hk:k t10 t11 t12 ⟨[]⟩ ⟨cm⟩ rows cm=R):∀(x:bn) (i m:Nat) (acc:bn),rows.drop i=x->acc=rows.take i->x.length+200<m->PU k m t10 t11 t12 rows (rows.length:Int) (i:Int) ⟨[]⟩ ⟨cm⟩ acc cm=R
 | [],i,m+1,acc,hd,ha,hm=>by
  obtain ⟨hi,hq⟩:=eI hd
  simp only[PU,acG,hq,aR,az,au];rw[ha,iT hi];exact hk
 |r::x,i,m+1,acc,hd,ha,hm=>by
  obtain ⟨g1,g2,g3,hq⟩:=dO hd
  have h1:=hr r (bU g1);simp at hm;have EM:acc.length=i:=by rw[ha,dE];omega
  simp only[PU,acG,hq,aO,ax,bA,g1,ak,Ji (n:=m) r (by omega),bV g3 (by omega:rows.length<4294967296)]
  rw[dr _ _ (by simp;omega),ak]
  refine aot k t10 t11 t12 rows hl hr cm hk x (i+1) m _ g2 ?_ (by omega)
  rw[ha,qk,g1];rfl
 |_,_,0,_,_,_,hm=>by omega
def aos (n0:Nat) (ts:fC) (hl:ts.length<=1000) (hr:∀rows∈ts,rows.length<=1000/\∀r∈rows,r.length<=100):∀(x:fC) (i m:Nat) (acc:fC),ts.drop i=x->acc=ts.take i->x.length+1300<m->KQ (UN n0) m ts (ts.length:Int) (i:Int) ⟨[]⟩ ⟨acc⟩ acc=V ⟨ts⟩
 | [],i,m+1,acc,hd,ha,hm=>by
  obtain ⟨hi,hq⟩:=eI hd
  simp only[KQ,acE,UN,hq,aR,az,au];rw[ha,iT hi]
 |r::x,i,m+1,acc,hd,ha,hm=>by
  obtain ⟨g1,g2,g3,hq⟩:=dO hd
  obtain ⟨h1,h2⟩:=hr r (bU g1);simp at hm;have EM:acc.length=i:=by rw[ha,dE];omega
  simp only[KQ,acE,hq,aO,ax,bA,g1,ak];refine aot (acF (KQ (UN n0) m) m) ts (ts.length:Int) (i:Int) r h1 h2 acc ?_ r 0 m [] rfl rfl (by omega)
  unfold acF;rw[dr _ _ (by simp;omega),ak,bV g3 (by omega:ts.length<4294967296)]
  refine aos n0 ts hl hr x (i+1) m _ g2 ?_ (by omega)
  rw[ha,qk,g1];rfl
 |_,_,0,_,_,_,hm=>by omega
def aQh (hl:H.length<=1000) (hr:∀rows∈H,rows.length<=1000/\∀r∈rows,r.length<=100) (hn:3000<o):F80 o ⟨H⟩=V ⟨H⟩:=
 aos o H hl hr H 0 o [] rfl rfl (by omega)
section
def jO (T:ai) (k:bp) (rows:bn) (r:bp):Prop:=(r∈rows/\r≠ []/\dY T r=k)\/(r= []/\∀y∈rows,dY T y≠k)
section
variable {T:ai} {k k':bp} {rows:bn} {r r':bp}
def jO.one (hO:Ord T rows) (h:jO T k rows r) (h':jO T k rows r'):r=r':=by
 rcases h with ⟨h1,h2,h3⟩|⟨h1,h2⟩<;>rcases h' with ⟨g1,g2,g3⟩|⟨g1,g2⟩
 ·obtain ⟨i,hi,rfl⟩:=Hu h1;obtain ⟨j,hj,rfl⟩:=Hu g1;rcases Nat.lt_trichotomy i j with h|h|h
  ·have:=WJ.1 hO i j hi hj h;rw[h3,g3] at this;exact absurd this (lt_irrefl _)
  ·subst h;rfl
  ·have:=WJ.1 hO j i hj hi h;rw[h3,g3] at this;exact absurd this (lt_irrefl _)
 ·exact absurd h3 (g2 r h1)
 ·exact absurd g3 (h2 r' g1)
 ·rw[h1,g1]
def jO.put (hr:r≠ []->dY T r=k):jO T k (mo T k (kb r) rows) r:=by
 by_cases h:r= []
 ·refine .inr ⟨h,λy hy=> ?_⟩
  rcases xP.1 hy with h1|h1
  ·exact h1.2
  ·rw[h] at h1;simp[kb] at h1
 ·exact .inl ⟨xP.2 (.inr (by simp[kb,h])),h,hr h⟩
def jO.other (cR:k'≠k) (hr:r≠ []->dY T r=k) (h:jO T k' rows r'):jO T k' (mo T k (kb r) rows) r':=by
 rcases h with ⟨h1,h2,h3⟩|⟨h1,h2⟩
 ·exact .inl ⟨xP.2 (.inl ⟨h1,λe=>cR (h3.symm.trans e)⟩),h2,h3⟩
 ·refine .inr ⟨h1,λy hy=> ?_⟩
  rcases xP.1 hy with g|g
  ·exact h2 y g.1
  ·unfold kb at g;split at g
   ·simp at g
   ·rename_i h0;rw[gg.1 g,hr h0];exact λe=>cR e.symm
end
section
variable {s:ae} {t:Nat} {T:ai} {key:bp} {rows:bn}
def azG (n0:Nat) (hT:s.ah[t]? =V T) (ht:jT T) (ts:fC) (hr:∀r∈rows,r.length=T.ag.length) (zh:rows.length<=1000):∀(x:bn) (i m:Nat),rows.drop i=x->x.length+1100<m->
  ∃z:Int,I8 (Ws n0) m (t:Int) key rows (rows.length:Int) (i:Int) ts s=V (z,ts)/\((z= -1/\∀y∈x,dY T y≠key)\/∃(j:Nat) (r:bp),z=(j:Int)/\rows[j]? =V r/\dY T r=key)
 | [],i,m+1,hd,hm=>by
  obtain ⟨hi,hq⟩:=eI hd
  refine ⟨-1,?_,.inl ⟨rfl,by simp⟩⟩
  simp only[I8,Wt,Ws,hq,aR,az,au]
 |r::x,i,m+1,hd,hm=>by
  obtain ⟨g1,g2,g3,hq⟩:=dO hd
  have o9:=hr r (bU g1);have fg:=ht.cols;simp at hm;have vx:idx s.ah (t:Int)=V T:=by rw[bA];exact hT
  simp only[I8,Wt,hq,aO,ax,bA,g1,ak,NI (n:=m) vx ht r o9,aiV m (r.take T.aH.toNat) key (by simp;omega) (by simp;omega),bV g3 (by omega:rows.length<4294967296)]
  by_cases h:ee (dY T r) key=0
  ·refine ⟨i,?_,.inr ⟨i,r,rfl,g1,uY h⟩⟩;simp[h]
  ·obtain ⟨z,h1,h2⟩:=azG n0 hT ht ts hr zh x (i+1) m g2 (by omega)
   have hb:(ee (dY T r) key==0)=B:=by simpa using h
   refine ⟨z,?_,?_⟩
   ·rw[hb];simpa using h1
   ·rcases h2 with ⟨h2,h3⟩|h2
    ·refine .inl ⟨h2,λy hy=> ?_⟩
     rcases da.1 hy with rfl|hy
     ·exact λe=>h (uX.2 e)
     ·exact h3 y hy
    ·exact .inr h2
 |_,_,0,_,hm=>by omega
def aWd (hT:s.ah[t]? =V T) (ht:jT T) (ts:fC) (iR:ts[t]? =V rows) (hr:∀r∈rows,r.length=T.ag.length) (zh:rows.length<=1000) (hn:3000<o):
  ∃r b,F71 o s ⟨ts⟩ (t:Int) key=V (r,b,ts)/\jO T key rows r:=by
 have vU:=(bK.1 hT).1;have htt:=(bK.1 iR).1;have q1:¬((t:Int)<0):=by omega
 have q2:(t:Int)<(s.ah.length:Int):=by omega
 have q3:(t:Int)<(ts.length:Int):=by omega
 have fg:=ht.cols;obtain ⟨z,h1,h2⟩:=azG (key:=key) o hT ht ts hr zh rows 0 o rfl (by omega)
 have e:atx o s ⟨ts⟩ (t:Int) key=V (z,ts):=by
  unfold atx ala;simp only[q1,q2,q3,aO,aR,dh,az,au,fX htt,ak,cq,iR];exact h1
 have hs:iP ts.length ts.length=V ():=by unfold iP;rw[aF rfl]
 unfold F71 aue;simp only[e,ak,hs];rcases h2 with ⟨rfl,h2⟩|⟨j,r,rfl,h2,h3⟩
 ·exact ⟨[],B,by simp,.inr ⟨rfl,h2⟩⟩
 ·have hm:=bU h2;have hl:=hr r hm;have k1:=ht.pY;have k2:=ht.jG;refine ⟨r,M,?_,.inl ⟨hm,λe=>by rw[e] at hl;simp at hl;omega,h3⟩⟩
  have qj:¬((j:Int)<0):=by omega
  simp only[qj,aR,az,au,fX htt,ak,cq,iR,bA,h2,Ji (n:=o) r (by omega)]
end
end
section
def aIN {a b c:bp} (h1:ee a b<=0) (h2:ee b c<=0):ee a c<=0:=by
 rcases H6 a b with h|h|h
 ·rcases H6 b c with g|g|g
  ·have:=s9.2 (lt_trans h g);omega
  ·rw[<-g];exact h1
  ·have:=s9.2 g;rw[xL] at this;omega
 ·rw[h];exact h2
 ·have:=s9.2 h;rw[xL] at this;omega
section
variable {N:ae} {a b c d x:bB}
def AT:jI N b a= - jI N a b:=by
 unfold jI;by_cases h:a.av=b.av
 ·rw[aF h,aF h.symm,xL]
 ·rw[aC h,aC λe=>h e.symm];omega
def DP (h1:jI N a b<=0) (h2:jI N b c<=0):jI N a c<=0:=by
 unfold jI at*;by_cases g1:a.av=b.av<;>by_cases g2:b.av=c.av
 ·rw[aF g1] at h1;rw[aF g2] at h2;rw[aF (g1.trans g2)];exact aIN h1 h2
 ·rw[aC g2] at h2;rw[aC λe=>g2 (g1.symm.trans e),g1];exact h2
 ·rw[aC g1] at h1;rw[aC λe=>g1 (e.trans g2.symm),<-g2];exact h1
 ·rw[aC g1] at h1;rw[aC g2] at h2;rw[aC (by omega)];omega
def same:Prop:=jI f9 F K=0
instance:Decidable (same N c d):=inferInstanceAs (Decidable (_=_))
def jE:same N c d↔c.av=d.av/\vS N c=vS N d:=by
 unfold same jI;by_cases h:c.av=d.av
 ·rw[aF h,uX];simp[h]
 ·rw[aC h];constructor
  ·intro e;omega
  ·intro e;exact absurd e.1 h
def jb:bC:=g7.filter λd=>U (same f9 F d)
def anR (x:bB):∀l:bC,jb N c (px N x l)=jb N c (x::l)
 | []=>rfl
 |y::l=>by
  unfold px;split
  ·rename_i h;have ih:=anR x l;unfold jb at*;rw[je,ih];simp only[je];by_cases h1:same N c x
   ·have h2:¬same N c y:=λh2=>by
     have h1:=jE.1 h1;have h2:=jE.1 h2;have:jI N x y=0:=jE.2 ⟨h1.1.symm.trans h2.1,h1.2.symm.trans h2.2⟩;omega
    simp[h1,h2]
   ·simp[h1]
  ·rfl
def anv:jb N c C.reverse=(jb N c C).reverse:=by unfold jb;rw[List.filter_reverse]
def afI:∀(q acc:bC),jb N c (q.foldl (λacc x=>(px N x acc.reverse).reverse) acc)=jb N c (acc++q)
 | [],acc=>by simp
 |x::q,acc=>by
  rw[wA,afI q];have e:jb N c (px N x acc.reverse).reverse=jb N c (acc++ [x]):=by
   rw[anv,anR,<-anv];simp
  unfold jb at*;rw[uQ,e,<-uQ];simp
def afH:jb N c (pR N C)=jb N c C:=afI C []
def KL:Prop:=C.Pairwise λc d=>jI f9 c d<=0
def ayy (x:bB):∀{l:bC},(l.Pairwise λc d=>jI N d c<=0)->(px N x l).Pairwise λc d=>jI N d c<=0
 | [],_=>by simp[px]
 |y::l,h=>by
  obtain ⟨h1,h2⟩:=lL.1 h;unfold px;split
  ·refine lL.2 ⟨λz hz=> ?_,ayy x h2⟩
   rcases J5.1 hz with rfl|hz
   ·omega
   ·exact h1 z hz
  ·have Ib:jI N y x<=0:=by rw[AT];omega
   refine lL.2 ⟨λz hz=> ?_,h⟩
   rcases da.1 hz with rfl|hz
   ·exact Ib
   ·exact DP (h1 z hz) Ib
def amM:∀(q acc:bC),KL N acc->KL N (q.foldl (λacc x=>(px N x acc.reverse).reverse) acc)
 | [],acc,h=>h
 |x::q,acc,h=>by
  rw[wA];exact amM q _ (List.pairwise_reverse.2 (ayy x (List.pairwise_reverse.2 h)))
def YO:KL N (pR N C):=amM C [] ac6
def aac:∀(q acc:bC),c∈q.foldl (λacc x=>(px N x acc.reverse).reverse) acc↔c∈acc\/c∈q
 | [],acc=>by simp
 |x::q,acc=>by
  rw[wA,aac q,WK,J5,WK,da];constructor
  ·rintro ((h|h)|h)<;>simp[h]
  ·rintro (h|h|h)<;>simp[h]
def Me {l:bC}:c∈pR N l↔c∈l:=by
 unfold pR;rw[aac];simp
def A0:bC->Prop
 |c::d::l=>c.dP=d.dS/\A0 (d::l)
 |_=>True
def A0.snoc:∀{l:bC},A0 l->(∀y,l.getLast? =V y->y.dP=x.dS)->A0 (l++ [x])
 | [],_,_=>trivial
 | [c],_,h=>⟨h c rfl,trivial⟩
 |c::d::l,h1,h=>⟨h1.1,A0.snoc (l:=d::l) h1.2 λy hy=>h y (by rw[WI];exact hy)⟩
end
end
section
def fin:bC:=if ee F.dS K.dP=0 then [] else [⟨F.av,F.dS,K.dP⟩]
def zk (N:ae) (f l:bB):bC->bC
 | []=>fin f l
 |d::r=>if same N f d then zk N f d r else fin f l++zk N d d r
def PI (N:ae) (f l:bB):bC->Prop
 | []=>True
 |d::r=>if same N f d then l.dP=d.dS/\PI N f d r else PI N d d r
section
variable {N:ae} {md:Int} {n:Nat} {ch:bC} {c d f l:bB}
def tJ:same N c c:=jE.2 ⟨rfl,rfl⟩
def qd (h:same N c d):same N d c:=jE.2 ⟨(jE.1 h).1.symm,(jE.1 h).2.symm⟩
def oD (h:same N c d) (h':same N d f):same N c f:=jE.2 ⟨(jE.1 h).1.trans (jE.1 h').1,(jE.1 h).2.trans (jE.1 h').2⟩
def A0.tail:∀{l:bC},A0 (c::l)->A0 l
 | [],_=>trivial
 |_::_,h=>h.2
def aqD:∀(r:bC) (f l:bB),same N f l->(∀c,A0 (jb N c (l::r)))->PI N f l r
 | [],_,_,_,_=>trivial
 |d::r,f,l,hs,h=>by
  have hr:∀c,A0 (jb N c (d::r)):=λc=>by
   have h1:=h c;unfold jb at h1 ⊢;rw[je] at h1;split at h1
   ·exact h1.tail
   ·exact h1
  unfold PI;split
  ·rename_i hd;refine ⟨?_,aqD r f d hd hr⟩;have h1:=h f;unfold jb at h1;simp only[je,hs,hd,aO,ax] at h1;exact h1.1
  ·exact aqD r d d tJ hr
def aJU (hN:pj N) (hc:gA md N c) (hd:gA md N d) (h:same N c d) (hn:100<n):F86 n c d N=V (M,N):=by
 obtain ⟨e,e2⟩:=jE.1 h;obtain ⟨w,T,hw,hT,_⟩:=id hc;have qA:d.av=(w:Int):=by omega
 have h1:=K3 (n:=n) hN hw hT hc;have h2:=K3 (n:=n) hN qA hT hd;rw[kL hw hT,kL qA hT] at e2;have he:(c.av==d.av)=M:=by simp[e]
 have l1:=RB (c:=c) hN hT;have hz:(ee (iV T c) (iV T d)==0)=M:=by rw[e2,tK];rfl
 unfold F86 acA;simp only[he,ax,h1,h2,ak,Je n (iV T c) (iV T d) (by omega) (by omega),hz]
def apr (hN:pj N) (hf:gA md N f) (hg:gA md N l) (k:Int->Int->bC->ae->bC->A (bC×Int)) (i:Int) (acc:bC) (hn:100<n) (ha:acc.length<=100000):U5 k n (-1) i ch N acc f l=k (-1) i ch N (acc++fin f l):=by
 obtain ⟨l1,_⟩:=hf.lens hN;obtain ⟨_,l2⟩:=hg.lens hN;unfold U5 fin;rw[Je n _ _ (by omega) (by omega),ak]
 by_cases h:ee f.dS l.dP=0
 ·simp[h]
 ·have hb:(ee f.dS l.dP==0)=B:=by simpa using h
  rw[hb,aC h];simp only[gB,ax];rw[UE n _ (by omega),ak,UE n _ (by omega),ak,dr _ _ (by simp;omega),ak]
def Zr:(fin f l).length<=1:=by
 unfold fin;split<;>simp
def ZJ (hN:pj N) (n0:Nat) (hl:ch.length<=1000) (hC:∀c∈ch,gA md N c):∀(r:bC) (j m m0:Nat) (acc:bC) (f l:bB),ch.drop j=r->gA md N f->gA md N l->(∀y∈r,jI N f y<=0)->KL N r->PI N f l r->r.length+300<m->r.length+300<m0->acc.length+r.length+1<=100000->P6 (U5 (Dr (Qx n0) m0) m0) m (-1) (j:Int) ch N acc f l=V (acc++zk N f l r,0)
 | [],j,m+1,m0,acc,f,l,hd,hf,hg,_,_,_,hm,hm0,ha=>by
  have hq:¬((j:Int)<(ch.length:Int)):=by
   have:ch.length<=j:=by simpa using hd
   omega
  obtain ⟨m0',rfl⟩:∃m',m0=m'+1:=⟨m0-1,by omega⟩
  simp only[P6,adh,hq,aR,az,au];rw[apr hN hf hg _ _ _ (by omega) (by simp at ha;omega)]
  simp only[Dr,Qy,hq,aR,az,au,Qx];simp[zk]
 |d::r,j,m+1,m0,acc,f,l,hd,hf,hg,hw,hO,hL,hm,hm0,ha=>by
  obtain ⟨g1,g2,g3,hq⟩:=dO hd
  have fd:=hC d (bU g1);obtain ⟨o1,o2⟩:=lL.1 hO;simp at hm hm0 ha;unfold PI at hL;simp only[P6,adh,hq,aO,ax,fX g3,ak,cq,g1];by_cases hs:same N f d
  ·rw[aF hs] at hL;have hy:=aJU (n:=m) hN hf fd hs (by omega)
   obtain ⟨_,l2⟩:=hg.lens hN;rw[hy,ak];simp only[ax];rw[Je m _ _ (by omega) (by omega),ak,hL.1,tK]
   simp only[gQ,dh,az,au];rw[bV g3 (by omega:ch.length<4294967296),ZJ hN n0 hl hC r (j+1) m m0 acc f d g2 hf fd (λy hy=>hw y (dW _ hy)) o2 hL.2 (by omega) (by omega) (by omega)]
   simp only[zk,hs,ax]
  ·rw[aC hs] at hL;have G5:0<jI N d f:=by
    have h1:=hw d (by simp)
    have h2:¬jI N f d=0:=hs;rw[AT];omega
   rw[aQe (n:=m) hN hf fd G5 (by omega),ak]
   simp only[az,au];obtain ⟨m0',rfl⟩:∃m',m0=m'+1:=⟨m0-1,by omega⟩
   have fl:=Zr (f:=f) (l:=l);rw[apr hN hf hg _ _ _ (by omega) (by omega)]
   simp only[Dr,Qy,hq,aO,ax,fX g3,ak,cq,g1,bV g3 (by omega:ch.length<4294967296)]
   rw[ZJ hN n0 hl hC r (j+1) m0' m0' (acc++fin f l) d d g2 fd fd o1 o2 hL (by omega) (by omega) (by simp;omega)]
   simp only[zk,hs,au,lr]
 |_,_,0,_,_,_,_,_,_,_,_,_,_,hm,_,_=>by omega
def AH:bC->bC
 | []=> []
 |c::r=>zk f9 c c r
def aJT (hN:pj N) (hl:ch.length<=1000) (hC:∀c∈ch,gA md N c) (hO:KL N ch) (hL:∀c,A0 (jb N c ch)) (hn:2000<n):Dr (Qx n) n (-1) 0 ch N []=V (AH N ch,0):=by
 obtain ⟨m,rfl⟩:∃m,n=m+1:=⟨n-1,by omega⟩
 cases ch with
 |nil=>simp[Dr,Qy,Qx,AH]
 |cons c r=>
  obtain ⟨o1,o2⟩:=lL.1 hO;have hq:(0:Int)<((c::r).length:Int):=by rw[iU];omega
  have hb:eh (c::r).length 0=V 0:=fX (i:=0) (by simp)
  have fc:=hC c (by simp)
  simp only[Dr,Qy,hq,aO,ax,hb,ak,cq,wm];rw[show aV (0+1)=((1:Nat):Int) from cT (by omega) (by omega)]
  simp at hl;rw[ZJ hN (m+1) (by simp;omega) hC r 1 m m [] c c rfl fc fc o1 o2 (aqD r c c tJ hL) (by omega) (by omega) (by simp;omega)]
  rfl
def aWf (mK:uj md) (hN:pj N) (F4:Jh n N=V 0) (hl:ch.length<20) (hC:∀c∈ch,gA md N c) (hL:∀c,A0 (jb N c ch)) (hn:6000<n):F37 n N md ch=V (AH N (pR N ch),0):=by
 have hs:iP (pR N ch).length ch.length=V ():=by unfold iP;rw[aF (FF ch)]
 unfold F37 auz;rw[aHz mK F4,ak];simp only[jJ,az,au];rw[aWc mK hN ch (by omega) hC (by omega),ak,aQf n ch (by omega),ak]
 have q:U ((-1:Int)<0)=M:=rfl;simp only[q,dh,az,au];unfold adg;rw[aWb hN ch hl hC (by omega),ak,hs,ak]
 exact aJT hN (by rw[FF];omega) (λc hc=>hC c (Me.1 hc)) (YO ch) (λc=>by rw[afH];exact hL c) (by omega)
end
end
section
section
variable {N:ae} {md:Int} {c d f l:bB}
def Ez {T:ai} (h:c.dS≠ []):iV T c=dY T c.dS:=by
 have:c.dS.isEmpty=B:=by simpa using h
 unfold iV;rw[this];rfl
def J0 {T:ai} (h:c.dP≠ []) (hk:c.dS≠ []->c.dP≠ []->dY T c.dS=dY T c.dP):iV T c=dY T c.dP:=by
 by_cases g:c.dS= []
 ·unfold iV;rw[g];rfl
 ·rw[Ez g,hk g h]
def Im (hf:gA md N f) (hl:gA md N l) (hs:same N f l) (h:c∈fin f l):gA md N c/\c.dS≠c.dP/\same N f c:=by
 unfold fin at h;split at h
 ·simp at h
 ·rename_i cR;rw[gg] at h;subst h;have cR:f.dS≠l.dP:=λe=>cR (uX.2 e)
  obtain ⟨e1,e2⟩:=jE.1 hs;obtain ⟨w,T,hw,hT,a1,a2,a3,a4⟩:=hf;obtain ⟨w',T',qA,gz,b1,b2,b3,b4⟩:=hl;obtain rfl:w'=w:=by omega
  rw[hT] at gz;cases gz;rw[kL hw hT,kL qA hT] at e2;refine ⟨⟨w',T,hw,hT,?_,a2,b3,λh1 h2=> ?_⟩,cR,jE.2 ⟨rfl,?_⟩⟩
  ·by_cases g:f.dS= []
   ·refine .inr λe=>cR ?_
    show f.dS=l.dP;rw[g];exact e.symm
   ·exact .inl g
  ·show dY T f.dS=dY T l.dP;rw[<-Ez (c:=f) h1,e2,J0 (c:=l) h2 b4]
  ·rw[kL hw hT,kL (c:=⟨f.av,f.dS,l.dP⟩) hw hT];by_cases g:f.dS= []
   ·have g2:l.dP≠ []:=λe=>cR (by rw[g,e])
    rw[e2,J0 g2 b4];unfold iV;rw[g];rfl
   ·rw[Ez g,Ez (c:=⟨f.av,f.dS,l.dP⟩) g]
def anW:CK N (fin f l):=by
 unfold fin CK;split<;>simp
def ahs:∀(r:bC) (f l:bB),gA md N f->gA md N l->same N f l->(∀y∈r,gA md N y)->(∀y∈r,jI N f y<=0)->KL N r->(∀e∈zk N f l r,(gA md N e/\e.dS≠e.dP)/\jI N f e<=0)/\CK N (zk N f l r)/\(zk N f l r).length<=r.length+1
 | [],f,l,hf,hl,hs,_,_,_=>by
  refine ⟨λe he=> ?_,anW,Zr⟩
  obtain ⟨h1,h2,h3⟩:=Im hf hl hs he;have h3:jI N f e=0:=h3;exact ⟨⟨h1,h2⟩,by omega⟩
 |d::r,f,l,hf,hl,hs,hF,hw,hO=>by
  obtain ⟨o1,o2⟩:=lL.1 hO;have fd:=hF d (by simp)
  have fr:=λy hy=>hF y (dW d hy)
  have h1:=hw d (by simp)
  unfold zk;split
  ·rename_i g;obtain ⟨i1,i2,i3⟩:=ahs r f d hf fd g fr (λy hy=>hw y (dW _ hy)) o2
   exact ⟨i1,i2,by rw[iU];omega⟩
  ·rename_i g;obtain ⟨i1,i2,i3⟩:=ahs r d d fd fd tJ fr o1 o2;have fl:=Zr (f:=f) (l:=l);refine ⟨λe he=> ?_,WM.2 ⟨anW,i2,λc hc e he=> ?_⟩,by simp;omega⟩
   ·rcases eV.1 he with he|he
    ·obtain ⟨h1,h2,h3⟩:=Im hf hl hs he;have h3:jI N f e=0:=h3;exact ⟨⟨h1,h2⟩,by omega⟩
    ·exact ⟨(i1 e he).1,DP h1 (i1 e he).2⟩
   ·have h3:jI N f c=0:=(Im hf hl hs hc).2.2;have h4:=(i1 e he).2;have h5:jI N c f<=0:=by rw[AT];omega
    have h6:=DP h5 (DP h1 h4);have h7:jI N f d≠0:=g;by_cases h8:jI N c e=0
    ·have h9:jI N e f=0:=qd (oD h3 h8);have:=DP h4 (by omega:jI N e f<=0)
     rw[AT] at this;omega
    ·rw[AT];omega
def aJb {l:bC} (hF:∀y∈l,gA md N y) (hO:KL N l):(∀e∈AH N l,gA md N e/\e.dS≠e.dP)/\CK N (AH N l)/\(AH N l).length<=l.length:=by
 cases l with
 |nil=>exact ⟨by simp[AH],ac6,cS _⟩
 |cons c r=>
  obtain ⟨o1,o2⟩:=lL.1 hO;have fc:=hF c (by simp)
  obtain ⟨h1,h2,h3⟩:=ahs r c c fc fc tJ (λy hy=>hF y (dW _ hy)) o1 o2
  exact ⟨λe he=>(h1 e he).1,h2,h3⟩
end
end
section
def aQY {md key:Int} {a b:bp} (j:Nat) (ha:gH md key i ks a=M) (hb:gH md key i ks b=M):gH md key i ks (a.take j++b.drop j)=M:=by
 have la:=vJ ha;have lb:=vJ hb;refine YT (by simp;omega) λq k v hk hv=> ?_
 by_cases h:q<(a.take j).length
 ·rw[pE h,fw] at hv;obtain ⟨w,h1,h2⟩:=JJ ha hk;split at hv
  ·rw[h1] at hv;cases hv;exact h2
  ·cases hv
 ·rw[nY (by omega),fh] at hv
  obtain ⟨w,h1,h2⟩:=JJ hb hk;have hq:=(bK.1 hk).1;simp at h;have e:j+(q-(a.take j).length)=q:=by simp;omega
  rw[e,h1] at hv;cases hv;exact h2
structure Cf (md:Int) (N:ae) (b:Nat) (st:fC):Prop where
 len:st.length=N.ah.length
 row:∀(t:Nat) T rows,N.ah[t]? =V T->st[t]? =V rows->rows.length<=b/\(∀r∈rows,gH md T.aH 0 (ey T) r=M)/\Ord T rows
def tz.b8 {md:Int} {N:ae} {st:fC} (h:tz md N st) (hf:ZM st):Cf md N 8 st:=⟨h.len,λt T rows hT hr=>⟨hf t rows hr,(h.row t T rows hT hr).2,h.ord t T rows hT hr⟩⟩
def tz.b {md:Int} {N:ae} {st:fC} (h:tz md N st):Cf md N 24 st:=⟨h.len,λt T rows hT hr=>⟨(h.row t T rows hT hr).1,(h.row t T rows hT hr).2,h.ord t T rows hT hr⟩⟩
def Cf.g {md:Int} {N:ae} {b:Nat} {st:fC} (h:Cf md N b st) (hb:b<=24):tz md N st:=⟨h.len,λt T rows hT hr=>⟨kP (h.row t T rows hT hr).1 hb,(h.row t T rows hT hr).2.1⟩,λt T rows hT hr=>(h.row t T rows hT hr).2.2⟩
def jO.ex {T:ai} {rows:bn} (k:bp) (h0:∀y∈rows,y≠ []):∃r,jO T k rows r:=by
 by_cases h:∃y∈rows,dY T y=k
 ·obtain ⟨y,h1,h2⟩:=h;exact ⟨y,.inl ⟨h1,h0 y h1,h2⟩⟩
 ·exact ⟨[],.inr ⟨rfl,λy hy e=>h ⟨y,hy,e⟩⟩⟩
def aHu (nJ:fC) (out:bC):Prop:=∀(w:Nat) T rows rows' k r,f9.ah[w]? =V T->H[w]? =V rows->nJ[w]? =V rows'->(∀x∈out,x.av=(w:Int)->vS f9 x≠k)->jO T k rows r->jO T k rows' r
def wR (N:ae) (st:fC) (c:bB) (r:bp):Prop:=∃(w:Nat) (T:ai) (rows:bn),c.av=(w:Int)/\N.ah[w]? =V T/\st[w]? =V rows/\jO T (vS N c) rows r
structure Made (md:Int) (N:ae) (b:Nat) (rK st:fC) (out:bC):Prop where
 ok0:Cf md N 8 rK
 first:∀c y,(jb N c out).head? =V y->wR N rK y y.dS
 rest:aHu N rK st out
 ok:Cf md N b st
 fit:∀c∈out,gA md N c
 link:∀c,A0 (jb N c out)
 last:∀c y,(jb N c out).getLast? =V y->wR N st y y.dP
section
variable {md:Int} {N:ae} {b t:Nat} {st rK:fC} {out:bC} {T:ai} {rows:bn} {r r0 w:bp}
def Made.nil (h:Cf md N 8 st):Made md N 8 st st []:=⟨h,λc y h=>by simp[jb] at h,λw T rows rows' k r hT h1 h2 _ h3=>by rw[h1] at h2;cases h2;exact h3,h,by simp,λc=>trivial,λc y h=>by simp[jb] at h⟩
def Rq:jb N F (out++ [K])=if same N F K then jb N F out++ [K] else jb N F out:=by
 unfold jb;rw[uQ];by_cases h:same N F K<;>simp[h]
def Made.snoc (h:Made md N b rK st out) (hT:N.ah[t]? =V T) (hr:st[t]? =V rows) (hf:gH md T.aH 0 (ey T) r=M) (xt:r≠ []) (h0:jO T (dY T r) rows r0) (hw:w=r\/(w= []/\r0≠ [])):
  Made md N (b+1) rK (st.set t (mo T (dY T r) (kb w) rows)) (out++ [⟨(t:Int),r0,w⟩]):=by
 have vU:=(bK.1 hr).1;obtain ⟨s1,s2,s3⟩:=h.ok.row t T rows hT hr;have hwr:w≠ []->dY T w=dY T r:=λe=>by rcases hw with rfl|⟨rfl,_⟩<;>simp_all
 have h0k:r0≠ []->dY T r0=dY T r:=λe=>by rcases h0 with h0|h0<;>simp_all
 have hx:gA md N ⟨(t:Int),r0,w⟩:=by
  refine ⟨t,T,rfl,hT,?_,λe=> ?_,λe=> ?_,λe1 e2=>(h0k e1).trans (hwr e2).symm⟩
  ·rcases hw with rfl|⟨_,h2⟩
   ·exact .inr xt
   ·exact .inl h2
  ·rcases h0 with h0|h0
   ·exact s2 r0 h0.1
   ·exact absurd h0.1 e
  ·rcases hw with rfl|⟨rfl,_⟩
   ·exact hf
   ·exact absurd rfl e
 have hk:vS N ⟨(t:Int),r0,w⟩=dY T r:=by
  rw[kL (c:=⟨(t:Int),r0,w⟩) rfl hT];by_cases e:r0= []
  ·subst e;have hw:w=r:=hw.resolve_right λh=>h.2 rfl
   subst hw;rfl
  ·rw[Ez (c:=⟨(t:Int),r0,w⟩) e];exact h0k e
 have zj:rK.length=st.length:=h.ok0.len.trans h.ok.len.symm;have arc:rK[t]? =V (rK[t]'(by omega)):=cX (by omega)
 generalize rK[t]'(by omega)=C6 at arc
 obtain ⟨_,u2,_⟩:=h.ok0.row t T C6 hT arc;have Zn:∀y∈C6,y≠ []:=λy hy e=>by
  have l1:=vJ (u2 y hy);have l2:=vJ hf;rw[e] at l1;exact xt (uP (by rw[l2,<-l1];rfl))
 refine ⟨h.ok0,λc y hy=> ?_,λq T' rq rq' k r' gz g1 g2 qz jf=> ?_,⟨by rw[kp];exact h.ok.len,λq T' rows' gz jf=> ?_⟩,λc hc=> ?_,λc=> ?_,λc y hy=> ?_⟩
 ·rw[Rq] at hy;split at hy
  ·rename_i hs;cases ho:jb N c out with
   |cons a l=>rw[ho] at hy;exact h.first c y (by rw[ho];exact hy)
   |nil=>
    rw[ho] at hy;simp at hy;subst hy;obtain ⟨r1,Ih⟩:=jO.ex (T:=T) (dY T r) Zn;have:=h.rest t T C6 rows _ r1 hT arc hr (λx hx e1 e2=>by
     have:x∈jb N c out:=by
      unfold jb;exact mD.2 ⟨hx,by simpa using oD hs (jE.2 ⟨e1.symm,hk.trans e2.symm⟩)⟩
     rw[ho] at this;cases this) Ih
    rw[this.one s3 h0] at Ih;exact ⟨t,T,C6,rfl,hT,arc,by rw[hk];exact Ih⟩
  ·exact h.first c y hy
 ·by_cases hq:q=t
  ·subst hq;rw[hT] at gz;cases gz;rw[j3 vU] at g2;cases g2;have cR:k≠dY T r:=λe=>qz ⟨(q:Int),r0,w⟩ (by simp) rfl (hk.trans e.symm)
   exact (h.rest q T rq rows k r' hT g1 hr (λx hx=>qz x (by simp[hx])) jf).other cR hwr
  ·rw[mE (qp hq)] at g2;exact h.rest q T' rq rq' k r' gz g1 g2 (λx hx=>qz x (by simp[hx])) jf
 ·by_cases hq:q=t
  ·subst hq;rw[hT] at gz;cases gz;rw[j3 vU] at jf;cases jf;have hl:=JQ (T:=T) (dY T r) (kb w) rows;have ho:(kb w).length<=1:=by unfold kb;split<;>simp
   refine ⟨by omega,λy hy=> ?_,Rl s3 ?_⟩
   ·rcases xP.1 hy with g|g
    ·exact s2 y g.1
    ·unfold kb at g;split at g
     ·simp at g
     ·rename_i hwn;rw[gg.1 g];rcases hw with rfl|⟨rfl,_⟩
      ·exact hf
      ·exact absurd rfl hwn
   ·unfold kb;split
    ·exact .inl rfl
    ·rename_i hwn;exact .inr ⟨w,rfl,hwr hwn⟩
  ·rw[mE (qp hq)] at jf;obtain ⟨a1,a2⟩:=h.ok.row q T' rows' gz jf;exact ⟨by omega,a2⟩
 ·rcases eV.1 hc with hc|hc
  ·exact h.fit c hc
  ·rw[gg.1 hc];exact hx
 ·rw[Rq];split
  ·rename_i hs;refine (h.link c).snoc λy hy=> ?_
   obtain ⟨q,T',rows',e1,e2,e3,e4⟩:=h.last c y hy;have hcy:same N c y:=by
    have:=Om hy;unfold jb at this;simpa using (mD.1 this).2
   obtain ⟨g1,g2⟩:=jE.1 (oD (qd hcy) hs);have g1:y.av=(t:Int):=g1;obtain rfl:q=t:=by omega
   rw[hT] at e2;cases e2;rw[hr] at e3;cases e3;rw[g2,hk] at e4;exact e4.one s3 h0
  ·exact h.link c
 ·rw[Rq] at hy;split at hy
  ·rw[List.getLast?_append] at hy;simp at hy;subst hy;exact ⟨t,T,mo T (dY T r) (kb w) rows,rfl,hT,j3 vU,by rw[hk];exact jO.put hwr⟩
  ·rename_i hs;obtain ⟨q,T',rows',e1,e2,e3,e4⟩:=h.last c y hy;have hcy:same N c y:=by
    have:=Om hy;unfold jb at this;simpa using (mD.1 this).2
   by_cases hq:q=t
   ·subst hq;rw[hT] at e2;cases e2;rw[hr] at e3;cases e3;have cR:vS N y≠dY T r:=λe=>hs (oD hcy (jE.2 ⟨e1,e.trans hk.symm⟩))
    exact ⟨q,T,mo T (dY T r) (kb w) rows,e1,hT,j3 vU,e4.other cR hwr⟩
   ·exact ⟨q,T',rows',e1,e2,by rw[mE (qp hq)];exact e3,e4⟩
end
end
section
def aJA {ys:bp} (h:ys.length<=xs.length) (h0:xs≠ []):Ge xs ys=V (ys++xs.drop ys.length):=by
 unfold Ge;rw[aC h0,fu h,nF]
section
variable {md:Int} {N:ae} {t:Nat} {T:ai} {rows:bn}
def aow {rK:fC} (hN:pj N) (n0:Nat):∀(d m b:Nat) (c:aN) (z1 z2:aw) (st:fC) (out:bC),d+5000<m->dd c->Made md N b rK st out->b+d<=1000->out.length+d<=100->
  Ok (GA (Li n0) m md (d:Int) c N z1 z2 out st) λr=>dd r.2.2/\(∃b',b'<=b+d/\Made md N b' rK r.2.1.ah r.1)/\r.1.length<=out.length+d
 |0,m+1,b,c,z1,z2,st,out,hm,hc,h,hb,ho=>by
  have hq:¬(0:Int)<((0:Nat):Int):=by omega
  simp only[GA,adl,hq,aR,az,au,Li];exact Ok.pure ⟨hc,⟨b,by omega,h⟩,Ox _ _⟩
 |d+1,m+1,b,c,z1,z2,st,out,hm,hc,h,hb,ho=>by
  have hq:(0:Int)<((d+1:Nat):Int):=by omega
  have hw:aV (((d+1:Nat):Int)-1)=(d:Int):=by rw[cT (by omega) (by omega)];omega
  have hl8:=hN.len;have Ig:=h.ok.len;simp only[GA,adl,hq,aO,ax];by_cases h0:0<(N.ah.length:Int);rotate_left
  ·simp only[h0,aR,az,au,Li];exact Ok.pure ⟨hc,⟨b,by omega,h⟩,Ox _ _⟩
  simp only[h0,aO,ax];refine Ok.bind (j7 m c _ hc) λdB ⟨c1,a1,a2,_⟩=> ?_
  have a2:=a2 (by omega)
  obtain ⟨t,ht0⟩:∃t:Nat,dB.1=(t:Int):=⟨dB.1.toNat,by omega⟩
  rw[ht0] at a2 ⊢;have vU:t<N.ah.length:=by omega
  obtain ⟨T,hT⟩:∃T,N.ah[t]? =V T:=⟨_,cX vU⟩;have vx:idx N.ah (t:Int)=V T:=by rw[bA];exact hT
  have ht:=hN.bY (t:Int) T vx;have fg:=ht.cols;have hkl:=pX T;have k1:=ht.pY;have k2:=ht.jG;have lV:t<st.length:=by omega
  obtain ⟨rows,iR⟩:∃rows,st[t]? =V rows:=⟨_,cX lV⟩;obtain ⟨s1,s2,s3⟩:=h.ok.row t T rows hT iR;have step:∀(c':aN) (r:bp) (tb:bD) (tl:Int) (y1 y2:aw),dd c'->gH md T.aH 0 (ey T) r=M->
    Ok (Qz (GA (Li n0) m) m md ((d+1:Nat):Int) tb tl c' N y1 y2 out ⟨(t:Int),[],[]⟩ r st) λr=>dd r.2.2/\(∃b',b'<=b+(d+1)/\Made md N b' rK r.2.1.ah r.1)/\r.1.length<=out.length+(d+1):=λc' r tb tl y1 y2 lW hr=>by
   have o9:=gT hr;have cR:r≠ []:=λe=>by rw[e] at o9;simp at o9;omega
   obtain ⟨r0,b0,e0,g0⟩:=aWd (key:=dY T r) m hT ht st iR (λy hy=>gT (s2 y hy)) (by omega) (by omega)
   have hs:iP st.length st.length=V ():=by unfold iP;rw[aF rfl]
   have last:∀(c':aN) (w:bp) (y1 y2:aw),dd c'->(w=r\/(w= []/\r0≠ []))->
     Ok (QA (GA (Li n0) m) m md ((d+1:Nat):Int) (dY T r) tb tl c' N y1 y2 out ⟨(t:Int),r0,w⟩ st r0) λr=>dd r.2.2/\(∃b',b'<=b+(d+1)/\Made md N b' rK r.2.1.ah r.1)/\r.1.length<=out.length+(d+1):=λc' w y1 y2 lW qA=>by
    have hM:=h.snoc hT iR hr cR g0 qA;have Ic:w.length<=100:=by
     rcases qA with rfl|⟨rfl,_⟩
     ·omega
     ·simp
    unfold QA;rw[dr _ _ (by simp;omega),ak]
    show Ok ((F51 m N ⟨st⟩ (t:Int) (dY T r) w).bind _) _;rw[aoM (n:=m) hT ht (by unfold dY;simp;omega) Ic iR (λy hy=>gT (s2 y hy)) (by omega) s3 (by omega),ak,hw]
    refine (aow hN n0 d m (b+1) c' _ _ _ _ (by omega) lW hM (by omega) (by simp;omega)).mono λr ⟨q1,⟨b',q2,q3⟩,q4⟩=>⟨q1,⟨b',by omega,q3⟩,by simp at q4;omega⟩
   unfold Qz;have e1:F52 m N (t:Int) r=V (dY T r):=NI (n:=m) vx ht r o9;simp only[e1,ak,e0,hs];by_cases hz:r0= []
   ·subst hz;simp only[DA];exact last c' r ⟨st⟩ ⟨[]⟩ lW (.inl rfl)
   ·have hz':((r0.length:Int)==0)=B:=by cases r0 with
     |nil=>exact absurd rfl hz
     |cons=>exact Ot (by simp;omega)
    rw[hz'];simp only[az,au];refine Ok.bind (tC m c' 3 lW) λwU yI=> ?_
    refine Ok.ite (λ_=>last _ r ⟨st⟩ ⟨[]⟩ yI (.inl rfl)) λ_=>last _ [] ⟨st⟩ ⟨[]⟩ yI (.inr ⟨rfl,hz⟩)
  rw[UF vx (by omega) (by omega:1000<m),ak,vx,ak]
  refine Ok.bind (aHC m md (by omega) dB.2 (ey T) T.aH ht.ks (by omega) c1) λr ⟨c2,hr⟩=> ?_
  have o9:=gT hr;simp only[fX lV,ak,cq,iR];by_cases hx:0<(rows.length:Int);rotate_left
  ·simp only[hx,aR,az,au];exact step _ _ _ _ _ _ c2 hr
  simp only[hx,aO,ax];refine Ok.bind (tC m r.2 2 c2) λHG c3=> ?_
  refine Ok.ite (λ_=> ?_) λ_=>step _ _ _ _ _ _ c3 hr
  refine Ok.bind (j7 m HG.2 _ c3) λx57 ⟨c4,d1,d2,_⟩=> ?_
  have d2:=d2 (by omega)
  obtain ⟨j,hj⟩:∃j:Nat,x57.1=(j:Int):=⟨x57.1.toNat,by omega⟩
  rw[hj] at d2 ⊢;have gy:j<rows.length:=by omega
  have hjr:=s2 _ (nZ gy);have hjc:=gT hjr;have e2:idx rows (j:Int)=V rows[j]:=by rw[bA];exact cX gy
  rw[e2,ak,NI (n:=m) vx ht rows[j] hjc,ak];have hkt:(rows[j].take T.aH.toNat).length=T.aH.toNat:=by rw[dE];omega
  rw[aJA (by omega) (λe=>by rw[e] at o9;simp at o9;omega),ak,hkt]
  exact step _ _ _ _ _ _ c4 (aQY _ hjr hr)
 |_,0,_,_,_,_,_,_,hm,_,_,_,_=>by omega
def aWi {n:Nat} {c:aN} {st:fC} (hN:pj N) (h:tz md N st) (hf:ZM st) (hc:dd c) (hn:10000<n) (k:Nat) (hk:k<=8):Ok (F33 n c N md ⟨st⟩ (k:Int)) λr=>dd r.2.2/\r.1.length<=k/\∃b,b<=8+k/\Made md N b st r.2.1.ah r.1:=by
 have hl8:=hN.len;have hl:=h.len;have e:F80 n ⟨st⟩=V ⟨st⟩:=aQh n st (by omega) (λrows hr=>by
  obtain ⟨t,ht⟩:=Ag hr;have vU:=(bK.1 ht).1;have hT:N.ah[t]? =V (N.ah[t]'(by omega)):=cX (by omega)
  obtain ⟨r1,r2⟩:=h.row t _ rows hT ht;have hk:=(hN.bY (t:Int) _ (by rw[bA];exact hT)).cols
  exact ⟨by omega,λr hr=>by have:=gT (r2 r hr);omega⟩) (by omega)
 unfold F33 auB;rw[e,ak,cT (by omega) (by omega)]
 refine Ok.bind (j7 n c _ hc) λdB ⟨c1,a1,a2,_⟩=> ?_
 have a2:=a2 (by omega)
 obtain ⟨d,hd⟩:∃d:Nat,dB.1=(d:Int):=⟨dB.1.toNat,by omega⟩
 rw[hd] at a2 ⊢;refine (aow hN n d n 8 dB.2 _ _ st [] (by omega) c1 (.nil (h.b8 hf)) (by omega) (by simp;omega)).mono λr ⟨q1,⟨b',q2,q3⟩,q4⟩=>⟨q1,by simp at q4;omega,b',by omega,q3⟩
end
end
section
def aBg:bC->bC
 | []=> []
 |f::r=>fin f (r.getLastD f)
def MA:∀(r:bC) (f:bB),(f::r).getLast? =V (r.getLastD f)
 | [],_=>rfl
 |a::r,f=>by rw[WI,MA r a,List.getLastD_cons]
structure wS (N:ae) (st nJ:fC) (out:bC):Prop where
 old:∀c∈out,wR N st c c.dS
 new:∀c∈out,wR N nJ c c.dP
 rest:aHu N st nJ out
section
variable {N:ae} {md:Int} {c d f l:bB} {st rK:fC} {r k:bp} {ch:bC} {b w:Nat} {T:ai} {rows:bn}
def anw {x:bC} (h:∀e∈x,same N f e):jb N c x=if same N c f then x else []:=by
 unfold jb;split
 ·rename_i g;exact D0.2 λe he=>rI (oD g (h e he))
 ·rename_i g;exact yg.2 λe he e1=>g (oD (rH e1) (qd (h e he)))
def aIY:jb N c (C++g7)=jb N c C++jb N c g7:=uQ ..
def Rr:jb N c (F::g7)=if same N c F then F::jb N c g7 else jb N c g7:=by
 unfold jb;rw[je];by_cases h:same N c F<;>simp[h]
def AG {x:bC}:d∈jb N c x↔d∈x/\same N c d:=by
 unfold jb;rw[mD,j2]
def aht:∀(r:bC) (f l:bB),gA md N f->gA md N l->same N f l->(∀y∈r,gA md N y)->(∀y∈r,jI N f y<=0)->KL N r->jb N c (zk N f l r)=if same N c f then fin f ((jb N c r).getLastD l) else aBg (jb N c r)
 | [],f,l,hf,hl,hs,_,_,_=>anw (λe he=>(Im hf hl hs he).2.2)
 |d::r,f,l,hf,hl,hs,hF,hw,hO=>by
  obtain ⟨o1,o2⟩:=lL.1 hO;have fd:=hF d (by simp)
  have fr:=λy hy=>hF y (dW d hy)
  have h1:=hw d (by simp)
  by_cases g:same N f d
  ·have e0:zk N f l (d::r)=zk N f d r:=by simp only[zk,g,ax]
   rw[e0,aht r f d hf fd g fr (λy hy=>hw y (dW _ hy)) o2,Rr]
   by_cases e:same N c f
   ·rw[aF e,aF e,aF (oD e g),List.getLastD_cons]
   ·rw[aC e,aC e,aC λe2=>e (oD e2 (qd g))]
  ·have e0:zk N f l (d::r)=fin f l++zk N d d r:=by simp only[zk,g,au]
   rw[e0,aIY,anw (f:=f) (λe he=>(Im hf hl hs he).2.2),aht r d d fd fd tJ fr o1 o2,Rr]
   by_cases e:same N c f
   ·have n1:¬same N c d:=λe2=>g (oD (qd e) e2)
    have n2:jb N c r= []:=yg.2 λy hy e2=>by
     have e2:same N c y:=rH e2;have h3:=o1 y hy;have h4:jI N y f=0:=oD (qd e2) e;have h5:=DP h3 (by omega:jI N y f<=0)
     rw[AT] at h5;have:jI N f d≠0:=g;omega
    rw[aF e,aF e,aC n1,aC n1,n2];exact rG _
   ·rw[aC e,aC e];by_cases e2:same N c d
    ·rw[aF e2,aF e2];rfl
    ·rw[aC e2,aC e2];rfl
def aJc {l:bC} (hF:∀y∈l,gA md N y) (hO:KL N l):jb N c (AH N l)=aBg (jb N c l):=by
 cases l with
 |nil=>rfl
 |cons d r=>
  obtain ⟨o1,o2⟩:=lL.1 hO;have fd:=hF d (by simp)
  show jb N c (zk N d d r)=_;rw[aht r d d fd fd tJ (λy hy=>hF y (dW _ hy)) o1 o2,Rr]
  by_cases e:same N c d
  ·rw[aF e,aF e];rfl
  ·rw[aC e,aC e]
def wR.to (h:wR N st c r) (hs:same N c d):wR N st d r:=by
 obtain ⟨w,T,rows,e1,e2,e3,e4⟩:=h;obtain ⟨s1,s2⟩:=jE.1 hs;exact ⟨w,T,rows,s1.symm.trans e1,e2,e3,by rw[<-s2];exact e4⟩
def wR.is (h:wR N st c r) (hw:c.av=(w:Int)) (hT:N.ah[w]? =V T) (hr:st[w]? =V rows) (hk:vS N c=k):jO T k rows r:=by
 obtain ⟨w',T',rows',e1,e2,e3,e4⟩:=h;obtain rfl:w'=w:=by omega
 rw[hT] at e2;cases e2;rw[hr] at e3;cases e3;rw[hk] at e4;exact e4
def Made.lead (h:Made md N b rK st ch):wS N rK st (AH N (pR N ch)):=by
 have hk:∀c,jb N c (AH N (pR N ch))=aBg (jb N c ch):=λc=>by
  rw[aJc (λy hy=>h.fit y (Me.1 hy)) (YO ch),afH]
 have pick:∀c∈AH N (pR N ch),wR N rK c c.dS/\wR N st c c.dP:=λc hc=>by
  have h1:c∈jb N c (AH N (pR N ch)):=AG.2 ⟨hc,tJ⟩;rw[hk] at h1;cases ho:jb N c ch with
  |nil=>rw[ho] at h1;cases h1
  |cons f r=>
   rw[ho] at h1;have hf:f∈jb N c ch:=by rw[ho];simp
   have hl:(jb N c ch).getLast? =V (r.getLastD f):=by rw[ho];exact MA r f
   have h2:c∈fin f (r.getLastD f):=h1;unfold fin at h2;split at h2
   ·cases h2
   ·have e:=gg.1 h2;have e1:c.dS=f.dS:=(bH bB.dS e).trans rfl;have e2:c.dP=(r.getLastD f).dP:=(bH bB.dP e).trans rfl;rw[e1,e2];exact ⟨(h.first c f (by rw[ho];rfl)).to (qd (AG.1 hf).2),(h.last c _ hl).to (qd (AG.1 (Om hl)).2)⟩
 refine ⟨λc hc=>(pick c hc).1,λc hc=>(pick c hc).2,λw T rows rows' k r hT g1 g2 hx hr=> ?_⟩
 by_cases hq:∃x∈ch,x.av=(w:Int)/\vS N x=k
 ·obtain ⟨x,x1,x2,x3⟩:=hq;have h1:=hk x;cases ho:jb N x ch with
  |nil=>
   have:x∈jb N x ch:=AG.2 ⟨x1,tJ⟩;rw[ho] at this;cases this
  |cons f q=>
   have hf:f∈jb N x ch:=by rw[ho];simp
   have hl:(jb N x ch).getLast? =V (q.getLastD f):=by rw[ho];exact MA q f
   rw[ho] at h1;have h2:jb N x (AH N (pR N ch))= []:=WZ.2 λe he=>by
    obtain ⟨e1,e2⟩:=AG.1 he;obtain ⟨s1,s2⟩:=jE.1 e2;exact hx e e1 (s1.symm.trans x2) (s2.symm.trans x3)
   rw[h2] at h1;have h1: []=fin f (q.getLastD f):=h1;have he:f.dS=(q.getLastD f).dP:=by
    unfold fin at h1;split at h1
    ·rename_i g;exact uY g
    ·cases h1
   have a1:=((h.first x f (by rw[ho];rfl)).to (qd (AG.1 hf).2)).is x2 hT g1 x3
   have a2:=((h.last x _ hl).to (qd (AG.1 (Om hl)).2)).is x2 hT g2 x3;rw[hr.one (h.ok0.row w T rows hT g1).2.2 a1,he];exact a2
 ·exact h.rest w T rows rows' k r hT g1 g2 (λx hx e1 e2=>hq ⟨x,hx,e1,e2⟩) hr
def aWg {n:Nat} (mK:uj md) (hN:pj N) (F4:Jh n N=V 0) (h:Made md N b rK st ch) (hl:ch.length<20) (hn:6000<n):∃net,F37 n N md ch=V (net,0)/\(∀e∈net,gA md N e/\e.dS≠e.dP)/\CK N net/\net.length<=ch.length/\wS N rK st net:=by
 obtain ⟨h1,h2,h3⟩:=aJb (l:=pR N ch) (λy hy=>h.fit y (Me.1 hy)) (YO ch)
 rw[FF] at h3;exact ⟨_,aWf mK hN F4 hl h.fit h.link hn,h1,h2,h3,h.lead⟩
end
end
section
def Cf.ne {md:Int} {N:ae} {b:Nat} {st:fC} {w:Nat} {T:ai} {rows:bn} (hN:pj N) (h:Cf md N b st) (hT:N.ah[w]? =V T) (hr:st[w]? =V rows):∀y∈rows,y≠ []:=λy hy e=>by
 have ht:=hN.bY (w:Int) T (by rw[bA];exact hT)
 have k1:=ht.pY;have k2:=ht.jG;have:=gT ((h.row w T rows hT hr).2.1 y hy);rw[e] at this;simp at this;omega
section
variable {u:ae} {ms:cH} {ts:gZ} {net:bC} {md:Int} {st nJ:fC} {q w:Nat} {T T':ai} {rows:bn} {r k:bp}
def jO.down (hs:gm u=0) (hm:∀m∈ms,MB m/\(m.bg=8->hI m.cA)) (hc:dQ u ms ts) (hT:u.ah[q]? =V T) (hw:fZ ms (q:Int)=(w:Int)) (gz:((u::ts).getLast (by simp)).ah[w]? =V T') (hr:∀r∈rows,gH md T'.aH 0 (ey T') r=M) (h:jO T' k rows r):
  jO T k (rows.map (si ms (q:Int) T.ag.length)) (jF ms (q:Int) T.ag.length r):=by
 have B0:=(SG.of hs).bY T (bU hT);have k1:=B0.pY;have k2:=B0.jG;have h0:0<T.ag.length:=by omega
 have key:∀y∈rows,dY T (si ms (q:Int) T.ag.length y)=dY T' y:=λy hy=>by
  obtain ⟨f1,f2,f3⟩:=Ay hm hs hc hT hw gz (hr y hy);unfold dY;rw[f3,f1]
 rcases h with ⟨h1,h2,h3⟩|⟨h1,h2⟩
 ·have e:jF ms (q:Int) T.ag.length r=si ms (q:Int) T.ag.length r:=by unfold jF;rw[aC h2]
  exact .inl ⟨by rw[e];exact dJ.2 ⟨r,h1,rfl⟩,λe=>h2 ((AI h0).1 e),by rw[e,key r h1];exact h3⟩
 ·refine .inr ⟨(AI h0).2 h1,λy hy=> ?_⟩
  obtain ⟨z,hz,rfl⟩:=dJ.1 hy;rw[key z hz];exact h2 z hz
def Nf (hT:u.ah[q]? =V T) (hw:fZ ms (q:Int)=(w:Int)) (hr:st[w]? =V rows):(p7 ms u st)[q]? =V (rows.map (si ms (q:Int) T.ag.length)):=by
 rw[B8 hT];unfold xJ;rw[aC (by omega),hw,show ((w:Int)).toNat=w by simp,hr];rfl
def awW {c d:bB} (hT:u.ah[q]? =V T) (hd:d∈net) (hw:d.av=fZ ms (q:Int)) (hc:Hd ms (q:Int) T.ag.length d=V c):c∈xF ms u net:=by
 unfold xF;refine wy.2 ⟨q,Oy.2 (bK.1 hT).1,?_⟩;rw[hT];exact On.2 ⟨d,mD.2 ⟨hd,rI hw⟩,hc⟩
def wS.down (hs:gm u=0) (hm:∀m∈ms,MB m/\(m.bg=8->hI m.cA)) (hc:dQ u ms ts) (hN:pj ((u::ts).getLast (by simp))) (h0:tz md ((u::ts).getLast (by simp)) st) (h1:tz md ((u::ts).getLast (by simp)) nJ) (hC:∀c∈net,gA md ((u::ts).getLast (by simp)) c) (h:wS ((u::ts).getLast (by simp)) st nJ net):
  wS u (p7 ms u st) (p7 ms u nJ) (xF ms u net):=by
 have one:∀{s:fC} {q:Nat} {T:ai} {d:bB} {r:bp},tz md ((u::ts).getLast (by simp)) s->u.ah[q]? =V T->d∈net->d.av=fZ ms (q:Int)->wR ((u::ts).getLast (by simp)) s d r->wR u (p7 ms u s) ⟨(q:Int),jF ms (q:Int) T.ag.length d.dS,jF ms (q:Int) T.ag.length d.dP⟩ (jF ms (q:Int) T.ag.length r):=λ{s q T d r} lV hT hd hw hr=>by
  obtain ⟨w,T',rows,e1,e2,e3,e4⟩:=hr;have qA:fZ ms (q:Int)=(w:Int):=by omega
  refine ⟨q,T,_,rfl,hT,Nf hT qA e3,?_⟩;rw[kL rfl hT,Pk hs hm hc hT qA e2 (hC d hd) e1,<-kL e1 e2];exact e4.down hs hm hc hT qA e2 (lV.row w T' rows e2 e3).2
 refine ⟨λc hc=> ?_,λc hc=> ?_,λq T rows rows' k r hT g1 g2 hx hr=> ?_⟩
 ·obtain ⟨q,T,d,hT,d1,d2,d3⟩:=Nh hc;obtain ⟨rfl,_⟩:=yJ d3;exact one h0 hT d1 d2 (h.old d d1)
 ·obtain ⟨q,T,d,hT,d1,d2,d3⟩:=Nh hc;obtain ⟨rfl,_⟩:=yJ d3;exact one h1 hT d1 d2 (h.new d d1)
 ·have f0:=Ng hs hm hc h0;have hO:=f0.ord q T rows hT g1;have l0:=h0.len;have l1:=h1.len;have triv:xJ ms st q T= []->xJ ms nJ q T= []->jO T k rows' r:=λe1 e2=>by
   rw[B8 hT,e1] at g1;rw[B8 hT,e2] at g2;cases g1;cases g2;exact hr
  by_cases hw:fZ ms (q:Int)<0
  ·exact triv (by unfold xJ;rw[aF hw]) (by unfold xJ;rw[aF hw])
  obtain ⟨w,yE⟩:∃w:Nat,fZ ms (q:Int)=(w:Int):=⟨(fZ ms (q:Int)).toNat,by omega⟩
  by_cases Ic:w<st.length;rotate_left
  ·have e:∀s:fC,s.length=st.length->xJ ms s q T= []:=λs hs=>by
    unfold xJ;rw[aC hw,yE,show ((w:Int)).toNat=w by simp,oW (by omega)];rfl
   exact triv (e st rfl) (e nJ (by omega))
  have hwl':w<((u::ts).getLast (by simp)).ah.length:=by rw[<-l0];exact Ic
  obtain ⟨T',gz⟩:∃T',((u::ts).getLast (by simp)).ah[w]? =V T':=⟨_,cX hwl'⟩
  obtain ⟨R,hR⟩:∃R,st[w]? =V R:=⟨_,cX Ic⟩;obtain ⟨R',hR'⟩:∃R',nJ[w]? =V R':=⟨_,cX (by omega)⟩
  rw[Nf hT yE hR] at g1;rw[Nf hT yE hR'] at g2;cases g1;cases g2;have dn:∀{y},jO T' k R y->jO T k _ (jF ms (q:Int) T.ag.length y):=λhy=>hy.down hs hm hc hT yE gz (h0.row w T' R gz hR).2
  have dn':∀{y},jO T' k R' y->jO T k _ (jF ms (q:Int) T.ag.length y):=λhy=>hy.down hs hm hc hT yE gz (h1.row w T' R' gz hR').2
  by_cases hq:∃x∈net,x.av=(w:Int)/\vS ((u::ts).getLast (by simp)) x=k
  ·obtain ⟨x,x1,x2,x3⟩:=hq;have a1:=dn ((h.old x x1).is x2 gz hR x3);have a2:=dn' ((h.new x x1).is x2 gz hR' x3);rw[hr.one hO a1];by_cases e:ee (jF ms (q:Int) T.ag.length x.dS) (jF ms (q:Int) T.ag.length x.dP)=0
   ·rw[uY e];exact a2
   ·refine absurd ?_ (hx ⟨(q:Int),jF ms (q:Int) T.ag.length x.dS,jF ms (q:Int) T.ag.length x.dP⟩ (awW hT x1 (x2.trans yE.symm) (by unfold Hd;rw[aC e])) rfl)
    rw[kL rfl hT,Pk hs hm hc hT yE gz (hC x x1) x2,<-kL x2 gz];exact x3
  ·obtain ⟨r0,xt⟩:=jO.ex (T:=T') k (h0.b.ne hN gz hR);rw[hr.one hO (dn xt)];exact dn' (h.rest w T' R R' k r0 gz hR hR' (λx hx e1 e2=>hq ⟨x,hx,e1,e2⟩) xt)
end
end
section
def ant {T:ai}:∀{a b:bn},Ord T a->Ord T b->(∀y,y∈a↔y∈b)->a=b
 | [],[],_,_,_=>rfl
 | [],y::_,_,_,h=>by have:=(h y).2 (by simp);cases this
 |x::_,[],_,_,h=>by have:=(h x).1 (by simp);cases this
 |x::a,y::b,ha,hb,h=>by
  obtain ⟨a1,a2⟩:=lL.1 ha;obtain ⟨b1,b2⟩:=lL.1 hb;have e:x=y:=by
   rcases da.1 ((h x).1 (by simp)) with e|h1
   ·exact e
   rcases da.1 ((h y).2 (by simp)) with e|h2
   ·exact e.symm
   exact absurd (lt_trans (a1 y h2) (b1 x h1)) (lt_irrefl _)
  subst e;rw[ant a2 b2 λz=>⟨λhz=>(da.1 ((h z).1 (by simp[hz]))).resolve_left λe=> ?_,λhz=>(da.1 ((h z).2 (by simp[hz]))).resolve_left λe=> ?_⟩]
  ·have:=a1 z hz;rw[e] at this;exact lt_irrefl _ this
  ·have:=b1 z hz;rw[e] at this;exact lt_irrefl _ this
section
variable {N:ae} {md:Int} {c:bB} {st nJ:fC} {out:bC} {b t:Nat} {T:ai} {rows:bn}
def wS.fin (hN:pj N) (h0:Cf md N b st) (h1:Cf md N b' nJ) (h:wS N st nJ []):st=nJ:=wu λq=>by
 have l0:=h0.len;have l1:=h1.len;by_cases hq:q<N.ah.length;rotate_left
 ·rw[oW (by omega),oW (by omega)]
 obtain ⟨T,hT⟩:∃T,N.ah[q]? =V T:=⟨_,cX hq⟩;obtain ⟨R,hR⟩:∃R,st[q]? =V R:=⟨_,cX (by omega)⟩
 obtain ⟨R',hR'⟩:∃R',nJ[q]? =V R':=⟨_,cX (by omega)⟩
 rw[hR,hR'];have n0:=h0.ne hN hT hR;have n1:=h1.ne hN hT hR';have to:∀{k r},jO T k R r->jO T k R' r:=λ{k r} hr=>h.rest q T R R' k r hT hR hR' (by simp) hr
 have mem:∀{X:bn} {k r},r≠ []->jO T k X r->r∈X:=λhn hr=>by
  rcases hr with hr|hr
  ·exact hr.1
  ·exact absurd hr.1 hn
 rw[ant (h0.row q T R hT hR).2.2 (h1.row q T R' hT hR').2.2 λy=>⟨λhy=>mem (n0 y hy) (to (.inl ⟨hy,n0 y hy,rfl⟩)),λhy=> ?_⟩]
 obtain ⟨r0,xt⟩:=jO.ex (T:=T) (dY T y) n0;have e:=(to xt).one (h1.row q T R' hT hR').2.2 (.inl ⟨hy,n1 y hy,rfl⟩);rw[e] at xt;exact mem (n1 y hy) xt
def Cf.put (h:Cf md N b st) (hC:gA md N c) (hw:c.av=(t:Int)) (hT:N.ah[t]? =V T) (hr:st[t]? =V rows):Cf md N (b+1) (st.set t (mo T (iV T c) (kb c.dP) rows)):=by
 have vU:=(bK.1 hr).1;obtain ⟨s1,s2,s3⟩:=h.row t T rows hT hr;obtain ⟨w,T',w1,w2,w3,w4,w5,w6⟩:=hC;obtain rfl:w=t:=by omega
 rw[hT] at w2;cases w2;refine ⟨by rw[kp];exact h.len,λq T' rows' gz jf=> ?_⟩
 by_cases hq:q=w
 ·subst hq;rw[hT] at gz;cases gz;rw[j3 vU] at jf;cases jf;have hl:=JQ (T:=T) (iV T c) (kb c.dP) rows;have ho:(kb c.dP).length<=1:=by unfold kb;split<;>simp
  refine ⟨by omega,λy hy=> ?_,Rl s3 ?_⟩
  ·rcases xP.1 hy with g|g
   ·exact s2 y g.1
   ·unfold kb at g;split at g
    ·cases g
    ·rename_i hn;rw[gg.1 g];exact w5 hn
  ·unfold kb;split
   ·exact .inl rfl
   ·rename_i hn;exact .inr ⟨_,rfl,(J0 hn w6).symm⟩
 ·rw[mE (qp hq)] at jf;obtain ⟨a1,a2⟩:=h.row q T' rows' gz jf;exact ⟨by omega,a2⟩
def wS.step (hN:pj N) (lV:Cf md N b st) (hC:gA md N c) (hO:CK N (c::out)) (h:wS N st nJ (c::out)) (hw:c.av=(t:Int)) (hT:N.ah[t]? =V T) (hr:st[t]? =V rows):
  wS N (st.set t (mo T (iV T c) (kb c.dP) rows)) nJ out:=by
 have vU:=(bK.1 hr).1;have hp:=lV.put hC hw hT hr;obtain ⟨s1,s2,s3⟩:=lV.row t T rows hT hr;obtain ⟨o1,o2⟩:=lL.1 hO;have hwr:c.dP≠ []->dY T c.dP=iV T c:=λe=>by
  obtain ⟨w,T',w1,w2,w3,w4,w5,w6⟩:=hC;obtain rfl:w=t:=by omega
  rw[hT] at w2;cases w2;exact (J0 e w6).symm
 have hk:vS N c=iV T c:=kL hw hT;have qC:∀x∈out,x.av=(t:Int)->vS N x≠iV T c:=λx hx e1 e2=>by
  have h1:=o1 x hx;have h2:jI N x c=0:=jE.2 ⟨e1.trans hw.symm,e2.trans hk.symm⟩;omega
 refine ⟨λx hx=> ?_,λx hx=>h.new x (dW _ hx),λq T' rq rq' k r gz g1 g2 hx jf=> ?_⟩
 ·obtain ⟨q,T',rq,e1,e2,e3,e4⟩:=h.old x (dW _ hx);by_cases hq:q=t
  ·subst hq;rw[hT] at e2;cases e2;rw[hr] at e3;cases e3;exact ⟨q,T,_,e1,hT,j3 vU,e4.other (qC x hx e1) hwr⟩
  ·exact ⟨q,T',rq,e1,e2,by rw[mE (qp hq)];exact e3,e4⟩
 ·by_cases hq:q=t
  ·subst hq;rw[hT] at gz;cases gz;have hOp:=(hp.row q T rq hT g1).2.2;rw[j3 vU] at g1;cases g1;by_cases e:k=iV T c
   ·rw[jf.one hOp (by rw[e];exact jO.put hwr)]
    exact (h.new c (by simp)).is hw hT g2 (hk.trans e.symm)
   ·obtain ⟨r0,xt⟩:=jO.ex (T:=T) (rows:=rows) k (lV.ne hN hT hr);rw[jf.one hOp (xt.other e hwr)];exact h.rest q T rows rq' k r0 hT hr g2 (λx hx1 e1 e2=>by
     rcases da.1 hx1 with rfl|hx1
     ·exact e (e2.symm.trans hk)
     ·exact hx x hx1 e1 e2) xt
  ·rw[mE (qp hq)] at g1;exact h.rest q T' rq rq' k r gz g1 g2 (λx hx1 e1 e2=>by
    rcases da.1 hx1 with rfl|hx1
    ·omega
    ·exact hx x hx1 e1 e2) jf
end
end
section
def half (h:o+E<=2000000):aV (Int.fdiv (IntKind.wrap .u64 (aV ((o:Int)+(E:Int)))) 2)=(((o+E) / 2:Nat):Int):=by
 rw[cT (x:=(o:Int)+(E:Int)) (by omega) (by omega),IntWalk.u64_in _ (by omega),Int.fdiv_eq_ediv_of_nonneg _ (by omega),cT (by omega) (by omega)]
 omega
structure Place (T:ai) (key:bp) (rows:bn) (p:Nat):Prop where
 le:p<=rows.length
 lo:∀k r,rows[k]? =V r->k<p->lt (dY T r) key
 hi:∀k r,rows[k]? =V r->p<=k->¬lt (dY T r) key
def Ord.get {T:ai} {rows:bn} (h:Ord T rows) {j:Nat} {a b:bp} (hi:rows[i]? =V a) (hj:rows[j]? =V b) (hij:i<j):lt (dY T a) (dY T b):=by
 obtain ⟨h1,rfl⟩:=bK.1 hi;obtain ⟨h2,rfl⟩:=bK.1 hj;exact WJ.1 h i j h1 h2 hij
def atK:A bp->Bool
 |some r=>ee (dY f8 r) Y==0
 |none=>B
def Zz {xs:List J} {k:Nat} (h:k<=xs.length):Hb xs (k:Int) (k:Int)=V (xs.take k):=by
 unfold Hb;rw[aF ⟨rfl,by omega,by omega⟩];rfl
def RW {xs:List J} {k:Nat} (h:k<=xs.length):cut xs (V (k:Int)) none=V (xs.drop k):=by
 unfold cut;simp only[Af,Hx,Ol,Hz];rw[aF ⟨by omega,by omega,h,by omega⟩,nF]
section
variable {s:ae} {t n:Nat} {T:ai} {c:bB} {key:bp} {rows:bn} {md:Int}
def api (hT:idx s.ah (t:Int)=V T) (ht:jT T) (hc:c.av=(t:Int)) (row key:bp) (hr:row.length=T.ag.length) (hn:1000<n):ajy n row key s c=V (ee (dY T row) key,s,c):=by
 have h8:=ht.cols;unfold ajy akY;rw[hc,Ft hT ht row hr,ak,Jf n _ key (by simp;omega) (by simp;omega)]
 rfl
def ZK (n0:Nat) (hT:idx s.ah (t:Int)=V T) (ht:jT T) (hc:c.av=(t:Int)) (key:bp) (hl:rows.length<=1000000) (hr:∀r∈rows,r.length=T.ag.length) (hO:Ord T rows):
  ∀(d i j m:Nat),j-i<=d->d+1000<m->i<=j->j<=rows.length->(∀k r,rows[k]? =V r->k<i->lt (dY T r) key)->(∀k r,rows[k]? =V r->j<=k->¬lt (dY T r) key)->
   ∃p,Place T key rows p/\I7 (N8 n0) m rows key (rows.length:Int) (i:Int) (j:Int) s c=N8 n0 rows key (rows.length:Int) (p:Int) s c
 |d,i,j,0,_,hm,_,_,_,_=>by omega
 |d,i,j,m+1,hd,hm,hij,hj,hlo,hhi=>by
  by_cases h:i<j
  ·have hq:(i:Int)<(j:Int):=by omega
   have hh:(i+j) / 2<rows.length:=by omega
   have hg:rows[(i+j) / 2]? =V rows[(i+j) / 2]:=cX hh;have o9:=hr _ (nZ hh);simp only[I7,Wq,hq,aO,ax,half i j (by omega),bA,hg,ak,api hT ht hc _ key o9 (by omega:1000<m)]
   by_cases lW:ee (dY T rows[(i+j) / 2]) key<0
   ·have e:aV ((((i+j) / 2:Nat):Int)+1)=(((i+j) / 2+1:Nat):Int):=by rw[cT (by omega) (by omega)];omega
    simp only[lW,aO,ax,e];refine ZK n0 hT ht hc key hl hr hO (d-1) ((i+j) / 2+1) j m (by omega) (by omega) (by omega) hj (λk r hk dz=> ?_) hhi
    by_cases jv:k=(i+j) / 2
    ·subst jv;rw[hg] at hk;cases hk;exact s9.1 lW
    ·exact lt_trans (hO.get hk hg (by omega)) (s9.1 lW)
   ·simp only[lW,aR,az,au];refine ZK n0 hT ht hc key hl hr hO (d-1) i ((i+j) / 2) m (by omega) (by omega) (by omega) (by omega) hlo (λk r hk hle=> ?_)
    by_cases jv:k=(i+j) / 2
    ·subst jv;rw[hg] at hk;cases hk;exact λh=>lW (s9.2 h)
    ·exact λh=>lW (s9.2 (lt_trans (hO.get hg hk (by omega)) h))
  ·have e:i=j:=by omega
   subst e;have hq:¬((i:Int)<(i:Int)):=by omega
   refine ⟨i,⟨hj,hlo,hhi⟩,?_⟩;simp only[I7,Wq,hq,aR,az,au]
def aKq (hT:idx s.ah (t:Int)=V T) (ht:jT T) (hc:c.av=(t:Int)) (key:bp) (hl:rows.length<=100000) (hr:∀r∈rows,r.length=T.ag.length) (hO:Ord T rows) (hn:200000<n):
  ∃p,Place T key rows p/\atw n rows key s c=V ((p:Int),atK T key rows[p]?,s,c):=by
 obtain ⟨p,h1,h2⟩:=ZK n hT ht hc key (by omega) hr hO rows.length 0 rows.length n (by omega) (by omega) (by omega) (cS _) (λk r _ h=>by omega) (λk r hk h=>by
  have:=(bK.1 hk).1;omega)
 refine ⟨p,h1,?_⟩;unfold atw akZ;rw[show (0:Int)=((0:Nat):Int) from rfl,h2];unfold N8;by_cases h:p<rows.length
 ·have hq:(p:Int)<(rows.length:Int):=by omega
  have hg:rows[p]? =V rows[p]:=cX h;have o9:=hr _ (nZ h);simp only[hq,aO,ax,bA,hg,ak,api hT ht hc _ key o9 (by omega:1000<n),atK]
 ·have hq:¬(p:Int)<(rows.length:Int):=by omega
  have hg:rows[p]? =none:=oW (by omega)
  simp only[hq,aR,az,au,hg,atK]
def ajK (hl:W.length+aa.length<=1000000):UQ n W aa=V (W++aa,M):=by
 unfold UQ;rw[Zz (cS _),nF,ak];cases aa with
 |nil=>simp
 |cons y aa=>rw[dr _ _ hl];rfl
def ajJ (hl:W.length+aa.length<=999999) (hn:c.dP.length<=1000):UP n W aa c=V (W++kb c.dP++aa,M):=by
 unfold UP kb;rw[Ph];cases hc:c.dP with
 |nil=>simp only[Oo,dh,az,au,ax,rG];exact ajK W aa (by omega)
 |cons y l=>
  rw[hc] at hn;simp only[List.isEmpty_cons,gB,ax,UE n (y::l) hn,ak,aC (List.cons_ne_nil _ _)];rw[dr _ _ (by simp;omega),ak]
  exact ajK _ aa (by simp;omega)
def aQi (hN:pj s) (hC:gA md s c) (hT:s.ah[t]? =V T) (hc:c.av=(t:Int)) (hl:rows.length<=100000) (hr:∀r∈rows,r.length=T.ag.length) (hO:Ord T rows) (h:jO T (iV T c) rows c.dS) (hn:200000<n):F79 n s rows c=V (mo T (iV T c) (kb c.dP) rows,M):=by
 have vx:idx s.ah (t:Int)=V T:=by rw[bA];exact hT
 have ht:=hN.bY (t:Int) T vx;have h8:=ht.cols;obtain ⟨_,Ab⟩:=hC.lens hN;obtain ⟨p,hp,hf⟩:=aKq (n:=n) vx ht hc (iV T c) hl hr hO hn;have hA:∀r∈rows.take p,lt (dY T r) (iV T c):=λr jf=>by
  obtain ⟨k,hk,rfl⟩:=List.mem_iff_getElem.1 jf;rw[dE] at hk;exact hp.lo k _ (by rw[List.getElem_take];exact cX _) (by omega)
 have hB:∀k r,rows[k]? =V r->p<=k->dY T r≠iV T c->lt (iV T c) (dY T r):=λk r hk hle cR=>by
  rcases H6 (dY T r) (iV T c) with h|h|h
  ·exact absurd h (hp.hi k r hk hle)
  ·exact absurd h cR
  ·exact h
 have yG:=hp.le;unfold F79 atY;rw[K3 hN hc hT hC,ak,hf,ak];simp only[Ph];rcases h with ⟨h2,h1,ek⟩|⟨h1,h3⟩
 ·have eo:c.dS.isEmpty=B:=by simpa using h1
  obtain ⟨k,hk⟩:=Ag h2;have hkp:p<=k:=by
   by_cases hh:p<=k
   ·exact hh
   ·exact absurd (hp.lo k _ hk (by omega)) (by rw[ek];exact lt_irrefl _)
  have hkl:=(bK.1 hk).1;have hpk:p=k:=by
   by_cases hh:p=k
   ·exact hh
   ·exact absurd (hO.get (cX (by omega)) hk (by omega:p<k)) (by rw[ek];exact hp.hi p _ (cX (by omega)) (cS _))
  subst hpk;have e:atK T (iV T c) (V c.dS)=M:=by simp only[atK,ek,tK,gQ]
  have hol:=hr _ h2;simp only[e,eo,gB,gQ,dh,az,au,ax,bA,hk,ak,Je n c.dS c.dS (by omega) (by omega),tK]
  unfold UO;have hw:aV ((p:Int)+1)=((p+1:Nat):Int):=by rw[cT (by omega) (by omega)];omega
  rw[Zz yG,ak,RW yG,ak,aF rfl,hw,RW (by omega),ak,ajJ _ _ (by simp;omega) (by omega)]
  have hs:rows=rows.take p++c.dS::rows.drop (p+1):=by
   obtain ⟨h3,h4⟩:=bK.1 hk;rw[<-h4,<-uL h3,yh]
  conv=>rhs;rw[hs]
  rw[awn hA ek (λr jf=>by
   obtain ⟨k,jv⟩:=Ag jf;rw[fh] at jv;rw[<-ek];exact hO.get hk jv (by omega))]
 ·have e:atK T (iV T c) rows[p]? =B:=by
   cases hg:rows[p]? with
   |none=>rfl
   |some r=>
    simp only[atK,WO];exact λhe=>h3 r (bU hg) (uY he)
  simp only[e,h1,Oo,dh,gQ,az,au];unfold UO;rw[Zz yG,ak,RW yG,ak,aC (by simp),ajJ _ _ (by simp;omega) (by omega)]
  rw[<-aAY (k:=iV T c) (N:=kb c.dP) hA (g6:=rows.drop p) (λr jf=>by
   obtain ⟨k,hk⟩:=Ag jf;rw[fh] at hk;exact hB (p+k) r hk (by omega) (h3 r (bU hk))),yh]
end
end
section
def Z9:∀{ts:fC} {t:Nat} {rows rows':bn},ts[t]? =V rows->total (ts.set t rows')+rows.length=total ts+rows'.length
 | [],_,_,_,h=>by simp at h
 |y::ts,0,rows,rows',h=>by
  simp at h;subst h;simp only[List.set_cons_zero,total];omega
 |y::ts,t+1,rows,rows',h=>by
  have:=Z9 (rows':=rows') (show ts[t]? =V rows by simpa using h)
  simp only[List.set_cons_succ,total];omega
def aQk (hl:H.length+total H<=2000000) (hn:H.length<o):F65 o ⟨H⟩=V ((total H:Nat):Int):=by
 have h:=aiv (UX o) H hl H 0 o 0 rfl hn (by omega)
 unfold F65 acI;simp only[show ((0:Nat):Int)=0 from rfl,cq] at h;rw[h];rfl
section
variable {N:ae} {md:Int} {st nJ:fC} {cs:bC} {n:Nat}
def aoz {R:A (aw×Int)} (k:Int->bC->fC->Int->Int->ae->aw->aw->fC->A (aw×Int)) (ts:fC) (a b:Int) (tt:Nat) (g6:fC) (rows:bn) (hl:rows.length<=1000) (hr:∀r∈rows,r.length<=1000) (hk:k md cs ts a b N ⟨[]⟩ ⟨g6⟩ g6=R):∀(x:bn) (i m:Nat) (z1 z2:aw) (bb:fC),rows.drop i=x->i<=rows.length->x.length<m->bb[tt]? =V (rows.take i)->bb.set tt rows=g6->
  P9 k m md cs (tt:Int) ts a b rows (rows.length:Int) (i:Int) N z1 z2 bb=R
 | [],i,m+1,z1,z2,bb,hd,qD,hm,hb,hB=>by
  obtain ⟨hi,hq⟩:=eI hd
  simp only[P9,adq,hq,aR,az,au];rw[iT hi] at hb;obtain ⟨q1,q2⟩:=bK.1 hb;have:bb=g6:=by rw[<-hB,<-q2];exact (Hr q1).symm
  rw[this];exact hk
 |r::x,i,m+1,z1,z2,bb,hd,qD,hm,hb,hB=>by
  obtain ⟨g1,g2,g3,hq⟩:=dO hd
  have rW:=(bK.1 hb).1;simp at hm;simp only[P9,adq,hq,aO,ax,bA,g1,ak,fX rW,cq,hb,UE m r (hr r (bU g1))];rw[dr _ _ (by simp;omega),ak,dC _ rW,ak,bV g3 (by omega:rows.length<4294967296)]
  refine aoz k ts a b tt g6 rows hl hr hk x (i+1) m _ _ _ g2 (by omega) (by omega) ?_ ?_
  ·rw[j3 rW,qk,g1];simp
  ·rw[uM];exact hB
 |_,_,0,_,_,_,_,_,hm,_,_=>by omega
def aoy (n0:Nat) (ts:fC) (dz:ts.length<=1000) (hl:∀rows∈ts,rows.length<=1000/\∀r∈rows,r.length<=1000):∀(j i m:Nat) (z1 z2:aw) (bb:fC),i+j=ts.length->j+2000<m->bb.length=ts.length->(∀q,q<i->bb[q]? =ts[q]?)->(∀q,i<=q->q<bb.length->bb[q]? =V [])->
  KY (QB n0) m md cs ts (ts.length:Int) (i:Int) N z1 z2 bb=QB n0 md cs N ⟨[]⟩ ⟨ts⟩ ts
 |0,i,m+1,z1,z2,bb,hi,hm,hb,h1,h2=>by
  have hq:¬((i:Int)<(ts.length:Int)):=by omega
  simp only[KY,ado,hq,aR,az,au];have:bb=ts:=wu λq=>by
   by_cases hq:q<i
   ·exact h1 q hq
   ·rw[oW (by omega),oW (by omega)]
  rw[this]
 |j+1,i,m+1,z1,z2,bb,hi,hm,hb,h1,h2=>by
  have hq:(i:Int)<(ts.length:Int):=by omega
  have rV:i<ts.length:=by omega
  have hg:ts[i]? =V ts[i]:=cX rV;obtain ⟨r1,r2⟩:=hl ts[i] (nZ rV);simp only[KY,ado,hq,aO,ax,bA,hg,ak];refine aoz (adp (KY (QB n0) m) m) ts (ts.length:Int) (i:Int) i (bb.set i ts[i]) ts[i] r1 r2 ?_ ts[i] 0 m _ _ bb rfl (by omega) (by omega) (by simpa using h2 i (cS _) (by omega)) rfl
  unfold adp;rw[bV rV (by omega:ts.length<4294967296)]
  refine aoy n0 ts dz hl j (i+1) m _ _ _ (by omega) (by omega) (by rw[kp];exact hb) (λq hq=> ?_) λq hq hqb=> ?_
  ·by_cases he:q=i
   ·rw[he,j3 (by omega),hg]
   ·rw[mE (qp he)];exact h1 q (by omega)
  ·rw[kp] at hqb;rw[mE (by omega)]
   exact h2 q (by omega) hqb
 |_,_,0,_,_,_,_,hm,_,_,_=>by omega
def aox (mK:uj md) (hN:pj N) (n0 b':Nat) (fg:cs.length<=1000) (hC:∀c∈cs,gA md N c) (h1:Cf md N b' nJ):∀(x:bC) (i m b:Nat) (st:fC) (z1 z2:aw),cs.drop i=x->x.length+300000<m->Cf md N b st->b+x.length<=1000->CK N x->wS N st nJ x->total st+x.length<=512->
  P8 (adm n0) m md ((total st:Nat):Int) cs (cs.length:Int) (i:Int) N z1 z2 st=V (⟨nJ⟩,0)
 | [],i,m+1,b,st,z1,z2,hd,hm,hb,rW,hO,h,aqZ=>by
  have BV:cs.length<=i:=by simpa using hd
  have hq:¬((i:Int)<(cs.length:Int)):=by omega
  simp only[P8,adn,adm,hq,aR,az,au];rw[h.fin hN hb h1]
 |c::x,i,m+1,b,st,z1,z2,hd,hm,hb,rW,hO,h,aqZ=>by
  obtain ⟨g1,g2,g3,hq⟩:=dO hd
  have fc:=hC c (bU g1);obtain ⟨t,T,rows,e1,e2,e3,e4⟩:=h.old c (by simp)
  rw[kL e1 e2] at e4;obtain ⟨r1,r2,r3⟩:=hb.row t T rows e2 e3;have vU:=(bK.1 e3).1;have hput:=hb.put fc e1 e2 e3;have TV:=h.step hN hb fc hO e1 e2 e3;have mm:=Z9 (rows':=mo T (iV T c) (kb c.dP) rows) e3;have yG:=JQ (T:=T) (iV T c) (kb c.dP) rows;have hol:(kb c.dP).length<=1:=by unfold kb;split<;>simp
  simp at hm aqZ rW;have ew:aV (((total st:Nat):Int)+aV (((mo T (iV T c) (kb c.dP) rows).length:Int)-(rows.length:Int)))=((total (st.set t (mo T (iV T c) (kb c.dP) rows)):Nat):Int):=by
   rw[cT (x:=((mo T (iV T c) (kb c.dP) rows).length:Int)-(rows.length:Int)) (by omega) (by omega),cT (by omega) (by omega)]
   omega
  have e5:¬(512:Int)<((total (st.set t (mo T (iV T c) (kb c.dP) rows)):Nat):Int):=by omega
  simp only[P8,adn,hq,aO,ax,bA,g1,ak,azM (n:=m) mK hN fc (by omega),dh,az,au,e1,fX vU,cq,e3,
   aQi (n:=m) hN fc e2 e1 (by omega) (λy hy=>gT (r2 y hy)) r3 e4 (by omega),ew,e5,aR,dC _ vU,bV g3 (by omega:cs.length<4294967296)]
  exact aox mK hN n0 b' fg hC h1 x (i+1) m (b+1) _ _ _ g2 (by omega) hput (by omega) (lL.1 hO).2 TV (by omega)
 |_,_,0,_,_,_,_,_,hm,_,_,_,_,_=>by omega
def aWj (mK:uj md) (hN:pj N) (F4:Jh n N=V 0) (h0:tz md N st) (h1:tz md N nJ) (hC:∀c∈cs,gA md N c) (hO:CK N cs) (hl:cs.length<=20) (h:wS N st nJ cs) (hn:2000100<=n):F32 n N md ⟨st⟩ cs=V (⟨nJ⟩,0):=by
 have hl8:=hN.len;have hlen:=h0.len;have aqZ:=h0.tot;have RI:rh (st.length:Int) ([]:bn)=V (List.replicate st.length []):=by
  unfold rh;rw[aF ⟨by omega,by omega⟩];rfl
 have h26:=aHD mK n N 0 F4 (λ_=>hN) ⟨st⟩ (by show st.length+total st<=2000000;omega) hn
 rw[StM.kC h0.m (by omega)] at h26
 unfold F32 auC;rw[h26,ak];simp only[jJ,az,au];rw[RI,ak];rw[show (0:Int)=((0:Nat):Int) from rfl,aoy n st (by omega) (λrows hr=>by
  obtain ⟨t,ht⟩:=Ag hr;have vU:=(bK.1 ht).1;have hT:N.ah[t]? =V (N.ah[t]'(by omega)):=cX (by omega)
  obtain ⟨r1,r2⟩:=h0.row t _ rows hT ht;have hk:=(hN.bY (t:Int) _ (by rw[bA];exact hT)).cols
  exact ⟨by omega,λr hr=>by have:=gT (r2 r hr);omega⟩) st.length 0 n _ _ _ (by omega) (by omega) (by simp) (λq h=>by omega) λq _ hq=>by
   rw[uN] at hq;simp[hq]]
 unfold QB;rw[aQk n st (by omega) (by omega),ak]
 exact aox mK hN n 24 (by omega) hC h1.b cs 0 n 24 st _ _ rfl (by omega) h0.b (by omega) hO h (by omega)
end
end
section
section
variable {n:Nat} {s v:ae} {ms:cH} {ts:gZ} {k:Nat} {st nJ:fC} {net:bC} {md:Int}
def aDt (mK:uj md) (hn:3000000<n) (fP:n<4294967296) (hs:gm s=0) (hm:∀m∈ms,MB m/\(m.bg=8->hI m.cA)) (hc:dQ s ms ts) (hk:k<=ts.length) (FZ:(s::ts)[k]? =V v) (EE:gm ((s::ts).getLast (by simp))=0) (lV:tz md ((s::ts).getLast (by simp)) st) (aBV:tz md ((s::ts).getLast (by simp)) nJ) (hC:∀c∈net,gA md ((s::ts).getLast (by simp)) c) (hO:CK ((s::ts).getLast (by simp)) net) (Ab:net.length<=5) (hL:wS ((s::ts).getLast (by simp)) st nJ net):
  F32 n v md ⟨p7 (ms.drop k) v st⟩ (xF (ms.drop k) v net)=V (⟨p7 (ms.drop k) v nJ⟩,0)/\F23 n ⟨p7 (ms.drop k) v nJ⟩ ⟨p7 (ms.drop k) v nJ⟩=V M:=by
 obtain ⟨u',e1,e2,e3,e4,e5⟩:=dQ.drop hs hc hk;rw[FZ] at e1;have e1:=lp e1;rw[<-e1] at e2 e3 e4;have e5:(v::ts.drop k).getLast (by simp)=(s::ts).getLast (by simp):=by
  rw[<-e5];congr 1;rw[e1]
 have hm2:∀q∈ms.drop k,MB q/\(q.bg=8->hI q.cA):=λq hq=>hm q (oG hq)
 have G5:∀c∈net,0<=c.av:=λc hc=>by
  obtain ⟨w,_,hw,_⟩:=hC c hc;omega
 have sD:=aav (ms:=ms.drop k) (u:=v) G5;rw[<-e5] at lV aBV hC hO hL EE;have f1:=Ng e4 hm2 e3 aBV;exact ⟨aWj mK (vI e4) (aji e4 (by omega) fP) (Ng e4 hm2 e3 lV) f1 (λc hc=>(ayN e4 hm2 e3 hC c hc).1) (ayM e4 hm2 e3 hC hO) (by omega) (hL.down e4 hm2 e3 (vI EE) lV aBV hC) (by omega),f1.same (vI e4) (by omega)⟩
end
def law11 (hbg:F17 o=V M) (hn:4000000<o) (fP:o<4294967296) (qU:aP) (hb:∀x∈qU,0<=x/\x<=255):F11 o qU=V M:=by
 obtain ⟨c,e1,hc⟩:=aQy o qU 400 hb (by omega) (by omega)
 obtain ⟨x5,e2,h1,h2,h3,h4,ts,k,tp,ea,ek,hk⟩:=aQz o (by omega) fP c hc
 have hG:=SG.of h2.kC;have ED:x5.1.aA<=2:=by
  obtain ⟨v,id,k,r1,r2,r3,ch,hp,e⟩:=h2;rw[e];exact hp.v1
 have hlen:=tp.len;have EE:gm ((x5.1::ts).getLast (by simp))=0:=by
  rcases da.1 (Oq (l:=x5.1::ts) (by simp)) with h|h
  ·rw[h];exact h2.kC
  ·exact tp.kC _ h
 have hSN:=vI EE;have hL:(x5.1::ts).length=ts.length+1:=rfl;have De:(x5.1::ts)[ts.length]? =V ((x5.1::ts).getLast (by simp)):=by
  rw[List.getLast_eq_getElem];exact cX (by simp)
 obtain ⟨v,hv,_⟩:=dQ.drop h2.kC tp hk;have hver:=tp.ver k v hv;have w:aV (((x5.1::ts).length:Int)-1)=((ts.length:Nat):Int):=by rw[cT (by rw[hL];omega) (by rw[hL];omega),hL];omega
 unfold F11 auM;rw[e1,ak,e2,ak,ea,ek,w,fX (by rw[hL];omega),ak,cq,De,ak]
 obtain ⟨lY,e3,g1,g2,g3,_⟩:=j7 o x5.2.2.2.2 3 h1;have g3:=g3 (by omega)
 have mK:uj (aV (1+lY.1)):=by
  rw[cT (by omega) (by omega)];unfold uj;omega
 rw[e3,ak];generalize aV (1+lY.1)=md at mK ⊢;obtain ⟨⟨⟨st⟩,z3⟩,e4,z1,z2,z4⟩:=aWk md o (by omega) _ hSN lY.2 g1
 have z1:dd z3:=z1;have z2:tz md ((x5.1::ts).getLast (by simp)) st:=z2
 have z4:ZM st:=z4;obtain ⟨⟨ch,⟨af⟩,y3⟩,e5,y1,y4,b,yb,yM⟩:=aWi (n:=o) (c:=z3) hSN z2 z4 z1 (by omega) 5 (by omega)
 have e5:F33 o z3 ((x5.1::ts).getLast (by simp)) md ⟨st⟩ 5=V (ch,⟨af⟩,y3):=e5
 have y4:ch.length<=5:=y4;have yM:Made md ((x5.1::ts).getLast (by simp)) b st af ch:=yM
 obtain ⟨net,e6,n1,n2,n3,nL⟩:=aWg (n:=o) mK hSN (aji EE (by omega) fP) yM (by omega) (by omega)
 have haf:=yM.ok.g (by omega)
 have h21:=aHE (n:=o) mK (by omega) fP h2.kC h3.mem (by omega) (by omega) tp hk hv z2
 have h22:=aHE (n:=o) mK (by omega) fP h2.kC h3.mem (by omega) (by omega) tp hk hv haf
 have h34:=aWh (n:=o) (by omega) fP h2.kC h3.mem (by omega) (by omega) tp hk hv e6 (λc hc=>(n1 c hc).1) (by omega)
 obtain ⟨h32,h23⟩:=aDt (n:=o) mK (by omega) fP h2.kC h3.mem tp hk hv EE z2 haf (λc hc=>(n1 c hc).1) n2 (by omega) nL
 rw[<-hver] at h21 h22 h34;have hbk:eh (x5.1::ts).length (k:Int)=V k:=fX (by rw[hL];omega)
 simp only[e4,e5,ak,hbk,cq,hv,h21,h22,h34,h32,gQ,ax,h23,hbg]
end
def aBw {k:IntKind} {n:Int} (h:T5 (.int k n)):k.min<=n/\n<=k.max:=by
 simpa[T5,Lit.wf] using h
def M7:∀{rows:List (List AV)},ES rows->∀r∈rows,zm r
 | [],_,_,h=>by simp at h
 |r::rs,h,x,hx=>by
  rcases da.1 hx with rfl|hx
  ·exact h.1
  ·exact M7 h.2 x hx
def asa (h:T5 (.sy 5 1 qU.length (Bd qU))):∀x∈qU,0<=x/\x<=255:=by
 intro x hx;have h1:=M7 (show ES (Bd qU) from h) (ahJ x) (dJ.2 ⟨x,hx,rfl⟩);have h2:=aBw (show T5 (.int .u8 x) from h1.1);simpa[IntKind.min,IntKind.max,IntKind.signed,IntKind.bits] using h2
def aIO (y0:aP) (h0:zm [.sy 5 1 y0.length (Bd y0)]) (hb:nX [.sy 5 1 y0.length (Bd y0)]<=1048576):∃n,F11 n y0=V M:=⟨5000000,law11 5000000 (by kernel_rfl) (by omega) (by omega) y0 (asa h0.1)⟩
end Go.Proofs.YtbnkhmoelnfjoaaGreat
end
