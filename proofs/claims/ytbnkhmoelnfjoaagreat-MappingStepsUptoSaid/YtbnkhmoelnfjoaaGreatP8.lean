/- Part. -/
import Derived.Test.YtbnkhmoelnfjoaaGreatP7
import Derived.Test.YtbnkhmoelnfjoaaGreatP6
set_option linter.all false
set_option maxRecDepth 100000
open Option renaming some->V
open Bool renaming true->M,false->I
open Decidable renaming decide->iL
open List renaming range->aa1
open List.Pairwise renaming nil->ac8
noncomputable section
namespace Go.Proofs.YtbnkhmoelnfjoaaGreat
open Go.bM
variable (o:Nat) (C:ae) (D:bX) (A:bu) (E F:cr) (f9:iM) (H:Nat) (f7:Int) (ge:ai) (O:ae) (W Y:bt) (aa:Nat) (X:cr) (ab:iM) (ac:bu) (ad:bt)
variable {J:Type} {q i:Nat} {xs:bt} {ks qy:aP}
section
def Ok.and {x:Z J} {P Q:J->Prop} (h1:Ok x P) (h2:Ok x Q):Ok x λv=>P v/\Q v:=by
 obtain ⟨v,e,p⟩:=h1;obtain ⟨v',e',q⟩:=h2;rw[e] at e';cases e';exact ⟨v,e,p,q⟩
def Kd (B0 k0:Int) (i:Nat) (p:dL):Prop:=arR C (eu D f7) B0 k0 (i:Int) p/\ahq (eu D f7) (lV D f7 (i:Int)) p
section
variable {s:ae} {ms:bX} {ts:fU} {a:Nat} {T:ai}
def ayH (n0:Nat) (hl:ms.length<=8) (gS:∀m∈ms,MB m/\(m.bf=8->gF m.ck)) (hs:fL s=0) (hc:dA s ms ts) (hT:s.ah[a]? =V T) (r:fU):∀(j i k:Nat) (acc:kJ),i+j=T.ag.length->j+7000<k->k<4294967296->acc.length=i->(∀(q:Nat) p,acc[q]? =V p->∃k0,Kd ((s::ts).getLast (by simp)) ms (a:Int) T.aH k0 q p)->
  Ok (IG (VL n0) k (a:Int) (T.ag.length:Int) (i:Int) ⟨r,ms⟩ acc) λps=>ps.length=T.ag.length/\∀(q:Nat) p,ps[q]? =V p->∃k0,Kd ((s::ts).getLast (by simp)) ms (a:Int) T.aH k0 q p
 |0,i,k+1,acc,hi,hk,jO,uY,hw=>by
  have hq:¬((i:Int)<(T.ag.length:Int)):=by omega
  simp only[IG,VM,hq,aR,ax,au,VL];exact Ok.pure ⟨by omega,hw⟩
 |j+1,i,k+1,acc,hi,hk,jO,uY,hw=>by
  have eY:=((SG.of hs).bY T (bQ hT)).cols;have hq:(i:Int)<(T.ag.length:Int):=by omega
  have rA:i<T.ag.length:=by omega
  have hx:T.ag[i]? =V T.ag[i]:=cZ rA;simp only[IG,VM,hq,aO,aw];refine Ok.bind ((aUn k (by omega) (by omega) s ms ts hl gS hs hc hT (AtK.FG hx)).and (aGi k (by omega) (by omega) s ms ts hl gS hs hc hT (.inr ⟨i,_,rfl,hx⟩))) λp hp=> ?_
  rw[dx _ _ (by simp;omega),ak,bT (L:=T.ag.length) (by omega) (by omega)]
  refine ayH n0 hl gS hs hc hT r j (i+1) k (acc++ [p]) (by omega) (by omega) (by omega) (by simp;omega) λq y Cn=> ?_
  by_cases he:q<acc.length
  ·rw[pd he] at Cn;exact hw q y Cn
  ·have hqi:q=i:=by
    have:=(bO.1 Cn).1;simp at this;omega
   subst hqi;rw[nF (by omega),uY,qX] at Cn
   simp at Cn;subst Cn;exact ⟨_,hp⟩
 |_,_,0,_,_,hk,_,_,_=>by omega
def aGj (hn:8000<o) (fw:o<4294967296) (hl:ms.length<=8) (gS:∀m∈ms,MB m/\(m.bf=8->gF m.ck)) (hs:fL s=0) (hc:dA s ms ts) (hT:s.ah[a]? =V T) (r:fU):
  Ok (F57 o ⟨s::r,ms⟩ (a:Int)) λq=>q.1=eu ms (a:Int)/\q.2.length=T.ag.length/\∀(i:Nat) p,q.2[i]? =V p->∃k0,Kd ((s::ts).getLast (by simp)) ms (a:Int) T.aH k0 i p:=by
 have eY:=((SG.of hs).bY T (bQ hT)).cols;unfold F57 atk;refine Ok.bind (P:=λps=>ps.length=T.ag.length/\∀(i:Nat) p,ps[i]? =V p->∃k0,Kd ((s::ts).getLast (by simp)) ms (a:Int) T.aH k0 i p) ?_ λps ⟨h1,h2⟩=> ?_
 ·unfold asD ake;rw[aia,ak,bB,hT,ak];exact ayH o hl gS hs hc hT (s::r) T.ag.length 0 o [] (by omega) (by omega) fw rfl λi p h=>by simp at h
 ·refine Ok.bind (aGi o (by omega) fw s ms ts hl gS hs hc hT (.inl rfl)) λp hp=> ?_
  exact Ok.pure ⟨hp.bY,h1,h2⟩
end
section
variable {N:ae} {ms:bX} {a:Int} {w:Nat} {T':ai} {key:Int} {row:bt} {ps:kJ}
def ayG (n0:Nat) (hw:eu ms a=(w:Int)) (hT:N.ah[w]? =V T') (hr:row.length=T'.ag.length) (hp:∀(i:Nat) p,ps[i]? =V p->∃k0,Kd N ms a key k0 i p) (Fq:ps.length<=1000):∀(x:kJ) (i k:Nat) (acc:bt),ps.drop i=x->i<=ps.length->x.length+5000<k->acc=(nR ms a ps.length row).take i->
  ET (NB n0) k row ps (ps.length:Int) (i:Int) acc=V (nR ms a ps.length row)
 | [],i,k+1,acc,hd,uX,hk,aqk=>by
  obtain ⟨hi,hq⟩:=eA hd
  simp only[ET,VK,hq,aR,ax,au,NB];rw[aqk,jz (by rw[xr];exact hi)]
 |p::x,i,k+1,acc,hd,uX,hk,aqk=>by
  obtain ⟨g1,g2,g3,hq⟩:=dK hd
  obtain ⟨k0,hpi,hpc⟩:=hp i p g1;obtain ⟨w',T2,e1,e2,e3,hA,h0⟩:=hpi.on (by omega)
  have K0:w'=w:=by omega
  rw[K0,hT] at e2;have e2:=kR e2;subst e2;simp at hk;have hV:=hpc.val (by omega) (p9 row)
  have uY:acc.length=i:=by rw[aqk,dz,xr];omega
  have step:NC (ET (NB n0) k) k row ps (ps.length:Int) (i:Int) acc (lV ms a (i:Int) (p9 row))=V (nR ms a ps.length row):=by
   unfold NC;rw[dx _ _ (by simp;omega),ak,bT g3 (by omega)]
   refine ayG n0 hw hT hr hp Fq x (i+1) k _ g2 (by omega) (by omega) ?_
   rw[aqk,pU,DI g3];rfl
  simp only[ET,VK,hq,aO,aw,bB,g1,ak];rcases hA with ⟨a1,_⟩|⟨a1,a2,d,y,a3,a4,a5,a6⟩|⟨a1,a2,a3,a4,a5,a6⟩
  ·omega
  ·have rB:d<row.length:=by rw[hr];exact (bO.1 a4).1
   have hg:row[d]? =V row[d]:=cZ rB;have ef:p9 row (d:Int)=row[d]:=by unfold p9;rw[show ((d:Int)).toNat=d by simp,hg];rfl
   rw[a2,aG rfl,a3,ef] at hV;rw[a2,aG rfl,a3,bB,hg,ak,aok k p hpc.afb hpc.few row[d] (by omega),ak,<-hV]
   exact step
  ·rw[a2,aC G7] at hV;rw[a2,aC G7,<-hV];exact step
 |_,_,0,_,_,_,hk,_=>by omega
def ayQ (hn:7000<o) (hw:eu ms a=(w:Int)) (hT:N.ah[w]? =V T') (hr:row.length=T'.ag.length) (hr0:row≠ []) (hp:∀(i:Nat) p,ps[i]? =V p->∃k0,Kd N ms a key k0 i p) (Fq:ps.length<=1000):
  M9 o row ps=V (nR ms a ps.length row):=by
 unfold M9 VJ;have h0:((row.length:Int)==0)=I:=by cases row with
  |nil=>exact absurd rfl hr0
  |cons=>exact NP (by simp;omega)
 rw[h0,aC G7];exact ayG o hw hT hr hp Fq ps 0 o [] rfl (by omega) (by omega) (by simp)
end
def xq:bK:=if eu D (H:Int)<0 then [] else ((f9[(eu D (H:Int)).toNat]?).getD []).map (nR D (H:Int) ge.ag.length)
def nA:iM:=(aa1 O.ah.length).map λ(q:Nat)=>((O.ah[q]?).map (xq D ab q)).getD []
def MF:(nA D O ab).length=O.ah.length:=by simp[nA]
def FC {ms:bX} {u:ae} {st:iM} {T:ai} (h:u.ah[q]? =V T):(nA ms u st)[q]? =V (xq ms st q T):=by
 obtain ⟨h1,e⟩:=bO.1 h;simp[nA,h1,e]
section
variable {u N:ae} {ms:bX} {ts r:fU} {st:iM} {a w:Nat} {T T':ai} {ps:kJ} {rows:bK} {md:Int}
def anC {R:Z (aF×Int)} (k:Int->Int->aF->aF->eE->aF->cJ->Z (aF×Int)) (t49 t50:Int) (b9:aF) (cx:eE) (B:iM)
  (hw:eu ms (a:Int)=(w:Int)) (hT:N.ah[w]? =V T') (hr:∀r∈rows,r.length=T'.ag.length/\r≠ []) (hp:∀(i:Nat) p,ps[i]? =V p->∃k0,Kd N ms (a:Int) T.aH k0 i p) (Fq:ps.length=T.ag.length) (Yv:ps.length<=1000) (qD:rows.length<=1000)
  (hk:k t49 t50 b9 ⟨[]⟩ cx ⟨B⟩ B=R):
  ∀(x:bK) (i m:Nat) (nP pP:aF) (b:iM),rows.drop i=x->i<=rows.length->x.length+8000<m->b[a]? =V ((rows.take i).map (nR ms (a:Int) T.ag.length))->b.set a (rows.map (nR ms (a:Int) T.ag.length))=B->
  Pt k m (a:Int) ps t49 t50 rows (rows.length:Int) (i:Int) b9 nP cx pP b=R
 | [],i,m+1,nP,pP,b,hd,uX,hm,hb,hB=>by
  obtain ⟨hi,hq⟩:=eA hd
  simp only[Pt,acu,hq,aR,ax,au];rw[jz hi] at hb;obtain ⟨q1,q2⟩:=bO.1 hb;have:b=B:=by rw[<-hB,<-q2];exact (Lb q1).symm
  rw[this];exact hk
 |row::x,i,m+1,nP,pP,b,hd,uX,hm,hb,hB=>by
  obtain ⟨g1,g2,g3,hq⟩:=dK hd
  have wB:=(bO.1 hb).1;obtain ⟨r1,r2⟩:=hr row (bQ g1);simp at hm;simp only[Pt,acu,hq,aO,aw,bB,g1,ak,fI wB,cg,hb,ayQ m (by omega) hw hT r1 r2 hp Yv,Fq]
  rw[dx _ _ (by simp;omega),ak,dD _ wB,ak,bT g3 (by omega)]
  refine anC k t49 t50 b9 cx B hw hT hr hp Fq Yv qD hk x (i+1) m _ _ _ g2 (by omega) (by omega) ?_ ?_
  ·rw[nf wB,pU,g1];simp
  ·rw[vX];exact hB
 |_,_,0,_,_,_,_,_,hm,_,_=>by omega
def anB (n0:Nat) (hl:ms.length<=8) (gS:∀m∈ms,MB m/\(m.bf=8->gF m.ck)) (hs:fL u=0) (hc:dA u ms ts) (Mg:fL ((u::ts).getLast (by simp))=0) (kH:vQ md ((u::ts).getLast (by simp)) st):
  ∀(j i m:Nat) (nP pP:aF) (b:iM),i+j=u.ah.length->j+10000<m->m<4294967296->b.length=u.ah.length->(∀q,q<i->b[q]? =(nA ms u st)[q]?)->(∀q,i<=q->q<b.length->b[q]? =V [])->
  F3 (PT n0) m (u.ah.length:Int) (i:Int) ⟨st⟩ nP ⟨u::r,ms⟩ pP b=V (⟨nA ms u st⟩,0)
 |0,i,m+1,nP,pP,b,hi,hm,ry,hb,h1,h2=>by
  have hq:¬((i:Int)<(u.ah.length:Int)):=by omega
  simp only[F3,acs,hq,aR,ax,au,PT];have:b=nA ms u st:=vV λq=>by
   by_cases hq:q<i
   ·exact h1 q hq
   ·rw[qP (by omega),qP (by rw[MF];omega)]
  rw[this]
 |j+1,i,m+1,nP,pP,b,hi,hm,ry,hb,h1,h2=>by
  have hq:(i:Int)<(u.ah.length:Int):=by omega
  have hul:=(SG.of hs).len;have rA:i<u.ah.length:=by omega
  have hu:u.ah[i]? =V u.ah[i]:=cZ rA;have eY:=((SG.of hs).bY _ (p6 rA)).cols;have hbi:=h2 i (de _) (by omega)
  have nx:∀(b9:aF) (b':iM),b'=b.set i (xq ms st i u.ah[i])->PU (F3 (PT n0) m) m (u.ah.length:Int) (i:Int) ⟨st⟩ ⟨[]⟩ ⟨u::r,ms⟩ ⟨b'⟩ b'=V (⟨nA ms u st⟩,0):=λb9 b' e=>by
   unfold PU;rw[bT rA (by omega)]
   subst e;refine anB n0 hl gS hs hc Mg kH j (i+1) m _ _ _ (by omega) (by omega) (by omega) (by rw[ld];omega) (λq hq=> ?_) λq hq hqb=> ?_
   ·by_cases he:q=i
    ·rw[he,nf (by omega),FC hu]
    ·rw[um (wO he)];exact h1 q (by omega)
   ·rw[ld] at hqb;rw[um (by omega)]
    exact h2 q (by omega) (by omega)
  simp only[F3,acs,hq,aO,aw];obtain ⟨z,ez,z1,z2,z3⟩:=aGj m (by omega) (by omega) hl gS hs hc hu r
  rw[ez,ak];by_cases hw:z.1<0
  ·simp only[hw,aO,aw];refine nx ⟨[]⟩ b ?_;have:xq ms st i u.ah[i]= []:=by unfold xq;rw[aG (by omega)]
   rw[this];obtain ⟨q1,q2⟩:=bO.1 hbi;rw[<-q2];exact (Lb q1).symm
  ·simp only[hw,aR,ax,au];obtain ⟨w,K0⟩:∃w:Nat,z.1=(w:Int):=⟨z.1.toNat,by omega⟩
   have sQ:eu ms (i:Int)=(w:Int):=by omega
   obtain ⟨T',j6⟩:∃T',((u::ts).getLast (by simp)).ah[w]? =V T':=by
    have h0:0<z.2.length:=by have h1:=((SG.of hs).bY _ (p6 rA)).uL;have h2:=((SG.of hs).bY _ (p6 rA)).jF;omega
    obtain ⟨_,z4,_⟩:=z3 0 z.2[0] (cZ h0);obtain ⟨w',T',e1,e2,_⟩:=z4.on (by omega)
    have:w'=w:=by omega
    rw[this] at e2;exact ⟨T',e2⟩
   have hwl:w<st.length:=by rw[kH.len];exact (bO.1 j6).1
   have j4:st[w]? =V st[w]:=cZ hwl;obtain ⟨rw1,rw2⟩:=kH.row w T' st[w] j6 j4;have hT2:km T':=(vq Mg).bY (w:Int) T' (by rw[bB];exact j6)
   have hk1:=hT2.uL;have yk:=hT2.jF;have et:xq ms st i u.ah[i]=st[w].map (nR ms (i:Int) u.ah[i].ag.length):=by
    unfold xq;rw[aC (by omega),sQ,show ((w:Int)).toNat=w by simp,j4];rfl
   rw[K0,bB,j4,ak];exact anC (PU (F3 (PT n0) m) m) (u.ah.length:Int) (i:Int) ⟨st⟩ ⟨u::r,ms⟩ _ sQ j6 (λy hy=>by
    have:=gT (rw2 y hy);exact ⟨this,λe=>by rw[e] at this;simp at this;omega⟩) z3 z2 (by omega) (by omega) (nx ⟨st⟩ _ (by rw[et])) st[w] 0 m _ _ b rfl (by omega) (by omega) (by simpa using hbi) rfl
 |_,_,0,_,_,_,_,hm,_,_,_,_=>by omega
end
section
variable {n:Nat} {s u:ae} {ms:bX} {ts:fU} {k:Nat} {st:iM} {md:Int}
def asf (lX:tO md) (hn:3000000<n) (fw:n<4294967296) (hs:fL s=0) (hm:∀m∈ms,MB m/\(m.bf=8->gF m.ck)) (hl:ms.length<=8) (hv:s.ay+(ms.length:Int)<=1000) (hc:dA s ms ts) (hk:k<=ts.length) (hu:(s::ts)[k]? =V u) (kH:vQ md ((s::ts).getLast (by simp)) st):
  F21 n s ms (s.ay+(k:Int)) md ⟨st⟩=V (⟨nA (ms.drop k) u st⟩,0):=by
 have hlen:=hc.len;obtain ⟨u',e1,e2,e3,e4,e5⟩:=dA.drop hs hc hk;rw[hu] at e1;have e1:=kR e1;rw[<-e1] at e2 e3 e4;have e5:(u::ts.drop k).getLast (by simp)=(s::ts).getLast (by simp):=by
  rw[<-e5];congr 1;rw[e1]
 have Mg:fL ((s::ts).getLast (by simp))=0:=by
  rcases da.1 (NM (l:=s::ts) (by simp)) with h|h
  ·rw[h];exact hs
  ·exact hc.kj _ h
 have hGN:=SG.of Mg;have hul:=(SG.of e4).len;have hNl:=hGN.len;have htot:=kH.tot;have HK:=kH.len;have agq:tu (u.ah.length:Int) ([]:bK)=V (List.replicate u.ah.length []):=by
  unfold tu;rw[aG ⟨by omega,by omega⟩];rfl
 have Fv:=TT n ((s::ts).getLast (by simp)) (λT hT=>(hGN.bY T hT).xX) (by omega) fw
 rw[Mg] at Fv;have h26:=aUs lX n _ 0 Fv (λ_=>vq Mg) ⟨st⟩ (by show st.length+total st<=2000000;omega) (by omega)
 rw[StM.kj kH.m (by omega)] at h26
 unfold F21 atC;rw[ayN (by omega) fw hs hm hl hv hc hk,ak,e2]
 simp only[ia,ax,au];rw[ayM (by simp;omega),ak,e5,h26,ak]
 simp only[ia,ax,au];rw[aia,ak,agq,ak,vY];rw[<-e5] at kH Mg;exact anB n (by simp;omega) (λm ry=>hm m (nG ry)) e4 e3 Mg kH u.ah.length 0 n _ _ _ (by omega) (by omega) fw (by simp) (λq h=>by omega) λq _ hq=>by
  rw[vY] at hq;simp[hq]
def ZG (hs:fL u=0) (hm:∀m∈ms,MB m/\(m.bf=8->gF m.ck)) (hc:dA u ms ts) (kH:vQ md ((u::ts).getLast (by simp)) st):vQ md u (nA ms u st):=by
 have main:∀(t:Nat) T rows,u.ah[t]? =V T->(nA ms u st)[t]? =V rows->(rows.length<=8/\∀r∈rows,gB md T.aH 0 (eh T) r=M)/\Ord T rows:=λt T rows hT hr=>by
  rw[FC hT] at hr;cases hr;unfold xq;split
  ·exact ⟨⟨by simp,λr hr=>by simp at hr⟩,ac8⟩
  ·rename_i hw;obtain ⟨w,K0⟩:∃w:Nat,eu ms (t:Int)=(w:Int):=⟨(eu ms (t:Int)).toNat,by omega⟩
   rw[K0,show ((w:Int)).toNat=w by simp]
   cases hg:st[w]? with
   |none=>exact ⟨⟨by simp,λr hr=>by simp at hr⟩,ac8⟩
   |some rows=>
    have hwl:w<((u::ts).getLast (by simp)).ah.length:=by rw[<-kH.len];exact (bO.1 hg).1
    have j6:=cZ hwl;obtain ⟨r1,r2⟩:=kH.row w _ rows j6 hg;have r3:=kH.ord w _ rows j6 hg;refine ⟨⟨by simpa using r1,λr hr=> ?_⟩,?_⟩
    ·obtain ⟨row,B6,rfl⟩:=dM.1 (show r∈rows.map _ from hr);exact (DJ hm hs hc hT K0 j6 (r2 row B6)).2.1
    ·refine List.pairwise_map.2 (r3.imp_of_mem λ{a b} ha hb hab=> ?_)
     obtain ⟨k1,_,k2⟩:=DJ hm hs hc hT K0 j6 (r2 a ha);obtain ⟨_,_,k3⟩:=DJ hm hs hc hT K0 j6 (r2 b hb);show lt (fC T _) (fC T _);unfold fC;rw[k2,k3,<-k1];exact hab
 exact ⟨MF _ _ _,λt T rows hT hr=>(main t T rows hT hr).1,λt T rows hT hr=>(main t T rows hT hr).2⟩
end
end
section
def avb {ms:bX} {t:Int} {n c:Nat} {row:bt} (h:c<n):p9 (nR ms t n row) (c:Int)=lV ms t (c:Int) (p9 row):=by
 unfold p9;rw[show ((c:Int)).toNat=c by simp,DI h];rfl
section
variable {u t':ae} {m:aE} {ms:bX} {ts:fU} {a a':Nat} {T g6:ai} {st:iM}
def Zr (hf:jV m (a:Int)=(a':Int)) (hF:wK m a T g6) (row:bt):nR (m::ms) (a:Int) T.ag.length row=nR [m] (a:Int) T.ag.length (nR ms (a':Int) g6.ag.length row):=by
 unfold nR;refine vj λi hi=> ?_
 have rA:i<T.ag.length:=by simpa using hi
 have hx:T.ag[i]? =V T.ag[i]:=cZ rA;rw[aqY,hf];rcases hF.2 i _ hx with ⟨b1,d,y,b2,b3,_⟩|⟨b1,_⟩
 ·have hd:=(bO.1 b3).1;have e:lV ms (a':Int) (d:Int) (p9 row)=p9 (nR ms (a':Int) g6.ag.length row) (d:Int):=(avb hd).symm;simp only[lV,b1,b2,aw];rw[e];rfl
 ·simp only[lV,b1,ax,au]
def aqL (kH:kS u m t') (D7:fL t'=0):nA (m::ms) u st=nA [m] u (nA ms t' st):=by
 unfold nA;refine vj λa ha=> ?_
 have uY:a<u.ah.length:=by simpa using ha
 have hT:u.ah[a]? =V u.ah[a]:=cZ uY;rw[hT];show xq (m::ms) st a u.ah[a]=xq [m] (nA ms t' st) a u.ah[a];rcases kH.agF hT with ⟨h7,hh⟩|⟨hn7,a',g6,f1,f2,f3⟩
 ·have e:jV m (a:Int)= -1:=by simp[jV,h7,hh]
  have w1:eu (m::ms) (a:Int)= -1:=by simp[eu,e]
  have w2:eu [m] (a:Int)= -1:=by simp[eu,e]
  unfold xq;rw[w1,w2];rfl
 ·have dq:¬(jV m (a:Int)<0):=by omega
  have w1:eu (m::ms) (a:Int)=eu ms (a':Int):=by simp only[eu];rw[aC dq,f1]
  have w2:eu [m] (a:Int)=(a':Int):=by simp only[eu];rw[aC dq,f1]
  have hg:=FC (ms:=ms) (st:=st) f2;unfold xq;rw[w1,w2,aC (show ¬((a':Int)<0) by omega),show ((a':Int)).toNat=a' by simp,hg]
  show _=(xq ms st a' g6).map _;unfold xq;split
  ·rfl
  ·rw[tS];exact vj λrow _=>Zr f1 f3 row
end
def aeR {t:Int} {row:bt}:nR [] t row.length row=row:=vV λq=>by
 by_cases hq:q<row.length
 ·rw[DI hq];show V (p9 row (q:Int))=_;unfold p9;rw[show ((q:Int)).toNat=q by simp,cZ hq];rfl
 ·rw[qP (by rw[xr];omega),qP (by omega)]
def ZF {md:Int} {N:ae} {st:iM} (kH:vQ md N st):nA [] N st=st:=vV λq=>by
 have hl:=kH.len;by_cases hq:q<N.ah.length
 ·have hT:N.ah[q]? =V N.ah[q]:=cZ hq;have hs:st[q]? =V st[q]:=cZ (by omega)
  have hr:=(kH.row q _ _ hT hs).2;rw[FC hT,hs];unfold xq;have w:eu [] (q:Int)=(q:Int):=rfl;rw[w,aC (by omega),show ((q:Int)).toNat=q by simp,hs]
  show V (st[q].map _)=V st[q];refine bF V ?_;have:st[q].map (nR [] (q:Int) N.ah[q].ag.length)=st[q].map id:=vj λr lA=>by
   rw[<-gT (hr r lA)];exact aeR
  rw[this,List.map_id]
 ·rw[qP (by rw[MF];omega),qP (by omega)]
end
def ahB (n0:Nat) (rows:bK) (hl:rows.length<=1000) (hr:∀r∈rows,r.length<=100):∀(x:bK) (i m:Nat),rows.drop i=x->x.length+200<m->Pg (abJ n0) m rows rows (rows.length:Int) (i:Int)=V M
 | [],i,m+1,hd,hm=>by
  have hq:¬((i:Int)<(rows.length:Int)):=by
   have:rows.length<=i:=by simpa using hd
   omega
  simp only[Pg,abK,hq,aR,ax,au,abJ]
 |r::x,i,m+1,hd,hm=>by
  obtain ⟨g1,g2,g3,hq⟩:=dK hd
  have h1:=hr r (bQ g1);simp at hm;simp only[Pg,abK,hq,aO,aw,bB,g1,ak,M6 m r r (by omega) (by omega),te,ia,ax,au,bT g3 (by omega:rows.length<4294967296)]
  exact ahB n0 rows hl hr x (i+1) m g2 (by omega)
 |_,_,0,_,hm=>by omega
def aCh (rows:bK) (hl:rows.length<=1000) (hr:∀r∈rows,r.length<=100) (hn:2000<o):F62 o rows rows=V M:=by
 unfold F62 atj;simp only[ia,ax,au];exact ahB o rows hl hr rows 0 o rfl (by omega)
def ahM (n0:Nat) (st:iM) (hl:st.length<=1000) (hr:∀rows∈st,rows.length<=1000/\∀r∈rows,r.length<=100):∀(x:iM) (i m:Nat),st.drop i=x->x.length+3000<m->Ps (acq n0) m (st.length:Int) (i:Int) ⟨st⟩ ⟨st⟩=V M
 | [],i,m+1,hd,hm=>by
  have hq:¬((i:Int)<(st.length:Int)):=by
   have:st.length<=i:=by simpa using hd
   omega
  simp only[Ps,acr,hq,aR,ax,au,acq]
 |r::x,i,m+1,hd,hm=>by
  obtain ⟨g1,g2,g3,hq⟩:=dK hd
  obtain ⟨h1,h2⟩:=hr r (bQ g1);simp at hm;simp only[Ps,acr,hq,aO,aw,bB,g1,ak,aCh m r h1 h2 (by omega),dd,ax,au,bT g3 (by omega:st.length<4294967296)]
  exact ahM n0 st hl hr x (i+1) m g2 (by omega)
 |_,_,0,_,hm=>by omega
def aCj (hl:f9.length<=1000) (hr:∀rows∈f9,rows.length<=1000/\∀r∈rows,r.length<=100) (hn:5000<o):F23 o ⟨f9⟩ ⟨f9⟩=V M:=by
 unfold F23 atB;simp only[ia,ax,au];exact ahM o f9 hl hr f9 0 o rfl (by omega)
def ahL (n0:Nat) (ch:bu) (hl:ch.length<=1000) (hr:∀c∈ch,c.dY.length<=100/\c.eH.length<=100):∀(x:bu) (i m:Nat),ch.drop i=x->x.length+200<m->Po (acf n0) m ch ch (ch.length:Int) (i:Int)=V M
 | [],i,m+1,hd,hm=>by
  have hq:¬((i:Int)<(ch.length:Int)):=by
   have:ch.length<=i:=by simpa using hd
   omega
  simp only[Po,acg,hq,aR,ax,au,acf]
 |c::x,i,m+1,hd,hm=>by
  obtain ⟨g1,g2,g3,hq⟩:=dK hd
  obtain ⟨h1,h2⟩:=hr c (bQ g1);simp at hm;simp only[Po,acg,hq,aO,aw,bB,g1,ak,M6 m c.dY c.dY (by omega) (by omega),M6 m c.eH c.eH (by omega) (by omega),te,ia,ax,au,bT g3 (by omega:ch.length<4294967296)]
  exact ahL n0 ch hl hr x (i+1) m g2 (by omega)
 |_,_,0,_,hm=>by omega
def aCi (hl:A.length<=1000) (hr:∀c∈A,c.dY.length<=100/\c.eH.length<=100) (hn:2000<o):F36 o A A=V M:=by
 unfold F36 atx;simp only[ia,ax,au];exact ahL o A hl hr A 0 o rfl (by omega)
def ayv (n0:Nat) (a b:bt) (hl:a.length=b.length) (ha:a.length<=1000):∀(x:bt) (i m:Nat),a.drop i=x->x.length<m->Ok (Pc (V M) m a b (a.length:Int) (i:Int)) λv=>(v=M↔a.drop i=b.drop i)
 | [],i,m+1,hd,hm=>by
  obtain ⟨hi,hq⟩:=eA hd
  simp only[Pc,abC,hq,aR,ax,au];rw[p7 hi,p7 (by omega)]
  exact Ok.pure (by simp)
 |v::x,i,m+1,hd,hm=>by
  obtain ⟨g1,g2,g3,hq⟩:=dK hd
  have hb:b[i]? =V b[i]:=cZ (by omega)
  simp at hm;have ih:=ayv n0 a b hl ha x (i+1) m g2 (by omega)
  have e1:a.drop i=v::a.drop (i+1):=by rw[g2];exact hd
  have e2:b.drop i=b[i]::b.drop (i+1):=sr (by omega)
  simp only[Pc,abC,hq,aO,aw,bB,g1,hb,ak,bT g3 (by omega:a.length<4294967296)]
  rw[e1,e2];refine Ok.ite (λh=>Ok.pure ?_) λh=>ih.mono λw hw=> ?_
  ·have cQ:¬v=b[i]:=λe=>by
    have h2:xQ v b[i]=M:=C5.2 e;unfold xQ at h2;rw[h2] at h;cases h
   exact ⟨λh=>(by cases h),λe=>absurd (aar e).1 cQ⟩
  ·have h2:xQ v b[i]=M:=by
    unfold xQ;simpa using h
   rw[C5.1 h2];exact hw.trans ⟨λe=>by rw[e],λe=>(aar e).2⟩
 |_,_,0,_,hm=>by omega
def aOC (ha:W.length<=1000) (hn:2000<o):Ok (F81 o W Y) λv=>(v=M↔W=Y):=by
 unfold F81 asW;by_cases h:W.length=Y.length
 ·have e:((W.length:Int) !=(Y.length:Int))=I:=by simp[h]
  rw[e,aC G7];exact ayv o W Y h ha W 0 o rfl (by omega)
 ·have e:((W.length:Int) !=(Y.length:Int))=M:=by simp;omega
  rw[e,aG rfl];have:¬W=Y:=λe=>h (by rw[e])
  exact Ok.pure (by simp[this])
section
def iA:bt:=if ad= [] then [] else nR D f7 aa ad
def uM:Z cr:=if dW (iA D f7 aa X.dY) (iA D f7 aa X.eH)=0 then none else V ⟨f7,iA D f7 aa X.dY,iA D f7 aa X.eH⟩
def ky:bu:=(A.filter λc=>iL (c.av=eu D (H:Int))).filterMap (uM D (H:Int) ge.ag.length)
def og:bu:=(aa1 O.ah.length).flatMap λ(q:Nat)=>((O.ah[q]?).map (ky D ac q)).getD []
def gg (md:Int) (N:ae) (c:cr):Prop:=∃(w:Nat) (T:ai),c.av=(w:Int)/\N.ah[w]? =V T/\(c.dY≠ []\/c.eH≠ [])/\(c.dY≠ []->gB md T.aH 0 (eh T) c.dY=M)/\(c.eH≠ []->gB md T.aH 0 (eh T) c.eH=M)/\(c.dY≠ []->c.eH≠ []->fC T c.dY=fC T c.eH)
section
variable {u N:ae} {ms:bX} {ts r:fU} {net:bu} {a w:Nat} {T T':ai} {ps:kJ} {md:Int}
def aiF (hn:7000<o) (hw:eu ms (a:Int)=(w:Int)) (hT:N.ah[w]? =V T') {row:bt} {key:Int} (hr:row≠ []->row.length=T'.ag.length) (hp:∀(i:Nat) p,ps[i]? =V p->∃k0,Kd N ms (a:Int) key k0 i p) (Fq:ps.length<=1000):
  M9 o row ps=V (iA ms (a:Int) ps.length row):=by
 unfold iA;by_cases h:row= []
 ·subst h;unfold M9 VJ;simp
 ·rw[aC h];exact ayQ o hn hw hT (hr h) h hp Fq
def anw {R:Z (bu×Int)} (k:Int->Int->eE->bu->bu->Z (bu×Int)) (t46 t47:Int) (cx:eE) (wz:Int) (hwz:wz=eu ms (a:Int)) (hC:∀c∈net,gg md N c) (hp:∀(i:Nat) p,ps[i]? =V p->∃k0,Kd N ms (a:Int) T.aH k0 i p) (Fq:ps.length=T.ag.length) (Yv:ps.length<=1000) (Bv:net.length<=1000):
  ∀(x:bu) (i m:Nat) (acc:bu),net.drop i=x->i<=net.length->x.length+8000<m->acc.length+x.length<=100000->k t46 t47 cx net (acc++ky ms x a T)=R->
  Pp k m (a:Int) wz ps t46 t47 (net.length:Int) (i:Int) cx net acc=R
 | [],i,m+1,acc,hd,uX,hm,uY,hk=>by
  obtain ⟨hi,hq⟩:=eA hd
  simp only[Pp,acj,hq,aR,ax,au];simpa[ky] using hk
 |c::x,i,m+1,acc,hd,uX,hm,uY,hk=>by
  obtain ⟨g1,g2,g3,hq⟩:=dK hd
  simp at hm uY;have ih:=λacc' h1 h2=>anw (R:=R) k t46 t47 cx wz hwz hC hp Fq Yv Bv x (i+1) m acc' g2 (by omega) (by omega) h1 h2
  simp only[Pp,acj,hq,aO,aw,fI g3,ak,cg,g1,bT g3 (by omega:net.length<4294967296)]
  by_cases hw:c.av=wz
  ·obtain ⟨w,T',c1,c2,c3,c4,c5,c6⟩:=hC c (bQ g1);have sQ:eu ms (a:Int)=(w:Int):=by omega
   have f1:=aiF m (by omega) sQ c2 (row:=c.dY) (λh=>gT (c4 h)) hp Yv
   have f2:=aiF m (by omega) sQ c2 (row:=c.eH) (λh=>gT (c5 h)) hp Yv
   rw[Fq] at f1 f2;have hl1:(iA ms (a:Int) T.ag.length c.dY).length<=1000:=by
    unfold iA;split
    ·simp
    ·rw[xr];omega
   have e0:ky ms (c::x) a T=(uM ms (a:Int) T.ag.length c).toList++ky ms x a T:=by
    unfold ky;rw[jc,aG (by rw[jA];omega),VX]
    cases uM ms (a:Int) T.ag.length c<;>rfl
   have cQ:(c.av !=wz)=I:=by simp[hw]
   obtain ⟨v,ev,hv⟩:=aOC m (iA ms (a:Int) T.ag.length c.dY) (iA ms (a:Int) T.ag.length c.eH) hl1 (by omega)
   simp only[cQ,ax,au,f1,f2,ak,ev];by_cases he:dW (iA ms (a:Int) T.ag.length c.dY) (iA ms (a:Int) T.ag.length c.eH)=0
   ·rw[hv.2 (uE he)];simp only[dd,ax,au];refine ih acc (by omega) ?_
    rw[e0] at hk;simpa[uM,he] using hk
   ·have hvf:v=I:=by
     cases v with
     |false=>rfl
     |true=>exact absurd (uD.2 (hv.1 rfl)) he
    rw[hvf];simp only[gq,aw];rw[dx _ _ (by simp;omega),ak]
    refine ih _ (by simp;omega) ?_
    rw[e0] at hk;simpa[uM,he] using hk
  ·have cQ:(c.av !=wz)=M:=by simp[hw]
   simp only[cQ,aw];refine ih acc (by omega) ?_
   have e0:ky ms (c::x) a T=ky ms x a T:=by
    unfold ky;rw[jc,aC (by rw[jA];omega)]
   rw[e0] at hk;exact hk
 |_,_,0,_,_,_,hm,_,_=>by omega
end
end
section
def azC:(ky D A H ge).length<=A.length:=by
 unfold ky;exact kY (List.length_filterMap_le ..) (List.length_filter_le ..)
section
variable {u:ae} {ms:bX} {ts r:fU} {net:bu} {md:Int}
def anv (n0:Nat) (hl:ms.length<=8) (gS:∀m∈ms,MB m/\(m.bf=8->gF m.ck)) (hs:fL u=0) (hc:dA u ms ts) (hC:∀c∈net,gg md ((u::ts).getLast (by simp)) c) (Bv:net.length<=1000):
  ∀(j i m:Nat) (acc:bu),i+j=u.ah.length->j+20000<m->m<4294967296->acc.length<=1000*i->
  Ko (Uh n0) m (u.ah.length:Int) (i:Int) ⟨u::r,ms⟩ net acc=V (acc++(List.range' i j).flatMap (λ(q:Nat)=>((u.ah[q]?).map (ky ms net q)).getD []),0)
 |0,i,m+1,acc,hi,hm,ry,uY=>by
  have hq:¬((i:Int)<(u.ah.length:Int)):=by omega
  simp only[Ko,ach,hq,aR,ax,au,Uh];simp
 |j+1,i,m+1,acc,hi,hm,ry,uY=>by
  have hq:(i:Int)<(u.ah.length:Int):=by omega
  have hul:=(SG.of hs).len;have rA:i<u.ah.length:=by omega
  have hu:u.ah[i]? =V u.ah[i]:=cZ rA;have eY:=((SG.of hs).bY _ (p6 rA)).cols;have HJ:=azC ms net i u.ah[i];simp only[Ko,ach,hq,aO,aw];obtain ⟨z,ez,z1,z2,z3⟩:=aGj m (by omega) (by omega) hl gS hs hc hu r
  rw[ez,ak];refine anw (T:=u.ah[i]) (aci (Ko (Uh n0) m) m) (u.ah.length:Int) (i:Int) ⟨u::r,ms⟩ z.1 z1 hC z3 z2 (by omega) Bv net 0 m acc rfl (by omega) (by omega) (by omega) ?_
  unfold aci;rw[bT rA (by omega),anv n0 hl gS hs hc hC Bv j (i+1) m _ (by omega) (by omega) (by omega) (by rw[gy];omega)]
  rw[A5,sn,hu,j8];rfl
 |_,_,0,_,_,hm,_,_=>by omega
end
section
variable {n:Nat} {s u:ae} {ms:bX} {ts:fU} {k:Nat} {changes net:bu} {md:Int}
def ase (hn:3000000<n) (fw:n<4294967296) (hs:fL s=0) (hm:∀m∈ms,MB m/\(m.bf=8->gF m.ck)) (hl:ms.length<=8) (hv:s.ay+(ms.length:Int)<=1000) (hc:dA s ms ts) (hk:k<=ts.length) (hu:(s::ts)[k]? =V u) (aAS:F37 n ((s::ts).getLast (by simp)) md changes=V (net,0)) (hC:∀c∈net,gg md ((s::ts).getLast (by simp)) c) (Bv:net.length<=1000):
  F34 n s ms (s.ay+(k:Int)) md changes=V (og (ms.drop k) u net,0):=by
 have hlen:=hc.len;obtain ⟨u',e1,e2,e3,e4,e5⟩:=dA.drop hs hc hk;rw[hu] at e1;have e1:=kR e1;rw[<-e1] at e2 e3 e4;have e5:(u::ts.drop k).getLast (by simp)=(s::ts).getLast (by simp):=by
  rw[<-e5];congr 1;rw[e1]
 have hul:=(SG.of e4).len;unfold F34 aty;rw[ayN (by omega) fw hs hm hl hv hc hk,ak,e2]
 simp only[ia,ax,au];rw[ayM (by simp;omega),ak,e5,aAS,ak]
 simp only[ia,ax,au];rw[aia,ak];rw[<-e5] at hC;have:=anv (r:=ts.drop k) n (by simp;omega) (λm ry=>hm m (nG ry)) e4 e3 hC Bv u.ah.length 0 n [] (by omega) (by omega) fw (by simp)
 rw[show ((0:Nat):Int)=0 from rfl] at this;rw[this,jy,<-Lc];rfl
end
def Dg {ms:bX} {t:Int} {n:Nat} {row:bt} (hn:0<n):iA ms t n row= []↔row= []:=by
 unfold iA;split
 ·simp[*]
 ·rename_i h;constructor
  ·intro e;have:=bF List.length e;rw[xr] at this;simp at this;omega
  ·intro e;exact absurd e h
section
variable {u t':ae} {m:aE} {ms:bX} {a a':Nat} {T g6:ai}
def Zy (hf:jV m (a:Int)=(a':Int)) (hF:wK m a T g6) (hU:0<g6.ag.length) (row:bt):iA (m::ms) (a:Int) T.ag.length row=iA [m] (a:Int) T.ag.length (iA ms (a':Int) g6.ag.length row):=by
 by_cases h:row= []
 ·simp[iA,h]
 ·have h2:¬iA ms (a':Int) g6.ag.length row= []:=λe=>h ((Dg hU).1 e)
  have e1:iA ms (a':Int) g6.ag.length row=nR ms (a':Int) g6.ag.length row:=by unfold iA;rw[aC h]
  rw[show iA [m] (a:Int) T.ag.length (iA ms (a':Int) g6.ag.length row)=nR [m] (a:Int) T.ag.length (iA ms (a':Int) g6.ag.length row) by unfold iA;rw[aC (by simpa[iA] using h2)],e1]
  unfold iA;rw[aC h];exact Zr hf hF row
end
end
section
def IL (ha:W.length<4294967296) (hn:W.length<o):F87 o W Y=V (dW W Y==0):=by
 unfold F87 asS;rw[M4 o W Y ha hn];rfl
section
variable {N:ae} {md:Int} {c:cr} {n:Nat}
def amH {r:bt}:iL (0<(r.length:Int))= !r.isEmpty:=by cases r<;>simp
def aoo (lX:tO md) (hN:qI N) {w:Nat} {T:ai} (hw:c.av=(w:Int)) (hT:N.ah[w]? =V T) {row:bt} (hr:row≠ []->gB md T.aH 0 (eh T) row=M) (k:Int->GL->Int->ae->cr->Z Bool) (t36:GL) (t37:Int) (hn:1000<n):T6 k n md row t36 t37 N c=k md t36 (aW (t37+1)) N c:=by
 have ht:km T:=hN.bY (w:Int) T (by rw[bB];exact hT)
 have xa:idx N.ah (w:Int)=V T:=by rw[bB];exact hT
 unfold T6;rw[amH];by_cases h:row= []
 ·subst h;simp
 ·have e:row.isEmpty=I:=by cases row with
   |nil=>exact absurd rfl h
   |cons=>rfl
  rw[e];simp only[gq,aw];rw[hw,aGh lX xa ht row hn,ak,hr h];simp
def aOE (lX:tO md) (hN:qI N) (hc:gg md N c) (hn:2000<n):F78 n N md c=V M:=by
 obtain ⟨w,T,hw,hT,h1,h2,h3,h4⟩:=hc;have ht:km T:=hN.bY (w:Int) T (by rw[bB];exact hT)
 have xa:idx N.ah (w:Int)=V T:=by rw[bB];exact hT
 have hwl:=(bO.1 hT).1;have q1:¬((w:Int)<0):=by omega
 have q2:(w:Int)<(N.ah.length:Int):=by omega
 obtain ⟨m,rfl⟩:∃m,n=m+3:=⟨n-3,by omega⟩
 have w1:aW (0+1)=1:=cU (by omega) (by omega)
 have w2:aW (1+1)=2:=cU (by omega) (by omega)
 have d0:iL ((0:Int)<2)=M:=rfl;have d1:iL ((1:Int)<2)=M:=rfl;have d2:iL ((2:Int)<2)=I:=rfl;have e00:((0:Int)==0)=M:=rfl;have e10:((1:Int)==0)=I:=rfl;have e11:((1:Int)==1)=M:=rfl;have main:T4 (m+3) md N c=V M:=by
  unfold T4;simp only[Pe,T5,d0,aw,e00];rw[aoo lX hN hw hT h2 _ _ _ (by omega),w1]
  simp only[Pe,T5,d1,aw,e10,ax,au,e11];rw[aoo lX hN hw hT h3 _ _ _ (by omega),w2]
  simp only[Pe,T5,d2,ax,au,asY];rw[afL,afL];by_cases g1:c.dY= []
  ·simp[g1]
  ·by_cases g2:c.eH= []
   ·simp[g2]
   ·have i1:c.dY.isEmpty=I:=by simpa using g1
    have i2:c.eH.isEmpty=I:=by simpa using g2
    have l1:=gT (h2 g1);have l2:=gT (h3 g2);have h8:=ht.cols;rw[i1,i2];simp only[ax,au];rw[hw,IM xa ht _ l1,ak,IM xa ht _ l2,ak,IL _ _ _ (by simp;omega) (by simp;omega),ak]
    have e:=h4 g1 g2;unfold fC at e;rw[e,te];rfl
 unfold F78 asX;rw[hw];simp only[q1,q2,aR,aO,dd,ax,au];rw[afL,afL,main];by_cases g1:c.dY= []
 ·have g2:c.eH≠ []:=h1.resolve_left λh=>h g1
  have i2:c.eH.isEmpty=I:=by simpa using g2
  rw[g1,i2];simp
 ·have i1:c.dY.isEmpty=I:=by simpa using g1
  rw[i1];simp
def anr (lX:tO md) (hN:qI N) (n0:Nat) (ch:bu) (hl:ch.length<=1000) (hC:∀c∈ch,gg md N c):∀(x:bu) (i m:Nat),ch.drop i=x->x.length+2100<m->Pb (abA n0) m ch (ch.length:Int) (i:Int) N md=V (-1,N,md)
 | [],i,m+1,hd,hm=>by
  have hq:¬((i:Int)<(ch.length:Int)):=by
   have:ch.length<=i:=by simpa using hd
   omega
  simp only[Pb,abB,hq,aR,ax,au,abA]
 |c::x,i,m+1,hd,hm=>by
  obtain ⟨g1,g2,g3,hq⟩:=dK hd
  simp at hm;have h78:F84 m c N md=V (I,N,md):=by
   unfold F84 asU;rw[aOE lX hN (hC c (bQ g1)) (by omega)];rfl
  simp only[Pb,abB,hq,aO,aw,bB,g1,ak,h78,ax,au,bT g3 (by omega:ch.length<4294967296)]
  exact anr lX hN n0 ch hl hC x (i+1) m g2 (by omega)
 |_,_,0,_,hm=>by omega
def aGg (lX:tO md) (hN:qI N) (ch:bu) (hl:ch.length<=1000) (hC:∀c∈ch,gg md N c) (hn:4000<n):F83 n ch N md=V (-1,N,md):=by
 unfold F83 asV;exact anr lX hN n ch hl hC ch 0 n rfl (by omega)
def ayL (hl:A.length<=1000):F85 o A=V A:=by
 unfold F85 asT;cases A with
 |nil=>rfl
 |cons c x=>
  simp only[List.isEmpty_cons,ax,au];rw[dx _ _ (by simp at hl ⊢;omega)]
  simp
def pG:bt:=fC ge (if X.dY.isEmpty=M then X.eH else X.dY)
def Pz (hN:qI N) {w:Nat} {T:ai} (hw:c.av=(w:Int)) (hT:N.ah[w]? =V T) (hc:gg md N c):F88 n N c=V (pG T c):=by
 obtain ⟨w',T',sQ,j6,h1,h2,h3,_⟩:=hc;have:w'=w:=by omega
 rw[this,hT] at j6;cases j6;have ht:km T:=hN.bY (w:Int) T (by rw[bB];exact hT)
 have xa:idx N.ah (w:Int)=V T:=by rw[bB];exact hT
 unfold F88 asR pG;rw[amH,hw];by_cases g1:c.dY= []
 ·have g2:c.eH≠ []:=h1.resolve_left λh=>h g1
  rw[g1];simp only[List.isEmpty_nil,dd,ax,au,aw];rw[IM xa ht _ (gT (h3 g2))];rfl
 ·have i1:c.dY.isEmpty=I:=by simpa using g1
  rw[i1];simp only[gq,aw,ax,au];rw[IM xa ht _ (gT (h2 g1))];rfl
end
end
section
section
variable {u:ae} {ms:bX} {ts:fU} {net:bu} {md:Int}
def axM {c:cr} (h:c∈og ms u net):∃(q:Nat) (T:ai) (d:cr),u.ah[q]? =V T/\d∈net/\d.av=eu ms (q:Int)/\uM ms (q:Int) T.ag.length d=V c:=by
 obtain ⟨q,hq,hc⟩:=ur.1 h;cases hT:u.ah[q]? with
 |none=>rw[hT] at hc;simp at hc
 |some T=>
  rw[hT] at hc;obtain ⟨d,hd,hc⟩:=GZ.1 (show c∈ky ms net q T from hc);obtain ⟨h1,h2⟩:=nI.1 hd;exact ⟨q,T,d,hT,h1,by simpa using h2,hc⟩
def yl {ms:bX} {t:Int} {n:Nat} {d c:cr} (h:uM ms t n d=V c):c=⟨t,iA ms t n d.dY,iA ms t n d.eH⟩/\dW (iA ms t n d.dY) (iA ms t n d.eH)≠0:=by
 unfold uM at h;split at h
 ·cases h
 ·rename_i e;cases h;exact ⟨rfl,e⟩
def ZI (hs:fL u=0) (hm:∀m∈ms,MB m/\(m.bf=8->gF m.ck)) (hc:dA u ms ts) (hC:∀c∈net,gg md ((u::ts).getLast (by simp)) c):∀c∈og ms u net,gg md u c/\c.dY≠c.eH:=λc h=>by
 obtain ⟨q,T,d,hT,h1,h2,h3⟩:=axM h;obtain ⟨rfl,cQ⟩:=yl h3;obtain ⟨w,T',w1,w2,w3,w4,w5,w6⟩:=hC d h1;have hw:eu ms (q:Int)=(w:Int):=by omega
 have Fu:=(SG.of hs).bY T (bQ hT);have k1:=Fu.uL;have k2:=Fu.jF;have h0:0<T.ag.length:=by omega
 have map:∀row,(row≠ []->gB md T'.aH 0 (eh T') row=M)->iA ms (q:Int) T.ag.length row≠ []->row≠ []/\iA ms (q:Int) T.ag.length row=nR ms (q:Int) T.ag.length row/\gB md T.aH 0 (eh T) (iA ms (q:Int) T.ag.length row)=M/\fC T (iA ms (q:Int) T.ag.length row)=fC T' row:=λrow hr cQ=>by
  have B6:row≠ []:=λe=>cQ ((Dg h0).2 e)
  have e:iA ms (q:Int) T.ag.length row=nR ms (q:Int) T.ag.length row:=by unfold iA;rw[aC B6]
  obtain ⟨f1,f2,f3⟩:=DJ hm hs hc hT hw w2 (hr B6);refine ⟨B6,e,by rw[e];exact f2,?_⟩
  unfold fC;rw[e,f3,f1]
 refine ⟨⟨q,T,rfl,hT,?_,λh=>(map _ w4 h).2.2.1,λh=>(map _ w5 h).2.2.1,λg1 g2=> ?_⟩,λe=> ?_⟩
 ·exact w3.imp (λg e=>g ((Dg h0).1 e)) λg e=>g ((Dg h0).1 e)
 ·obtain ⟨a1,_,_,a2⟩:=map _ w4 g1;obtain ⟨b1,_,_,b2⟩:=map _ w5 g2;exact a2.trans ((w6 a1 b1).trans b2.symm)
 ·exact cQ (uD.2 e)
end
section
variable {u t':ae} {m:aE} {ms:bX} {net:bu}
def atW {a a':Nat} {T g6:ai} (hf:jV m (a:Int)=(a':Int)) (hF:wK m a T g6) (hU:0<g6.ag.length):ky (m::ms) net a T=ky [m] (ky ms net a' g6) a T:=by
 have dq:¬(jV m (a:Int)<0):=by omega
 have w1:eu (m::ms) (a:Int)=eu ms (a':Int):=by simp only[eu];rw[aC dq,hf]
 have w2:eu [m] (a:Int)=(a':Int):=by simp only[eu];rw[aC dq,hf]
 have one:∀c:cr,uM (m::ms) (a:Int) T.ag.length c=(uM ms (a':Int) g6.ag.length c).bind (uM [m] (a:Int) T.ag.length):=λc=>by
  unfold uM;rw[Zy (ms:=ms) hf hF hU c.dY,Zy (ms:=ms) hf hF hU c.eH];by_cases e:dW (iA ms (a':Int) g6.ag.length c.dY) (iA ms (a':Int) g6.ag.length c.eH)=0
  ·rw[aG e,uE e,aG (te _)];rfl
  ·rw[aC e];rfl
 unfold ky;rw[w1,w2];have e:((net.filter λc=>iL (c.av=eu ms (a':Int))).filterMap (uM ms (a':Int) g6.ag.length)).filter (λc=>iL (c.av=(a':Int)))=(net.filter λc=>iL (c.av=eu ms (a':Int))).filterMap (uM ms (a':Int) g6.ag.length):=yy.2 λc hc=>by
  obtain ⟨d,_,hd⟩:=GZ.1 hc;rw[(yl hd).1];simp
 rw[e,List.filterMap_filterMap];exact bF (λf=>List.filterMap f _) (funext one)
def filter_flatMap {a':Nat} {x:cr->Bool} {f:Nat->bu} {l:List Nat} (hn:l.Nodup) (hm:a'∈l) (h1:∀q∈l,q≠a'->(f q).filter x= []) (h2:(f a').filter x=f a'):(l.flatMap f).filter x=f a':=by
 induction l with
 |nil=>cases hm
 |cons q l ih=>
  rw[sn,C2];obtain ⟨n1,n2⟩:=pj.1 hn;by_cases e:q=a'
  ·subst e;have:(l.flatMap f).filter x= []:=su.2 λc hc=>by
    obtain ⟨p,hp,hcp⟩:=ur.1 hc;have:=h1 p (dQ _ hp) λe=>n1 (e ▸ hp)
    exact (su.1 this) c hcp
   rw[h2,this,r4]
  ·rw[h1 q (by simp) e,jy]
   exact ih n2 ((da.1 hm).resolve_left λh=>e h.symm) λp hp=>h1 p (dQ _ hp)
def CJ {J f8:Type} {f g:J->List f8}:∀{l:List J},(∀a∈l,f a=g a)->l.flatMap f=l.flatMap g
 | [],_=>rfl
 |a::l,h=>by rw[sn,sn,h a (by simp),CJ λb hb=>h b (dQ _ hb)]
def Zg {ms:bX} {net:bu} {a:Nat} {T:ai} (hw:eu ms (a:Int)= -1) (hn:∀c∈net,0<=c.av):ky ms net a T= []:=by
 unfold ky;have:(net.filter λc=>iL (c.av=eu ms (a:Int)))= []:=su.2 λc hc=>by
  have:=hn c hc;rw[hw];simp;omega
 rw[this];rfl
def aqM (kH:kS u m t') (D7:fL t'=0) (hn:∀c∈net,0<=c.av):og (m::ms) u net=og [m] u (og ms t' net):=by
 unfold og;refine CJ λa ha=> ?_
 have uY:a<u.ah.length:=by simpa using ha
 have hT:u.ah[a]? =V u.ah[a]:=cZ uY;rw[hT];show ky (m::ms) net a u.ah[a]=ky [m] (og ms t' net) a u.ah[a];have bY:∀(q:Nat) c,c∈((t'.ah[q]?).map (ky ms net q)).getD []->c.av=(q:Int):=λq c hc=>by
  cases hq:t'.ah[q]? with
  |none=>rw[hq] at hc;simp at hc
  |some ex=>
   rw[hq] at hc;obtain ⟨d,_,hd⟩:=GZ.1 (show c∈ky ms net q ex from hc);rw[(yl hd).1]
 rcases kH.agF hT with ⟨h7,hh⟩|⟨hn7,a',g6,f1,f2,f3⟩
 ·have e:jV m (a:Int)= -1:=by simp[jV,h7,hh]
  have w1:eu (m::ms) (a:Int)= -1:=by simp[eu,e]
  have w2:eu [m] (a:Int)= -1:=by simp[eu,e]
  rw[Zg w1 hn,Zg w2];intro c hc;obtain ⟨q,_,hq⟩:=ur.1 (show c∈(aa1 t'.ah.length).flatMap _ from hc);rw[bY q c hq];omega
 ·have hU:=(SG.of D7).bY g6 (bQ f2);have h1:=hU.uL;have h2:=hU.jF;have dq:¬(jV m (a:Int)<0):=by omega
  have w2:eu [m] (a:Int)=(a':Int):=by simp only[eu];rw[aC dq,f1]
  have ha':=(bO.1 f2).1;rw[atW f1 f3 (by omega)]
  unfold ky;rw[w2];refine bF _ ?_;show (ky ms net a' g6).filter _=(og ms t' net).filter _;have key:=filter_flatMap (a':=a') (x:=λc:cr=>iL (c.av=(a':Int))) (f:=λq=>((t'.ah[q]?).map (ky ms net q)).getD []) (l:=aa1 t'.ah.length) Wb (by simpa using ha') (λq _ cQ=>su.2 λc hc=>by
   rw[bY q c hc];simp;omega) (yy.2 λc hc=>by rw[bY a' c hc];simp)
  rw[f2] at key;unfold og;rw[key];exact yy.2 λc hc=>by
   rw[bY a' c (by rw[f2];exact hc)];simp
end
end
section
def D0:bt:=((C.ah[E.av.toNat]?).map λT=>pG T E).getD []
def jQ:Int:=if E.av=F.av then dW (D0 C E) (D0 C F) else E.av-F.av
section
variable {N:ae} {md:Int} {n:Nat}
def nT {c:cr} {w:Nat} {T:ai} (hw:c.av=(w:Int)) (hT:N.ah[w]? =V T):D0 N c=pG T c:=by
 unfold D0;rw[hw,show ((w:Int)).toNat=w by simp,hT];rfl
def QQ (hN:qI N) {c:cr} {w:Nat} {T:ai} (hT:N.ah[w]? =V T):(pG T c).length<=8:=by
 have ht:km T:=hN.bY (w:Int) T (by rw[bB];exact hT)
 have h1:=ht.jF;have h2:=ht.cols;unfold pG fC;rw[dz];omega
def aUl (hN:qI N) {c d:cr} (hc:gg md N c) (hd:gg md N d) (hn:100<n):F90 n c d N=V (jQ N c d,N):=by
 obtain ⟨w,T,hw,hT,_⟩:=id hc;obtain ⟨w',T',sQ,j6,_⟩:=id hd;have hl:=hN.len;have hwl:=(bO.1 hT).1;have hwl':=(bO.1 j6).1;unfold F90 asP jQ;by_cases e:c.av=d.av
 ·have K0:w'=w:=by omega
  rw[K0] at sQ;have h1:=Pz (n:=n) hN hw hT hc;have h2:=Pz (n:=n) hN sQ hT hd;have cQ:(c.av !=d.av)=I:=by simp[e]
  have l1:=QQ (c:=c) hN hT;simp only[cQ,ax,au,h1,h2,ak,M4 n (pG T c) (pG T d) (by omega) (by omega)]
  rw[aG e,nT hw hT,nT sQ hT]
 ·have cQ:(c.av !=d.av)=M:=by simp[e]
  simp only[cQ,aw];rw[aC e,cU (by omega) (by omega)]
def nq (N:ae) (x:cr):bu->bu
 | []=> [x]
 |y::l=>if jQ N x y<0 then y::nq N x l else x::y::l
def r9:bu:=A.foldl (λacc x=>(nq C x acc.reverse).reverse) []
def QR (x:cr):∀l:bu,(nq N x l).length=l.length+1
 | []=>rfl
 |y::l=>by
  unfold nq;split
  ·rw[iu,QR x l];rfl
  ·rfl
def ahO (hN:qI N) (k:Int->Int->Int->bu->ae->Z (bu×ae)) (b2 i8:Int) (x:cr) (hx:gg md N x):∀(p q:bu) (m:Nat),(∀c∈p,gg md N c)->p.length+200<m->p.length+q.length<=1000->
  Io k m 0 b2 i8 (p.length:Int) (p.reverse++x::q) N=k 0 b2 i8 ((nq N x p).reverse++q) N
 | [],q,m+1,hp,hm,hl=>by
  simp only[Io,UT];simp[nq]
 |y::p,q,m+1,hp,hm,hl=>by
  simp at hm hl;have hq:(0:Int)<(((y::p).length:Nat):Int):=by rw[iu];omega
  have hL:((y::p).reverse++x::q).length=p.length+1+(q.length+1):=by simp;omega
  have hj:(y::p).length<((y::p).reverse++x::q).length:=by rw[hL,iu];omega
  have Mj:p.length<((y::p).reverse++x::q).length:=by rw[hL];omega
  have w:aW ((((y::p).length:Nat):Int)-1)=(p.length:Int):=by rw[iu,cU (by omega) (by omega)];omega
  have e1:((y::p).reverse++x::q)[(y::p).length]? =V x:=by
   rw[nF (by simp)];simp
  have e2:((y::p).reverse++x::q)[p.length]? =V y:=by
   rw[pd (by simp),List.reverse_cons,nF (by simp)];simp
  have ih:=ahO hN k b2 i8 x hx p (y::q) m (λc hc=>hp c (dQ _ hc)) (by omega) (by simp;omega)
  simp only[Io,UT,hq,aO,aw,fI hj,ak,cg,e1,w,fI Mj,e2,aUl hN hx (hp y (by simp)) (by omega:100<m)]
  by_cases hc:jQ N x y<0
  ·have s1:(((y::p).reverse++x::q).set (y::p).length y)=p.reverse++y::y::q:=by
    rw[vW _ _ (by simp)];simp
   have s2:(p.reverse++y::y::q).set p.length x=p.reverse++x::y::q:=by
    rw[vW _ _ (by simp)];simp
   have e3:(p.reverse++y::y::q)[p.length]? =V y:=by rw[nF (by simp)];simp
   simp only[hc,aO,aw];rw[dD _ hj,ak,s1,e3,ak,dD _ (by rw[gy,xO,iu];omega),ak,s2,ih]
   simp[nq,hc]
  ·simp only[hc,aR,ax,au];simp[nq,hc]
 |_,_,0,_,hm,_=>by omega
def JE {x c:cr}:∀{l:bu},c∈nq N x l↔c=x\/c∈l
 | []=>by simp[nq]
 |y::l=>by
  unfold nq;split
  ·rw[da,JE (l:=l),da];constructor
   ·rintro (h|h|h)<;>simp[h]
   ·rintro (h|h|h)<;>simp[h]
  ·rw[da]
def ahN (hN:qI N):∀(q acc:bu) (m:Nat),(∀c∈acc,gg md N c)->(∀c∈q,gg md N c)->q.length+1300<m->acc.length+q.length<=1000->
  BK m 0 ((acc.length+q.length:Nat):Int) (acc.length:Int) (acc++q) N=V (q.foldl (λacc x=>(nq N x acc.reverse).reverse) acc,N)
 | [],acc,m+1,h1,h2,hm,hl=>by
  simp[BK,Nn]
 |x::q,acc,m+1,h1,h2,hm,hl=>by
  simp at hm hl;have hq:(acc.length:Int)<((acc.length+(x::q).length:Nat):Int):=by rw[iu];omega
  have h:=ahO (md:=md) hN (US (BK m) m) ((acc.length+(x::q).length:Nat):Int) (acc.length:Int) x (h2 x (by simp)) acc.reverse q m (λc hc=>h1 c (by simpa using hc)) (by rw[xO];omega) (by rw[xO];omega)
  rw[xO,List.reverse_reverse] at h;simp only[BK,Nn,hq,aO,aw];rw[h];unfold US;have rA:((nq N x acc.reverse).reverse).length=acc.length+1:=by rw[xO,QR,xO]
  have w:aW ((acc.length:Int)+1)=((((nq N x acc.reverse).reverse).length:Nat):Int):=by rw[cU (by omega) (by omega),rA];omega
  rw[w];have ih:=ahN hN q (nq N x acc.reverse).reverse m (λc hc=>by
   rcases JE.1 (VW.1 hc) with e|e
   ·rw[e];exact h2 x (by simp)
   ·exact h1 c (by simpa using e)) (λc hc=>h2 c (dQ _ hc)) (by omega) (by rw[rA];omega)
  rw[rA] at ih ⊢;rw[show acc.length+(x::q).length=acc.length+1+q.length by rw[iu];omega]
  exact ih
 |_,_,0,_,_,hm,_=>by omega
def aOQ (hN:qI N) (l:bu) (hl:l.length<=1000) (hC:∀c∈l,gg md N c) (hn:3000<n):aim n l 0 (l.length:Int) N=V (r9 N l,N):=by
 unfold aim ajt;rw[show aW (0+1)=1 from cU (by omega) (by omega)]
 cases l with
 |nil=>
  obtain ⟨m,rfl⟩:∃m,n=m+1:=⟨n-1,by omega⟩
  simp[BK,Nn,r9]
 |cons x q=>
  simp at hl;have h:=ahN (md:=md) hN q [x] n (λc hc=>hC c (by simp at hc;simp[hc])) (λc hc=>hC c (dQ _ hc)) (by omega) (by simp;omega)
  rw[show (((x::q).length:Nat):Int)=(([x].length+q.length:Nat):Int) by simp;omega]
  exact h
def Zm:∀(q acc:bu),(q.foldl (λacc x=>(nq N x acc.reverse).reverse) acc).length=acc.length+q.length
 | [],acc=>by simp
 |x::q,acc=>by rw[uu,Zm q,xO,QR,xO,iu];omega
def E6:(r9 N A).length=A.length:=by
 unfold r9;rw[Zm];simp
def aGf (hN:qI N) (l:bu) (hl:l.length<20) (hC:∀c∈l,gg md N c) (hn:5000<n):F89 n l N=V (r9 N l,N):=by
 have hs:gU (r9 N l).length l.length=V ():=by unfold gU;rw[aG (E6 l)]
 have h133:asz n l (l.length:Int) N=V (r9 N l,N):=by
  unfold asz ajX;obtain ⟨m,rfl⟩:∃m,n=m+1:=⟨n-1,by omega⟩
  have q1:(l.length:Int)<20:=by omega
  have q2:¬((20:Int)<(l.length:Int)):=by omega
  simp only[TO,aka,q1,aO,dd,ax,au];unfold ajY;rw[aOQ hN l (by omega) hC (by omega),ak,hs,ak]
  simp only[TN,ajZ,q2,aR,ax,au]
 unfold F89 asQ;rw[h133,ak,hs];rfl
def zb:Prop:=A.Pairwise λc d=>0<jQ C d c
def aAx {x:cr}:∀{l:bu},(∀y∈l,0<jQ N x y)->nq N x l=x::l
 | [],_=>rfl
 |y::l,h=>by
  have:=h y (by simp)
  unfold nq;rw[aC (by omega)]
def Zk:∀(q acc:bu),zb N (acc++q)->q.foldl (λacc x=>(nq N x acc.reverse).reverse) acc=acc++q
 | [],acc,_=>by simp
 |x::q,acc,h=>by
  have h1:=NO.1 h;rw[uu,aAx λy hy=>h1.2.2 y (by simpa using hy) x (by simp)]
  have e:(x::acc.reverse).reverse=acc++ [x]:=by simp
  rw[e,Zk q (acc++ [x]) (by rw[j8];exact h),j8]
  rfl
def auQ {l:bu} (h:zb N l):r9 N l=l:=by
 unfold r9;rw[Zk l [] h];rfl
end
end
section
def TQ (h:W.length<=1000):F77 o W=V W:=by
 unfold F77 asZ;rw[dx _ _ (by simp;omega)];simp
section
variable {N:ae} {md:Int} {n:Nat} {ch:bu}
def ayK (hN:qI N) {c d:cr} (hc:gg md N c) (hd:gg md N d) (h:0<jQ N d c) (hn:100<n):F86 n c d N=V (I,N):=by
 obtain ⟨w,T,hw,hT,_⟩:=id hc;obtain ⟨w',T',sQ,j6,_⟩:=id hd;unfold F86 abz;by_cases e:c.av=d.av
 ·have K0:w'=w:=by omega
  rw[K0] at sQ;have h1:=Pz (n:=n) hN hw hT hc;have h2:=Pz (n:=n) hN sQ hT hd;have he:(c.av==d.av)=M:=by simp[e]
  have l1:=QQ (c:=c) hN hT;unfold jQ at h;rw[aG e.symm,nT hw hT,nT sQ hT,xu] at h;have cQ:(dW (pG T c) (pG T d)==0)=I:=by simp;omega
  simp only[he,aw,h1,h2,ak,IL n (pG T c) (pG T d) (by omega) (by omega),cQ]
 ·have he:(c.av==d.av)=I:=by simp[e]
  simp only[he,ax,au]
def gg.lens (hN:qI N) {c:cr} (h:gg md N c):c.dY.length<=8/\c.eH.length<=8:=by
 obtain ⟨w,T,hw,hT,_,h2,h3,_⟩:=h;have ht:km T:=hN.bY (w:Int) T (by rw[bB];exact hT)
 have h8:=ht.cols;constructor
 ·by_cases g:c.dY= []
  ·rw[g];simp
  ·have:=gT (h2 g);omega
 ·by_cases g:c.eH= []
  ·rw[g];simp
  ·have:=gT (h3 g);omega
def anu (hN:qI N) (n0:Nat) (hl:ch.length<=1000) (hC:∀c∈ch,gg md N c/\c.dY≠c.eH) (hO:zb N ch):∀(x:bu) (i m:Nat) (acc:bu),ch.drop i=x->x.length+300<m->acc.length+x.length<=100000->vi (AZ n0) m (-1) (i:Int) ch N acc=V (acc++x,0)
 | [],i,m+1,acc,hd,hm,uY=>by
  have hq:¬((i:Int)<(ch.length:Int)):=by
   have:ch.length<=i:=by simpa using hd
   omega
  simp only[vi,F8,hq,aR,ax,au,AZ];simp
 |c::x,i,m+1,acc,hd,hm,uY=>by
  obtain ⟨g1,g2,g3,hq⟩:=dK hd
  obtain ⟨f1,f2⟩:=hC c (bQ g1);obtain ⟨l1,l2⟩:=f1.lens hN;simp at hm uY;have one:F9 (vi (AZ n0) m) m (-1) ((i+1:Nat):Int) ch N acc c c=V (acc++c::x,0):=by
   have cQ:(dW c.dY c.eH==0)=I:=by
    have:¬dW c.dY c.eH=0:=λe=>f2 (uE e)
    simp[this]
   unfold F9;rw[IL m _ _ (by omega) (by omega),ak,cQ]
   simp only[gq,aw];rw[TQ m _ (by omega),ak,TQ m _ (by omega),ak,dx _ _ (by simp;omega),ak]
   rw[anu hN n0 hl hC hO x (i+1) m _ g2 (by omega) (by simp;omega)]
   simp
  have two:CU (F9 (vi (AZ n0) m) m) m (-1) ((i+1:Nat):Int) ch N acc c c=V (acc++c::x,0):=by
   obtain ⟨m',rfl⟩:∃m',m=m'+1:=⟨m-1,by omega⟩
   by_cases rz:i+1<ch.length
   ·have hq2:((i+1:Nat):Int)<(ch.length:Int):=by omega
    have hg:ch[i+1]? =V ch[i+1]:=cZ rz;have hcmp:0<jQ N ch[i+1] c:=by
     have:=VV.1 hO i (i+1) g3 rz (by omega)
     rw[(bO.1 g1).2] at this;exact this
    simp only[CU,PQ,hq2,aO,aw,fI rz,ak,cg,hg];rw[ayK (n:=m') hN f1 (hC _ (bQ hg)).1 hcmp (by omega),ak]
    simp only[ax,au];exact one
   ·have hq2:¬((i+1:Nat):Int)<(ch.length:Int):=by omega
    simp only[CU,PQ,hq2,aR,ax,au];exact one
  simp only[vi,F8,hq,aO,aw,fI g3,ak,cg,g1,bT g3 (by omega:ch.length<4294967296)]
  exact two
 |_,_,0,_,_,hm,_=>by omega
def aUo (lX:tO md) (hN:qI N) (Fv:IP n N=V 0) (hl:ch.length<20) (hC:∀c∈ch,gg md N c/\c.dY≠c.eH) (hO:zb N ch) (hn:6000<n):F37 n N md ch=V (ch,0):=by
 have hF:=λc hc=>(hC c hc).1
 have hs:gU ch.length ch.length=V ():=by unfold gU;rw[aG rfl]
 unfold F37 ace;rw[asd lX Fv,ak];simp only[ia,ax,au];rw[aGg lX hN ch (by omega) hF (by omega),ak,ayL n ch (by omega),ak]
 have q:iL ((-1:Int)<0)=M:=rfl;simp only[q,dd,ax,au];unfold Ug;rw[aGf hN ch hl hF (by omega),ak,auQ hO]
 simp only[hs,ak];have:=anu hN n (by omega) hC hO ch 0 n [] rfl (by omega) (by simp;omega)
 simpa using this
end
end
section
section
variable {u:ae} {ms:bX} {ts:fU} {net:bu} {md:Int}
def amM (hs:fL u=0) (hm:∀m∈ms,MB m/\(m.bf=8->gF m.ck)) (hc:dA u ms ts) {w:Nat} {T T':ai} (hT:u.ah[q]? =V T) (hw:eu ms (q:Int)=(w:Int)) (j6:((u::ts).getLast (by simp)).ah[w]? =V T') {c:cr} (hC:gg md ((u::ts).getLast (by simp)) c) (hcw:c.av=(w:Int)):
  pG T ⟨(q:Int),iA ms (q:Int) T.ag.length c.dY,iA ms (q:Int) T.ag.length c.eH⟩=pG T' c:=by
 obtain ⟨w',T2,w1,w2,w3,w4,w5,w6⟩:=hC;have:w'=w:=by omega
 rw[this,j6] at w2;cases w2;have Fu:=(SG.of hs).bY T (bQ hT);have k1:=Fu.uL;have k2:=Fu.jF;have h0:0<T.ag.length:=by omega
 have one:∀row,row≠ []->gB md T'.aH 0 (eh T') row=M->fC T (iA ms (q:Int) T.ag.length row)=fC T' row:=λrow cQ hr=>by
  obtain ⟨f1,f2,f3⟩:=DJ hm hs hc hT hw j6 hr;unfold iA;rw[aC cQ];unfold fC;rw[f3,f1]
 unfold pG;by_cases g:c.dY= []
 ·have g2:c.eH≠ []:=w3.resolve_left λh=>h g
  have e:iA ms (q:Int) T.ag.length c.dY= []:=(Dg h0).2 g;simp only[e,g,List.isEmpty_nil,aw];exact one _ g2 (w5 g2)
 ·have e:(iA ms (q:Int) T.ag.length c.dY).isEmpty=I:=by
   cases h:iA ms (q:Int) T.ag.length c.dY with
   |nil=>exact absurd ((Dg h0).1 h) g
   |cons=>rfl
  have e2:c.dY.isEmpty=I:=by simpa using g
  simp only[e,e2,ax,au];exact one _ g (w4 g)
def axL (hs:fL u=0) (hm:∀m∈ms,MB m/\(m.bf=8->gF m.ck)) (hc:dA u ms ts) (hC:∀c∈net,gg md ((u::ts).getLast (by simp)) c) (hO:zb ((u::ts).getLast (by simp)) net):zb u (og ms u net):=by
 have bY:∀(q:Nat) c,c∈((u.ah[q]?).map (ky ms net q)).getD []->c.av=(q:Int):=λq c hc=>by
  cases hq:u.ah[q]? with
  |none=>rw[hq] at hc;simp at hc
  |some ex=>
   rw[hq] at hc;obtain ⟨d,_,hd⟩:=GZ.1 (show c∈ky ms net q ex from hc);rw[(yl hd).1]
 unfold zb og;refine List.pairwise_flatMap.2 ⟨λq hq=> ?_,?_⟩
 ·cases hT:u.ah[q]? with
  |none=>exact ac8
  |some T=>
   show (ky ms net q T).Pairwise _;unfold ky;have hp:(net.filter λc=>iL (c.av=eu ms (q:Int))).Pairwise λc d=>0<jQ ((u::ts).getLast (by simp)) d c:=hO.sublist List.filter_sublist
   have hp2:=hp.imp_of_mem (S:=λc d=>(gg md ((u::ts).getLast (by simp)) c/\c.av=eu ms (q:Int))/\(gg md ((u::ts).getLast (by simp)) d/\d.av=eu ms (q:Int))/\0<jQ ((u::ts).getLast (by simp)) d c) λ{a b} ha hb h=>by
    obtain ⟨a1,a2⟩:=nI.1 ha;obtain ⟨b1,b2⟩:=nI.1 hb;exact ⟨⟨hC a a1,by simpa using a2⟩,⟨hC b b1,by simpa using b2⟩,h⟩
   refine List.Pairwise.filterMap _ (λc d ⟨⟨c1,c2⟩,⟨d1,d2⟩,h⟩ c' nL d' hd'=> ?_) hp2
   obtain ⟨rfl,_⟩:=yl nL;obtain ⟨rfl,_⟩:=yl hd';obtain ⟨w,T',w1,w2,_⟩:=id c1;have e1:=amM hs hm hc hT (by omega:eu ms (q:Int)=(w:Int)) w2 c1 w1
   have e2:=amM hs hm hc hT (by omega:eu ms (q:Int)=(w:Int)) w2 d1 (by omega)
   unfold jQ at h ⊢;rw[aG (by omega),nT (by omega:d.av=(w:Int)) w2,nT w1 w2] at h
   rw[aG rfl,nT rfl hT,nT rfl hT,e1,e2];exact h
 ·refine akU.imp λ{a b} hab c hc d hd=> ?_
  have h1:=bY a c hc;have h2:=bY b d hd;unfold jQ;rw[aC (by omega)]
  omega
end
end
def KX:bu:=A.filter λc=>iL (c.av=(H:Int))
def afw {c:cr} {l:bu} {k:Nat} (hk:c.av=(k:Int)):∀{L:List Nat},L.Pairwise (· < ·)->k∈L->(∀a∈L,a<k->KX l a= [])->L.flatMap (KX (c::l))=c::L.flatMap (KX l)
 | [],_,h,_=>by cases h
 |a::L,hp,h,h0=>by
  obtain ⟨p1,p2⟩:=nK.1 hp;have ne:∀b:Nat,b≠k->KX (c::l) b=KX l b:=λb hb=>by
   unfold KX;rw[jc,aC (by rw[jA];omega)]
  rw[sn,sn];by_cases e:a=k
  ·subst e;have e1:KX (c::l) a=c::KX l a:=by
    unfold KX;rw[jc,aG (by rw[jA];exact hk)]
   rw[e1,CJ λb hb=>ne b (by have:=p1 b hb;omega)]
   rfl
  ·have jO:k∈L:=(da.1 h).resolve_left λh=>e h.symm
   rw[ne a e,h0 a (by simp) (p1 k jO),afw hk p2 jO λb hb=>h0 b (dQ _ hb)]
   rfl
def ams {n:Nat}:∀{l:bu},(∀c∈l,∃k:Nat,c.av=(k:Int)/\k<n)->l.Pairwise (λc d=>c.av<=d.av)->(aa1 n).flatMap (KX l)=l
 | [],_,_=>by
  have:∀L:List Nat,L.flatMap (KX [])= []:=λL=>by
   induction L with
   |nil=>rfl
   |cons a L ih=>rw[sn,ih];rfl
  exact this _
 |c::l,h,hp=>by
  obtain ⟨k,hk,hkn⟩:=h c (by simp)
  obtain ⟨p1,p2⟩:=nK.1 hp;rw[afw hk akU (by simpa using hkn) λa _ hak=>su.2 λd hd=>by
   have:=p1 d hd;simp;omega]
  rw[ams (λd hd=>h d (dQ _ hd)) p2]
def ZH {N:ae} {md:Int} {net:bu} (hC:∀c∈net,gg md N c/\c.dY≠c.eH) (hO:zb N net):og [] N net=net:=by
 have h1:∀c∈net,∃k:Nat,c.av=(k:Int)/\k<N.ah.length:=λc hc=>by
  obtain ⟨w,T,w1,w2,_⟩:=(hC c hc).1;exact ⟨w,w1,(bO.1 w2).1⟩
 have h2:net.Pairwise λc d=>c.av<=d.av:=hO.imp λ{c d} h=>by
  unfold jQ at h;split at h
  ·omega
  ·omega
 refine G0 ?_ (ams h1 h2);unfold og;refine CJ λa ha=> ?_
 have uY:a<N.ah.length:=by simpa using ha
 have hT:N.ah[a]? =V N.ah[a]:=cZ uY;rw[hT];show (net.filter λc=>iL (c.av=(a:Int))).filterMap _=KX net a
 have:∀c∈net.filter (λc=>iL (c.av=(a:Int))),uM [] (a:Int) N.ah[a].ag.length c=V c:=λc hc=>by
  obtain ⟨c1,c2⟩:=nI.1 hc;have c2:c.av=(a:Int):=by simpa using c2
  obtain ⟨⟨w,T,w1,w2,w3,w4,w5,w6⟩,cQ⟩:=hC c c1;have:w=a:=by omega
  rw[this,hT] at w2;cases w2;have one:∀row,(row≠ []->gB md N.ah[a].aH 0 (eh N.ah[a]) row=M)->iA [] (a:Int) N.ah[a].ag.length row=row:=λrow hr=>by
   unfold iA;split
   ·rename_i e;exact e.symm
   ·rename_i e;rw[<-gT (hr e)];exact aeR
  unfold uM;rw[one _ w4,one _ w5,aC λe=>cQ (uE e),<-c2]
 have key:∀l:bu,(∀c∈l,uM [] (a:Int) N.ah[a].ag.length c=V c)->l.filterMap (uM [] (a:Int) N.ah[a].ag.length)=l:=λl=>by
  induction l with
  |nil=>intro _;rfl
  |cons c l ih=>
   intro h;rw[VX,h c (by simp)]
   exact bF (c:: ·) (ih λd hd=>h d (dQ _ hd))
 exact key _ this
section
def aIb {xs:List J} {x:J} (h:xs[i]? =V x):cut xs (V (i:Int)) (V ((i+1:Nat):Int))=V [x]:=by
 obtain ⟨h1,h2⟩:=bO.1 h;have e:(xs.take (i+1)).drop i= [x]:=by
  rw[pU,h,V4 (by rw[dz];omega),p7 (by rw[dz];omega)];rfl
 unfold cut;simp[e];omega
section
variable {n:Nat} {s v:ae} {ms:bX} {ts:fU} {k:Nat} {st:iM} {net:bu} {md:Int}
def dA.at (hs:fL s=0) (hc:dA s ms ts) (hi:i<ms.length):∃u u' m,(s::ts)[i]? =V u/\(s::ts)[i+1]? =V u'/\ms[i]? =V m/\ms.drop i=m::ms.drop (i+1)/\kS u m u'/\fL u=0/\fL u'=0/\qp m=M/\dA u' (ms.drop (i+1)) (ts.drop (i+1))/\(u'::ts.drop (i+1)).getLast (by simp)=(s::ts).getLast (by simp):=by
 have hlen:=hc.len;obtain ⟨u,e1,e2,e3,e4,e5⟩:=dA.drop (k:=i) hs hc (by omega)
 obtain ⟨u',g1,g2,g3,g4,g5⟩:=dA.drop (k:=i+1) hs hc (by omega)
 have hm:ms[i]? =V ms[i]:=cZ hi;have d1:ms.drop i=ms[i]::ms.drop (i+1):=sr hi;have d2:ts.drop i=u'::ts.drop (i+1):=by
  have:ts[i]? =V u':=by simpa using g1
  obtain ⟨h1,h2⟩:=bO.1 this;rw[sr h1,h2]
 rw[d1,d2] at e3;obtain ⟨b1,b2,b3,b4⟩:=e3;exact ⟨u,u',ms[i],e1,g1,hm,d1,b2,e4,b3,b1,b4,g5⟩
end
end
def aBi {m:aE} {a b:Int} (h:jV m a=jV m b) (h0:0<=jV m a):a=b:=by
 unfold jV at h h0;split at h
 ·split at h
  ·rename_i h7 e;rw[aG h7,aG e] at h0;omega
  ·rename_i h7 e;rw[aG h7,aC e] at h0;by_cases q:m.av<a
   ·rw[aG q] at h h0;split at h
    ·omega
    ·split at h<;>omega
   ·rw[aC q] at h h0;split at h
    ·omega
    ·split at h<;>omega
 ·exact h
def acP:∀{ms:bX} {a b:Int},eu ms a=eu ms b->0<=eu ms a->a=b
 | [],_,_,h,_=>h
 |m::ms,a,b,h,h0=>by
  simp only[eu] at h h0;split at h
  ·rename_i e;rw[aG e] at h0;omega
  ·rename_i e;rw[aC e] at h0;split at h
   ·omega
   ·exact aBi (acP h h0) (by omega)
def amT {f g:Nat->bu}:∀{L:List Nat},(∀a∈L,(f a).length=(g a).length)->(L.flatMap f).length=(L.flatMap g).length
 | [],_=>rfl
 |a::L,h=>by
  rw[sn,sn,gy,gy,h a (by simp),amT λb hb=>h b (dQ _ hb)]
def amS {f g:Nat->bu} {P:Nat->Prop}:∀{L:List Nat},L.Nodup->(∀a∈L,¬P a->(f a).length=(g a).length)->(∀a∈L,(f a).length<=(g a).length+1)->(∀a∈L,∀b∈L,P a->P b->a=b)->(L.flatMap f).length<=(L.flatMap g).length+1
 | [],_,_,_,_=>by simp
 |a::L,hn,h1,h2,h3=>by
  obtain ⟨n1,n2⟩:=pj.1 hn;rw[sn,sn,gy,gy];by_cases hP:P a
  ·have e:=amT (f:=f) (g:=g) (L:=L) λb hb=>h1 b (dQ _ hb) λnp=>n1 (by rw[h3 a (by simp) b (dQ _ hb) hP np];exact hb)
   have:=h2 a (by simp)
   omega
  ·have e:=h1 a (by simp) hP
   have:=amS (f:=f) (g:=g) (P:=P) n2 (λb hb=>h1 b (dQ _ hb)) (λb hb=>h2 b (dQ _ hb)) λb hb c hc=>h3 b (dQ _ hb) c (dQ _ hc)
   omega
def MG {ms:bX} {u:ae}:∀{net:bu},(∀c∈net,0<=c.av)->(og ms u net).length<=net.length
 | [],_=>by
  have:og ms u []= []:=List.flatMap_eq_nil_iff.2 λa _=>by
   cases u.ah[a]? <;>rfl
  rw[this];simp
 |c::net,h=>by
  have ih:=MG (ms:=ms) (u:=u) (net:=net) λd hd=>h d (dQ _ hd)
  have hc:=h c (by simp)
  unfold og at ih ⊢;refine kY (amS (g:=λq=>((u.ah[q]?).map (ky ms net q)).getD []) (P:=λq=>c.av=eu ms (q:Int)) Wb (λa _ hP=> ?_) (λa _=> ?_) λa _ b _ ha hb=> ?_) (by rw[iu];omega)
  ·cases u.ah[a]? with
   |none=>rfl
   |some T=>
    show (ky ms (c::net) a T).length=(ky ms net a T).length;unfold ky;rw[jc,aC (by rw[jA];exact hP)]
  ·cases u.ah[a]? with
   |none=>simp
   |some T=>
    show (ky ms (c::net) a T).length<=(ky ms net a T).length+1;unfold ky;rw[jc];split
    ·rw[VX];split<;>simp
    ·omega
  ·have:=acP (ha.symm.trans hb) (by rw[<-ha];exact hc)
   omega
section
section
variable {s v:ae} {ms:bX} {ts:fU} {k:Nat} {st:iM} {net ch:bu} {md:Int}
def aio {n:Nat} {u:ae} (hu:fL u=0) (hn:2000000<n) (fw:n<4294967296):IP n u=V 0:=by
 have h:=TT n u (λT hT=>((SG.of hu).bY T hT).xX) (by omega) fw
 rw[hu] at h;exact h
def anJ (lX:tO md) (hs:fL s=0) (hm:∀m∈ms,MB m/\(m.bf=8->gF m.ck)) (hl:ms.length<=8) (hv:s.ay+(ms.length:Int)<=1000) (hc:dA s ms ts) (kH:vQ md ((s::ts).getLast (by simp)) st) (hC:∀c∈net,gg md ((s::ts).getLast (by simp)) c/\c.dY≠c.eH) (hO:zb ((s::ts).getLast (by simp)) net) (Bv:net.length<20) (wY:(s::ts)[k]? =V v)
  (K:bX->Int->Int->bu->bu->ae->fU->aF->aF->Z Bool):
  ∀(d m:Nat) (u:ae),k+d<=ms.length->(s::ts)[k+d]? =V u->d+3200000<m->m<4294967296->
  Py K m ms (k:Int) md ch (og (ms.drop (k+d)) u net) (((k+d:Nat):Int)-1) s (s::ts) ⟨st⟩ ⟨nA (ms.drop (k+d)) u st⟩=K ms (k:Int) md ch (og (ms.drop k) v net) s (s::ts) ⟨st⟩ ⟨nA (ms.drop k) v st⟩
 |0,m+1,u,yj,hu,hn,fw=>by
  have hq:((k+0:Nat):Int)-1<(k:Int):=by omega
  simp only[Py,acF,hq,aO,dd,ax,au];rw[nH] at hu ⊢;rw[wY] at hu;cases hu;rfl
 |d+1,m+1,u,yj,hu,hn,fw=>by
  obtain ⟨ui,u',mi,a1,a2,a3,a4,a5,a6,a7,a8,a9,FV⟩:=dA.at (i:=k+d) hs hc (by omega)
  have hu2:(s::ts)[k+d+1]? =V u:=hu;rw[hu2] at a2;cases a2;have hlen:=hc.len;have ei:(((k+(d+1):Nat):Int)-1)=((k+d:Nat):Int):=by omega
  have hq:¬(((k+d:Nat):Int)<(k:Int)):=by omega
  have rA:k+d<(s::ts).length:=by rw[iu];omega
  have Yr:=hc.ver (k+d) ui a1;have hv0:=(SG.of hs).v0;have w1:aW (((k+d:Nat):Int)+1)=((k+d+1:Nat):Int):=by rw[cU (by omega) (by omega)];omega
  have w2:aW (((k+d:Nat):Int)-1)=((k+d:Nat):Int)-1:=cU (by omega) (by omega)
  have hmi:∀q∈ [mi],MB q/\(q.bf=8->gF q.ck):=λq hq=>by rw[gL.1 hq];exact hm mi (bQ a3)
  have hm2:∀q∈ms.drop (k+d+1),MB q/\(q.bf=8->gF q.ck):=λq hq=>hm q (nG hq)
  have qE:dA ui [mi] [u]:=⟨a8,a5,a7,trivial⟩;rw[<-FV] at kH hC hO;have hst2:vQ md u (nA (ms.drop (k+d+1)) u st):=ZG a7 hm2 a9 kH;have Ee:=ZI a7 hm2 a9 λc hc=>(hC c hc).1
  have hord:=axL a7 hm2 a9 (λc hc=>(hC c hc).1) hO
  have Ai:∀c∈net,0<=c.av:=λc hc=>by
   obtain ⟨w,_,hw,_⟩:=(hC c hc).1;omega
  have rB:=MG (ms:=ms.drop (k+d+1)) (u:=u) Ai;have h21:=asf (n:=m) (s:=ui) (u:=ui) (ms:= [mi]) (ts:= [u]) (k:=0) lX (by omega) (by omega) a6 hmi (by simp) (by rw[Yr];simp;omega) qE (by simp) rfl (st:=nA (ms.drop (k+d+1)) u st) hst2
  have h37:=aUo (n:=m) lX (vq a7) (aio a7 (by omega) (by omega)) (by omega:(og (ms.drop (k+d+1)) u net).length<20) Ee hord (by omega)
  have h34:=ase (n:=m) (s:=ui) (u:=ui) (ms:= [mi]) (ts:= [u]) (k:=0) (by omega) (by omega) a6 hmi (by simp) (by rw[Yr];simp;omega) qE (by simp) rfl h37 (λc hc=>(Ee c hc).1) (by omega)
  have z0:ui.ay+((0:Nat):Int)=ui.ay:=by simp
  rw[z0,ph] at h21 h34;rw[<-aqL a5 a7,<-a4] at h21;rw[<-aqM a5 a7 Ai,<-a4] at h34;have ih:=anJ lX hs hm hl hv hc (by rw[<-FV];exact kH) (by rw[<-FV];exact hC) (by rw[<-FV];exact hO) Bv wY K d m ui (by omega) a1 (by omega) (by omega)
  rw[ei,show k+(d+1)=k+d+1 by omega]
  simp only[Py,acF,hq,aR,gq,aw,fI rA,ak,cg,a1,w1,aIb a3,h21,h34,ia,ax,au,w2];exact ih
 |_,0,_,_,_,hn,_=>by omega
end
end
section
section
variable {n:Nat} {s v:ae} {ms:bX} {ts:fU} {k:Nat} {st:iM} {net ch:bu} {md:Int}
def vQ.same {N:ae} (hN:qI N) (h:vQ md N st) (hn:5000<n):F23 n ⟨st⟩ ⟨st⟩=V M:=by
 have hl:=h.len;have h8:=hN.len;refine aCj n st (by omega) (λrows hr=> ?_) hn
 obtain ⟨t,ht⟩:=V0 hr;have HJ:=(bO.1 ht).1;have hT:N.ah[t]? =V (N.ah[t]'(by omega)):=cZ (by omega)
 obtain ⟨r1,r2⟩:=h.row t _ rows hT ht;have hk:=(hN.bY (t:Int) _ (by rw[bB];exact hT)).cols
 exact ⟨by omega,λr hr=>by have:=gT (r2 r hr);omega⟩
def gg.same {N:ae} (hN:qI N) (h:∀c∈net,gg md N c) (hl:net.length<=1000) (hn:2000<n):F36 n net net=V M:=
 aCi n net hl (λc hc=>by have:=(h c hc).lens hN;omega) hn
def aIW (hbg:F17 n=V M) (lX:tO md) (hn:3000000<n) (fw:n<4294967296) (hs:fL s=0) (hm:∀m∈ms,MB m/\(m.bf=8->gF m.ck)) (hl:ms.length<=8) (hv:s.ay+(ms.length:Int)<=1000) (hc:dA s ms ts) (hk:k<=ts.length) (wY:(s::ts)[k]? =V v) (kH:vQ md ((s::ts).getLast (by simp)) st) (hC:∀c∈net,gg md ((s::ts).getLast (by simp)) c/\c.dY≠c.eH) (Bv:net.length<20) (aAS:F37 n ((s::ts).getLast (by simp)) md ch=V (net,0)):
  VH n ms (k:Int) md ch (og (ms.drop k) v net) s (s::ts) ⟨st⟩ ⟨nA (ms.drop k) v st⟩=V M:=by
 have hkl:k<(s::ts).length:=by simp;omega
 have Yr:=hc.ver k v wY;obtain ⟨u',e1,e2,e3,e4,e5⟩:=dA.drop hs hc hk;rw[wY] at e1;have e1:=kR e1;rw[<-e1] at e2 e3 e4;have e5:(v::ts.drop k).getLast (by simp)=(s::ts).getLast (by simp):=by
  rw[<-e5];congr 1;rw[e1]
 have h21:=asf (n:=n) lX hn fw hs hm hl hv hc hk wY kH;have h34:=ase (n:=n) hn fw hs hm hl hv hc hk wY aAS (λc hc=>(hC c hc).1) (by omega)
 have hm2:∀q∈ms.drop k,MB q/\(q.bf=8->gF q.ck):=λq hq=>hm q (nG hq)
 have Ai:∀c∈net,0<=c.av:=λc hc=>by
  obtain ⟨w,_,hw,_⟩:=(hC c hc).1;omega
 have rB:=MG (ms:=ms.drop k) (u:=v) Ai;rw[<-e5] at kH hC;have h23:=vQ.same (n:=n) (vq e4) (ZG e4 hm2 e3 kH) (by omega)
 have h36:=gg.same (n:=n) (vq e4) (λc hc=>(ZI e4 hm2 e3 (λc hc=>(hC c hc).1) c hc).1) (by omega) (by omega)
 rw[<-Yr] at h21 h34;unfold VH;simp only[fI hkl,ak,cg,wY,h21,h34,h23,h36,iz,aw];rw[hbg];rfl
end
end
def ant {R:Z aF} (k:iM->Int->Int->aF->aF->bK->iM->Z aF) (t10:iM) (t11 t12:Int) (rows:bK) (hl:rows.length<=1000) (hr:∀r∈rows,r.length<=100) (cS:iM) (hk:k t10 t11 t12 ⟨[]⟩ ⟨cS⟩ rows cS=R):∀(x:bK) (i m:Nat) (acc:bK),rows.drop i=x->acc=rows.take i->x.length+200<m->Pd k m t10 t11 t12 rows (rows.length:Int) (i:Int) ⟨[]⟩ ⟨cS⟩ acc cS=R
 | [],i,m+1,acc,hd,ha,hm=>by
  obtain ⟨hi,hq⟩:=eA hd
  simp only[Pd,abF,hq,aR,ax,au];rw[ha,jz hi];exact hk
 |r::x,i,m+1,acc,hd,ha,hm=>by
  obtain ⟨g1,g2,g3,hq⟩:=dK hd
  have h1:=hr r (bQ g1);simp at hm;have uY:acc.length=i:=by rw[ha,dz];omega
  simp only[Pd,abF,hq,aO,aw,bB,g1,ak,IQ (n:=m) r (by omega),bT g3 (by omega:rows.length<4294967296)]
  rw[dx _ _ (by simp;omega),ak]
  refine ant k t10 t11 t12 rows hl hr cS hk x (i+1) m _ g2 ?_ (by omega)
  rw[ha,pU,g1];rfl
 |_,_,0,_,_,_,hm=>by omega
def ans (n0:Nat) (ts:iM) (hl:ts.length<=1000) (hr:∀rows∈ts,rows.length<=1000/\∀r∈rows,r.length<=100):∀(x:iM) (i m:Nat) (acc:iM),ts.drop i=x->acc=ts.take i->x.length+1300<m->Ki (T3 n0) m ts (ts.length:Int) (i:Int) ⟨[]⟩ ⟨acc⟩ acc=V ⟨ts⟩
 | [],i,m+1,acc,hd,ha,hm=>by
  obtain ⟨hi,hq⟩:=eA hd
  simp only[Ki,abD,T3,hq,aR,ax,au];rw[ha,jz hi]
 |r::x,i,m+1,acc,hd,ha,hm=>by
  obtain ⟨g1,g2,g3,hq⟩:=dK hd
  obtain ⟨h1,h2⟩:=hr r (bQ g1);simp at hm;have uY:acc.length=i:=by rw[ha,dz];omega
  simp only[Ki,abD,hq,aO,aw,bB,g1,ak];refine ant (abE (Ki (T3 n0) m) m) ts (ts.length:Int) (i:Int) r h1 h2 acc ?_ r 0 m [] rfl rfl (by omega)
  unfold abE;rw[dx _ _ (by simp;omega),ak,bT g3 (by omega:ts.length<4294967296)]
  refine ans n0 ts hl hr x (i+1) m _ g2 ?_ (by omega)
  rw[ha,pU,g1];rfl
 |_,_,0,_,_,_,hm=>by omega
def aOD (hl:f9.length<=1000) (hr:∀rows∈f9,rows.length<=1000/\∀r∈rows,r.length<=100) (hn:3000<o):F80 o ⟨f9⟩=V ⟨f9⟩:=
 ans o f9 hl hr f9 0 o [] rfl rfl (by omega)
section
def xm (T:ai) (k:bt) (rows:bK) (r:bt):Prop:=(r∈rows/\r≠ []/\fC T r=k)\/(r= []/\∀y∈rows,fC T y≠k)
section
variable {T:ai} {k k':bt} {rows:bK} {r r':bt}
def xm.one (hO:Ord T rows) (h:xm T k rows r) (h':xm T k rows r'):r=r':=by
 rcases h with ⟨h1,h2,h3⟩|⟨h1,h2⟩<;>rcases h' with ⟨g1,g2,g3⟩|⟨g1,g2⟩
 ·obtain ⟨i,hi,rfl⟩:=GW h1;obtain ⟨j,hj,rfl⟩:=GW g1;rcases Nat.lt_trichotomy i j with h|h|h
  ·have:=VV.1 hO i j hi hj h;rw[h3,g3] at this;exact absurd this (lt_irrefl _)
  ·subst h;rfl
  ·have:=VV.1 hO j i hj hi h;rw[h3,g3] at this;exact absurd this (lt_irrefl _)
 ·exact absurd h3 (g2 r h1)
 ·exact absurd g3 (h2 r' g1)
 ·rw[h1,g1]
def xm.put (hr:r≠ []->fC T r=k):xm T k (tw T k (rL r) rows) r:=by
 by_cases h:r= []
 ·refine .inr ⟨h,λy hy=> ?_⟩
  rcases Ab.1 hy with h1|h1
  ·exact h1.2
  ·rw[h] at h1;simp[rL] at h1
 ·exact .inl ⟨Ab.2 (.inr (by simp[rL,h])),h,hr h⟩
def xm.other (cQ:k'≠k) (hr:r≠ []->fC T r=k) (h:xm T k' rows r'):xm T k' (tw T k (rL r) rows) r':=by
 rcases h with ⟨h1,h2,h3⟩|⟨h1,h2⟩
 ·exact .inl ⟨Ab.2 (.inl ⟨h1,λe=>cQ (h3.symm.trans e)⟩),h2,h3⟩
 ·refine .inr ⟨h1,λy hy=> ?_⟩
  rcases Ab.1 hy with g|g
  ·exact h2 y g.1
  ·unfold rL at g;split at g
   ·simp at g
   ·rename_i h0;rw[gL.1 g,hr h0];exact λe=>cQ e.symm
end
section
variable {s:ae} {t:Nat} {T:ai} {key:bt} {rows:bK}
def ayE (n0:Nat) (hT:s.ah[t]? =V T) (ht:km T) (ts:iM) (hr:∀r∈rows,r.length=T.ag.length) (yP:rows.length<=1000):∀(x:bK) (i m:Nat),rows.drop i=x->x.length+1100<m->
  ∃z:Int,IF (VD n0) m (t:Int) key rows (rows.length:Int) (i:Int) ts s=V (z,ts)/\((z= -1/\∀y∈x,fC T y≠key)\/∃(j:Nat) (r:bt),z=(j:Int)/\rows[j]? =V r/\fC T r=key)
 | [],i,m+1,hd,hm=>by
  obtain ⟨hi,hq⟩:=eA hd
  refine ⟨-1,?_,.inl ⟨rfl,by simp⟩⟩
  simp only[IF,VE,VD,hq,aR,ax,au]
 |r::x,i,m+1,hd,hm=>by
  obtain ⟨g1,g2,g3,hq⟩:=dK hd
  have qD:=hr r (bQ g1);have eY:=ht.cols;simp at hm;have xa:idx s.ah (t:Int)=V T:=by rw[bB];exact hT
  simp only[IF,VE,hq,aO,aw,bB,g1,ak,M5 (n:=m) xa ht r qD,M6 m (r.take T.aH.toNat) key (by simp;omega) (by simp;omega),bT g3 (by omega:rows.length<4294967296)]
  by_cases h:dW (fC T r) key=0
  ·refine ⟨i,?_,.inr ⟨i,r,rfl,g1,uE h⟩⟩;simp[h]
  ·obtain ⟨z,h1,h2⟩:=ayE n0 hT ht ts hr yP x (i+1) m g2 (by omega)
   have hb:(dW (fC T r) key==0)=I:=by simpa using h
   refine ⟨z,?_,?_⟩
   ·rw[hb];simpa using h1
   ·rcases h2 with ⟨h2,h3⟩|h2
    ·refine .inl ⟨h2,λy hy=> ?_⟩
     rcases da.1 hy with rfl|hy
     ·exact λe=>h (uD.2 e)
     ·exact h3 y hy
    ·exact .inr h2
 |_,_,0,_,hm=>by omega
def aUm (hT:s.ah[t]? =V T) (ht:km T) (ts:iM) (j4:ts[t]? =V rows) (hr:∀r∈rows,r.length=T.ag.length) (yP:rows.length<=1000) (hn:3000<o):
  ∃r b,F71 o s ⟨ts⟩ (t:Int) key=V (r,b,ts)/\xm T key rows r:=by
 have HJ:=(bO.1 hT).1;have htt:=(bO.1 j4).1;have q1:¬((t:Int)<0):=by omega
 have q2:(t:Int)<(s.ah.length:Int):=by omega
 have q3:(t:Int)<(ts.length:Int):=by omega
 have eY:=ht.cols;obtain ⟨z,h1,h2⟩:=ayE (key:=key) o hT ht ts hr yP rows 0 o rfl (by omega)
 have e:asA o s ⟨ts⟩ (t:Int) key=V (z,ts):=by
  unfold asA akb;simp only[q1,q2,q3,aO,aR,dd,ax,au,fI htt,ak,cg,j4];exact h1
 have hs:gU ts.length ts.length=V ():=by unfold gU;rw[aG rfl]
 unfold F71 atc;simp only[e,ak,hs];rcases h2 with ⟨rfl,h2⟩|⟨j,r,rfl,h2,h3⟩
 ·exact ⟨[],I,by simp,.inr ⟨rfl,h2⟩⟩
 ·have hm:=bQ h2;have hl:=hr r hm;have k1:=ht.uL;have k2:=ht.jF;refine ⟨r,M,?_,.inl ⟨hm,λe=>by rw[e] at hl;simp at hl;omega,h3⟩⟩
  have qj:¬((j:Int)<0):=by omega
  simp only[qj,aR,ax,au,fI htt,ak,cg,j4,bB,h2,IQ (n:=o) r (by omega)]
end
end
section
def aHt {a b c:bt} (h1:dW a b<=0) (h2:dW b c<=0):dW a c<=0:=by
 rcases LV a b with h|h|h
 ·rcases LV b c with g|g|g
  ·have:=zZ.2 (lt_trans h g);omega
  ·rw[<-g];exact h1
  ·have:=zZ.2 g;rw[xu] at this;omega
 ·rw[h];exact h2
 ·have:=zZ.2 h;rw[xu] at this;omega
section
variable {N:ae} {a b c d x:cr}
def Eu:jQ N b a= - jQ N a b:=by
 unfold jQ;by_cases h:a.av=b.av
 ·rw[aG h,aG h.symm,xu]
 ·rw[aC h,aC λe=>h e.symm];omega
def HY (h1:jQ N a b<=0) (h2:jQ N b c<=0):jQ N a c<=0:=by
 unfold jQ at*;by_cases g1:a.av=b.av<;>by_cases g2:b.av=c.av
 ·rw[aG g1] at h1;rw[aG g2] at h2;rw[aG (g1.trans g2)];exact aHt h1 h2
 ·rw[aC g2] at h2;rw[aC λe=>g2 (g1.symm.trans e),g1];exact h2
 ·rw[aC g1] at h1;rw[aC λe=>g1 (e.trans g2.symm),<-g2];exact h1
 ·rw[aC g1] at h1;rw[aC g2] at h2;rw[aC (by omega)];omega
def same:Prop:=jQ C E F=0
instance:Decidable (same N c d):=inferInstanceAs (Decidable (_=_))
def kT:same N c d↔c.av=d.av/\D0 N c=D0 N d:=by
 unfold same jQ;by_cases h:c.av=d.av
 ·rw[aG h,uD];simp[h]
 ·rw[aC h];constructor
  ·intro e;omega
  ·intro e;exact absurd e.1 h
def qC:bu:=ac.filter λd=>iL (same C E d)
def amP (x:cr):∀l:bu,qC N c (nq N x l)=qC N c (x::l)
 | []=>rfl
 |y::l=>by
  unfold nq;split
  ·rename_i h;have ih:=amP x l;unfold qC at*;rw[jc,ih];simp only[jc];by_cases h1:same N c x
   ·have h2:¬same N c y:=λh2=>by
     have h1:=kT.1 h1;have h2:=kT.1 h2;have:jQ N x y=0:=kT.2 ⟨h1.1.symm.trans h2.1,h1.2.symm.trans h2.2⟩;omega
    simp[h1,h2]
   ·simp[h1]
  ·rfl
def amt:qC N c A.reverse=(qC N c A).reverse:=by unfold qC;rw[List.filter_reverse]
def aeG:∀(q acc:bu),qC N c (q.foldl (λacc x=>(nq N x acc.reverse).reverse) acc)=qC N c (acc++q)
 | [],acc=>by simp
 |x::q,acc=>by
  rw[uu,aeG q];have e:qC N c (nq N x acc.reverse).reverse=qC N c (acc++ [x]):=by
   rw[amt,amP,<-amt];simp
  unfold qC at*;rw[C2,e,<-C2];simp
def azL:qC N c (r9 N A)=qC N c A:=aeG A []
def Ro:Prop:=A.Pairwise λc d=>jQ C c d<=0
def axx (x:cr):∀{l:bu},(l.Pairwise λc d=>jQ N d c<=0)->(nq N x l).Pairwise λc d=>jQ N d c<=0
 | [],_=>by simp[nq]
 |y::l,h=>by
  obtain ⟨h1,h2⟩:=nK.1 h;unfold nq;split
  ·refine nK.2 ⟨λz hz=> ?_,axx x h2⟩
   rcases JE.1 hz with rfl|hz
   ·omega
   ·exact h1 z hz
  ·have HH:jQ N y x<=0:=by rw[Eu];omega
   refine nK.2 ⟨λz hz=> ?_,h⟩
   rcases da.1 hz with rfl|hz
   ·exact HH
   ·exact HY (h1 z hz) HH
def alO:∀(q acc:bu),Ro N acc->Ro N (q.foldl (λacc x=>(nq N x acc.reverse).reverse) acc)
 | [],acc,h=>h
 |x::q,acc,h=>by
  rw[uu];exact alO q _ (List.pairwise_reverse.2 (axx x (List.pairwise_reverse.2 h)))
def alN:Ro N (r9 N A):=alO A [] ac8
def Zl:∀(q acc:bu),c∈q.foldl (λacc x=>(nq N x acc.reverse).reverse) acc↔c∈acc\/c∈q
 | [],acc=>by simp
 |x::q,acc=>by
  rw[uu,Zl q,VW,JE,VW,da];constructor
  ·rintro ((h|h)|h)<;>simp[h]
  ·rintro (h|h|h)<;>simp[h]
def Zi {l:bu}:c∈r9 N l↔c∈l:=by
 unfold r9;rw[Zl];simp
def xK:bu->Prop
 |c::d::l=>c.eH=d.dY/\xK (d::l)
 |_=>True
def xK.snoc:∀{l:bu},xK l->(∀y,l.getLast? =V y->y.eH=x.dY)->xK (l++ [x])
 | [],_,_=>trivial
 | [c],_,h=>⟨h c rfl,trivial⟩
 |c::d::l,h1,h=>⟨h1.1,xK.snoc (l:=d::l) h1.2 λy hy=>h y (by rw[akT];exact hy)⟩
end
end
section
def fin:bu:=if dW E.dY F.eH=0 then [] else [⟨E.av,E.dY,F.eH⟩]
def Ms (N:ae) (f l:cr):bu->bu
 | []=>fin f l
 |d::r=>if same N f d then Ms N f d r else fin f l++Ms N d d r
def O2 (N:ae) (f l:cr):bu->Prop
 | []=>True
 |d::r=>if same N f d then l.eH=d.dY/\O2 N f d r else O2 N d d r
section
variable {N:ae} {md:Int} {n:Nat} {ch:bu} {c d f l:cr}
def E7:same N c c:=kT.2 ⟨rfl,rfl⟩
def Zn (h:same N c d):same N d c:=kT.2 ⟨(kT.1 h).1.symm,(kT.1 h).2.symm⟩
def Jg (h:same N c d) (h':same N d f):same N c f:=kT.2 ⟨(kT.1 h).1.trans (kT.1 h').1,(kT.1 h).2.trans (kT.1 h').2⟩
def xK.tail:∀{l:bu},xK (c::l)->xK l
 | [],_=>trivial
 |_::_,h=>h.2
def apB:∀(r:bu) (f l:cr),same N f l->(∀c,xK (qC N c (l::r)))->O2 N f l r
 | [],_,_,_,_=>trivial
 |d::r,f,l,hs,h=>by
  have hr:∀c,xK (qC N c (d::r)):=λc=>by
   have h1:=h c;unfold qC at h1 ⊢;rw[jc] at h1;split at h1
   ·exact h1.tail
   ·exact h1
  unfold O2;split
  ·rename_i hd;refine ⟨?_,apB r f d hd hr⟩;have h1:=h f;unfold qC at h1;simp only[jc,hs,hd,aO,aw] at h1;exact h1.1
  ·exact apB r d d E7 hr
def aIz (hN:qI N) (hc:gg md N c) (hd:gg md N d) (h:same N c d) (hn:100<n):F86 n c d N=V (M,N):=by
 obtain ⟨e,e2⟩:=kT.1 h;obtain ⟨w,T,hw,hT,_⟩:=id hc;have sQ:d.av=(w:Int):=by omega
 have h1:=Pz (n:=n) hN hw hT hc;have h2:=Pz (n:=n) hN sQ hT hd;rw[nT hw hT,nT sQ hT] at e2;have he:(c.av==d.av)=M:=by simp[e]
 have l1:=QQ (c:=c) hN hT;have hz:(dW (pG T c) (pG T d)==0)=M:=by rw[e2,te];rfl
 unfold F86 abz;simp only[he,aw,h1,h2,ak,IL n (pG T c) (pG T d) (by omega) (by omega),hz]
def aop (hN:qI N) (hf:gg md N f) (hg:gg md N l) (k:Int->Int->bu->ae->bu->Z (bu×Int)) (i:Int) (acc:bu) (hn:100<n) (ha:acc.length<=100000):F9 k n (-1) i ch N acc f l=k (-1) i ch N (acc++fin f l):=by
 obtain ⟨l1,_⟩:=hf.lens hN;obtain ⟨_,l2⟩:=hg.lens hN;unfold F9 fin;rw[IL n _ _ (by omega) (by omega),ak]
 by_cases h:dW f.dY l.eH=0
 ·simp[h]
 ·have hb:(dW f.dY l.eH==0)=I:=by simpa using h
  rw[hb,aC h];simp only[gq,aw];rw[TQ n _ (by omega),ak,TQ n _ (by omega),ak,dx _ _ (by simp;omega),ak]
def YA:(fin f l).length<=1:=by
 unfold fin;split<;>simp
def YQ (hN:qI N) (n0:Nat) (hl:ch.length<=1000) (hC:∀c∈ch,gg md N c):∀(r:bu) (j m m0:Nat) (acc:bu) (f l:cr),ch.drop j=r->gg md N f->gg md N l->(∀y∈r,jQ N f y<=0)->Ro N r->O2 N f l r->r.length+300<m->r.length+300<m0->acc.length+r.length+1<=100000->CU (F9 (vi (AZ n0) m0) m0) m (-1) (j:Int) ch N acc f l=V (acc++Ms N f l r,0)
 | [],j,m+1,m0,acc,f,l,hd,hf,hg,_,_,_,hm,hm0,ha=>by
  have hq:¬((j:Int)<(ch.length:Int)):=by
   have:ch.length<=j:=by simpa using hd
   omega
  obtain ⟨m0',rfl⟩:∃m',m0=m'+1:=⟨m0-1,by omega⟩
  simp only[CU,PQ,hq,aR,ax,au];rw[aop hN hf hg _ _ _ (by omega) (by simp at ha;omega)]
  simp only[vi,F8,hq,aR,ax,au,AZ];simp[Ms]
 |d::r,j,m+1,m0,acc,f,l,hd,hf,hg,hw,hO,hL,hm,hm0,ha=>by
  obtain ⟨g1,g2,g3,hq⟩:=dK hd
  have fd:=hC d (bQ g1);obtain ⟨o1,o2⟩:=nK.1 hO;simp at hm hm0 ha;unfold O2 at hL;simp only[CU,PQ,hq,aO,aw,fI g3,ak,cg,g1];by_cases hs:same N f d
  ·rw[aG hs] at hL;have hy:=aIz (n:=m) hN hf fd hs (by omega)
   obtain ⟨_,l2⟩:=hg.lens hN;rw[hy,ak];simp only[aw];rw[IL m _ _ (by omega) (by omega),ak,hL.1,te]
   simp only[iz,dd,ax,au];rw[bT g3 (by omega:ch.length<4294967296),YQ hN n0 hl hC r (j+1) m m0 acc f d g2 hf fd (λy hy=>hw y (dQ _ hy)) o2 hL.2 (by omega) (by omega) (by omega)]
   simp only[Ms,hs,aw]
  ·rw[aC hs] at hL;have Ai:0<jQ N d f:=by
    have h1:=hw d (by simp)
    have h2:¬jQ N f d=0:=hs;rw[Eu];omega
   rw[ayK (n:=m) hN hf fd Ai (by omega),ak]
   simp only[ax,au];obtain ⟨m0',rfl⟩:∃m',m0=m'+1:=⟨m0-1,by omega⟩
   have fl:=YA (f:=f) (l:=l);rw[aop hN hf hg _ _ _ (by omega) (by omega)]
   simp only[vi,F8,hq,aO,aw,fI g3,ak,cg,g1,bT g3 (by omega:ch.length<4294967296)]
   rw[YQ hN n0 hl hC r (j+1) m0' m0' (acc++fin f l) d d g2 fd fd o1 o2 hL (by omega) (by omega) (by simp;omega)]
   simp only[Ms,hs,au,j8]
 |_,_,0,_,_,_,_,_,_,_,_,_,_,hm,_,_=>by omega
def QK:bu->bu
 | []=> []
 |c::r=>Ms C c c r
def aIy (hN:qI N) (hl:ch.length<=1000) (hC:∀c∈ch,gg md N c) (hO:Ro N ch) (hL:∀c,xK (qC N c ch)) (hn:2000<n):vi (AZ n) n (-1) 0 ch N []=V (QK N ch,0):=by
 obtain ⟨m,rfl⟩:∃m,n=m+1:=⟨n-1,by omega⟩
 cases ch with
 |nil=>simp[vi,F8,AZ,QK]
 |cons c r=>
  obtain ⟨o1,o2⟩:=nK.1 hO;have hq:(0:Int)<((c::r).length:Int):=by rw[iu];omega
  have hb:dX (c::r).length 0=V 0:=fI (i:=0) (by simp)
  have fc:=hC c (by simp)
  simp only[vi,F8,hq,aO,aw,hb,ak,cg,vU];rw[show aW (0+1)=((1:Nat):Int) from cU (by omega) (by omega)]
  simp at hl;rw[YQ hN (m+1) (by simp;omega) hC r 1 m m [] c c rfl fc fc o1 o2 (apB r c c E7 hL) (by omega) (by omega) (by simp;omega)]
  rfl
def aUp (lX:tO md) (hN:qI N) (Fv:IP n N=V 0) (hl:ch.length<20) (hC:∀c∈ch,gg md N c) (hL:∀c,xK (qC N c ch)) (hn:6000<n):F37 n N md ch=V (QK N (r9 N ch),0):=by
 have hs:gU (r9 N ch).length ch.length=V ():=by unfold gU;rw[aG (E6 ch)]
 unfold F37 ace;rw[asd lX Fv,ak];simp only[ia,ax,au];rw[aGg lX hN ch (by omega) hC (by omega),ak,ayL n ch (by omega),ak]
 have q:iL ((-1:Int)<0)=M:=rfl;simp only[q,dd,ax,au];unfold Ug;rw[aGf hN ch hl hC (by omega),ak,hs,ak]
 exact aIy hN (by rw[E6];omega) (λc hc=>hC c (Zi.1 hc)) (alN ch) (λc=>by rw[azL];exact hL c) (by omega)
end
end
section
section
variable {N:ae} {md:Int} {c d f l:cr}
def D1 {T:ai} (h:c.dY≠ []):pG T c=fC T c.dY:=by
 have:c.dY.isEmpty=I:=by simpa using h
 unfold pG;rw[this];rfl
def afR {T:ai} (h:c.eH≠ []) (hk:c.dY≠ []->c.eH≠ []->fC T c.dY=fC T c.eH):pG T c=fC T c.eH:=by
 by_cases g:c.dY= []
 ·unfold pG;rw[g];rfl
 ·rw[D1 g,hk g h]
def YB (hf:gg md N f) (hl:gg md N l) (hs:same N f l) (h:c∈fin f l):gg md N c/\c.dY≠c.eH/\same N f c:=by
 unfold fin at h;split at h
 ·simp at h
 ·rename_i cQ;rw[gL] at h;subst h;have cQ:f.dY≠l.eH:=λe=>cQ (uD.2 e)
  obtain ⟨e1,e2⟩:=kT.1 hs;obtain ⟨w,T,hw,hT,a1,a2,a3,a4⟩:=hf;obtain ⟨w',T',sQ,j6,b1,b2,b3,b4⟩:=hl;obtain rfl:w'=w:=by omega
  rw[hT] at j6;cases j6;rw[nT hw hT,nT sQ hT] at e2;refine ⟨⟨w',T,hw,hT,?_,a2,b3,λh1 h2=> ?_⟩,cQ,kT.2 ⟨rfl,?_⟩⟩
  ·by_cases g:f.dY= []
   ·refine .inr λe=>cQ ?_
    show f.dY=l.eH;rw[g];exact e.symm
   ·exact .inl g
  ·show fC T f.dY=fC T l.eH;rw[<-D1 (c:=f) h1,e2,afR (c:=l) h2 b4]
  ·rw[nT hw hT,nT (c:=⟨f.av,f.dY,l.eH⟩) hw hT];by_cases g:f.dY= []
   ·have g2:l.eH≠ []:=λe=>cQ (by rw[g,e])
    rw[e2,afR g2 b4];unfold pG;rw[g];rfl
   ·rw[D1 g,D1 (c:=⟨f.av,f.dY,l.eH⟩) g]
def amU:zb N (fin f l):=by
 unfold fin zb;split<;>simp
def agy:∀(r:bu) (f l:cr),gg md N f->gg md N l->same N f l->(∀y∈r,gg md N y)->(∀y∈r,jQ N f y<=0)->Ro N r->(∀e∈Ms N f l r,(gg md N e/\e.dY≠e.eH)/\jQ N f e<=0)/\zb N (Ms N f l r)/\(Ms N f l r).length<=r.length+1
 | [],f,l,hf,hl,hs,_,_,_=>by
  refine ⟨λe he=> ?_,amU,YA⟩
  obtain ⟨h1,h2,h3⟩:=YB hf hl hs he;have h3:jQ N f e=0:=h3;exact ⟨⟨h1,h2⟩,by omega⟩
 |d::r,f,l,hf,hl,hs,hF,hw,hO=>by
  obtain ⟨o1,o2⟩:=nK.1 hO;have fd:=hF d (by simp)
  have fr:=λy hy=>hF y (dQ d hy)
  have h1:=hw d (by simp)
  unfold Ms;split
  ·rename_i g;obtain ⟨i1,i2,i3⟩:=agy r f d hf fd g fr (λy hy=>hw y (dQ _ hy)) o2
   exact ⟨i1,i2,by rw[iu];omega⟩
  ·rename_i g;obtain ⟨i1,i2,i3⟩:=agy r d d fd fd E7 fr o1 o2;have fl:=YA (f:=f) (l:=l);refine ⟨λe he=> ?_,NO.2 ⟨amU,i2,λc hc e he=> ?_⟩,by simp;omega⟩
   ·rcases eV.1 he with he|he
    ·obtain ⟨h1,h2,h3⟩:=YB hf hl hs he;have h3:jQ N f e=0:=h3;exact ⟨⟨h1,h2⟩,by omega⟩
    ·exact ⟨(i1 e he).1,HY h1 (i1 e he).2⟩
   ·have h3:jQ N f c=0:=(YB hf hl hs hc).2.2;have h4:=(i1 e he).2;have h5:jQ N c f<=0:=by rw[Eu];omega
    have h6:=HY h5 (HY h1 h4);have h7:jQ N f d≠0:=g;by_cases h8:jQ N c e=0
    ·have h9:jQ N e f=0:=Zn (Jg h3 h8);have:=HY h4 (by omega:jQ N e f<=0)
     rw[Eu] at this;omega
    ·rw[Eu];omega
def aHG {l:bu} (hF:∀y∈l,gg md N y) (hO:Ro N l):(∀e∈QK N l,gg md N e/\e.dY≠e.eH)/\zb N (QK N l)/\(QK N l).length<=l.length:=by
 cases l with
 |nil=>exact ⟨by simp[QK],ac8,de _⟩
 |cons c r=>
  obtain ⟨o1,o2⟩:=nK.1 hO;have fc:=hF c (by simp)
  obtain ⟨h1,h2,h3⟩:=agy r c c fc fc E7 (λy hy=>hF y (dQ _ hy)) o1 o2
  exact ⟨λe he=>(h1 e he).1,h2,h3⟩
end
def aUq {N:ae} {md:Int} {n:Nat} {ch:bu} (lX:tO md) (hN:qI N) (Fv:IP n N=V 0) (hl:ch.length<20) (hC:∀c∈ch,gg md N c) (hL:∀c,xK (qC N c ch)) (hn:6000<n):∃net,F37 n N md ch=V (net,0)/\(∀e∈net,gg md N e/\e.dY≠e.eH)/\zb N net/\net.length<20:=by
 obtain ⟨h1,h2,h3⟩:=aHG (l:=r9 N ch) (λy hy=>hC y (Zi.1 hy)) (alN ch)
 rw[E6] at h3;exact ⟨_,aUp lX hN Fv hl hC hL hn,h1,h2,by omega⟩
end
section
def aPt {md key:Int} {a b:bt} (j:Nat) (ha:gB md key i ks a=M) (hb:gB md key i ks b=M):gB md key i ks (a.take j++b.drop j)=M:=by
 have la:=zX ha;have lb:=zX hb;refine X4 (by simp;omega) λq k v hk hv=> ?_
 by_cases h:q<(a.take j).length
 ·rw[pd h,eZ] at hv;obtain ⟨w,h1,h2⟩:=Jj ha hk;split at hv
  ·rw[h1] at hv;cases hv;exact h2
  ·cases hv
 ·rw[nF (by omega),fp] at hv
  obtain ⟨w,h1,h2⟩:=Jj hb hk;have hq:=(bO.1 hk).1;simp at h;have e:j+(q-(a.take j).length)=q:=by simp;omega
  rw[e,h1] at hv;cases hv;exact h2
structure StB (md:Int) (N:ae) (b:Nat) (st:iM):Prop where
 len:st.length=N.ah.length
 row:∀(t:Nat) T rows,N.ah[t]? =V T->st[t]? =V rows->rows.length<=b/\(∀r∈rows,gB md T.aH 0 (eh T) r=M)/\Ord T rows
def vQ.b {md:Int} {N:ae} {st:iM} (h:vQ md N st):StB md N 8 st:=⟨h.len,λt T rows hT hr=>⟨(h.row t T rows hT hr).1,(h.row t T rows hT hr).2,h.ord t T rows hT hr⟩⟩
def aUj:Prop:=∃(w:Nat) (T:ai) (rows:bK),X.av=(w:Int)/\C.ah[w]? =V T/\f9[w]? =V rows/\xm T (D0 C X) rows ad
structure Made (md:Int) (N:ae) (b:Nat) (st:iM) (out:bu):Prop where
 ok:StB md N b st
 fit:∀c∈out,gg md N c
 link:∀c,xK (qC N c out)
 last:∀c y,(qC N c out).getLast? =V y->aUj N st y y.eH
section
variable {md:Int} {N:ae} {b t:Nat} {st:iM} {out:bu} {T:ai} {rows:bK} {r r0 w:bt}
def Made.nil (h:StB md N b st):Made md N b st []:=⟨h,by simp,λc=>trivial,λc y h=>by simp[qC] at h⟩
def afx:qC N E (out++ [F])=if same N E F then qC N E out++ [F] else qC N E out:=by
 unfold qC;rw[C2];by_cases h:same N E F<;>simp[h]
def Made.snoc (h:Made md N b st out) (hT:N.ah[t]? =V T) (hr:st[t]? =V rows) (hf:gB md T.aH 0 (eh T) r=M) (hr0:r≠ []) (h0:xm T (fC T r) rows r0) (hw:w=r\/(w= []/\r0≠ [])):
  Made md N (b+1) (st.set t (tw T (fC T r) (rL w) rows)) (out++ [⟨(t:Int),r0,w⟩]):=by
 have HJ:=(bO.1 hr).1;obtain ⟨s1,s2,s3⟩:=h.ok.row t T rows hT hr;have hwr:w≠ []->fC T w=fC T r:=λe=>by rcases hw with rfl|⟨rfl,_⟩<;>simp_all
 have h0k:r0≠ []->fC T r0=fC T r:=λe=>by rcases h0 with h0|h0<;>simp_all
 have hx:gg md N ⟨(t:Int),r0,w⟩:=by
  refine ⟨t,T,rfl,hT,?_,λe=> ?_,λe=> ?_,λe1 e2=>(h0k e1).trans (hwr e2).symm⟩
  ·rcases hw with rfl|⟨_,h2⟩
   ·exact .inr hr0
   ·exact .inl h2
  ·rcases h0 with h0|h0
   ·exact s2 r0 h0.1
   ·exact absurd h0.1 e
  ·rcases hw with rfl|⟨rfl,_⟩
   ·exact hf
   ·exact absurd rfl e
 have hk:D0 N ⟨(t:Int),r0,w⟩=fC T r:=by
  rw[nT (c:=⟨(t:Int),r0,w⟩) rfl hT];by_cases e:r0= []
  ·subst e;have hw:w=r:=hw.resolve_right λh=>h.2 rfl
   subst hw;rfl
  ·rw[D1 (c:=⟨(t:Int),r0,w⟩) e];exact h0k e
 refine ⟨⟨by rw[ld];exact h.ok.len,λq T' wh j6 lA=> ?_⟩,λc hc=> ?_,λc=> ?_,λc y hy=> ?_⟩
 ·by_cases hq:q=t
  ·subst hq;rw[hT] at j6;cases j6;rw[nf HJ] at lA;cases lA;have hl:=aff (T:=T) (fC T r) (rL w) rows;have ho:(rL w).length<=1:=by unfold rL;split<;>simp
   refine ⟨by omega,λy hy=> ?_,afe s3 ?_⟩
   ·rcases Ab.1 hy with g|g
    ·exact s2 y g.1
    ·unfold rL at g;split at g
     ·simp at g
     ·rename_i hwn;rw[gL.1 g];rcases hw with rfl|⟨rfl,_⟩
      ·exact hf
      ·exact absurd rfl hwn
   ·unfold rL;split
    ·exact .inl rfl
    ·rename_i hwn;exact .inr ⟨w,rfl,hwr hwn⟩
  ·rw[um (wO hq)] at lA;obtain ⟨a1,a2⟩:=h.ok.row q T' wh j6 lA;exact ⟨by omega,a2⟩
 ·rcases eV.1 hc with hc|hc
  ·exact h.fit c hc
  ·rw[gL.1 hc];exact hx
 ·rw[afx];split
  ·rename_i hs;refine (h.link c).snoc λy hy=> ?_
   obtain ⟨q,T',wh,e1,e2,e3,e4⟩:=h.last c y hy;have hcy:same N c y:=by
    have:=List.mem_of_getLast? hy;unfold qC at this;simpa using (nI.1 this).2
   obtain ⟨g1,g2⟩:=kT.1 (Jg (Zn hcy) hs);have g1:y.av=(t:Int):=g1;obtain rfl:q=t:=by omega
   rw[hT] at e2;cases e2;rw[hr] at e3;cases e3;rw[g2,hk] at e4;exact e4.one s3 h0
  ·exact h.link c
 ·rw[afx] at hy;split at hy
  ·rw[List.getLast?_append] at hy;simp at hy;subst hy;exact ⟨t,T,tw T (fC T r) (rL w) rows,rfl,hT,nf HJ,by rw[hk];exact xm.put hwr⟩
  ·rename_i hs;obtain ⟨q,T',wh,e1,e2,e3,e4⟩:=h.last c y hy;have hcy:same N c y:=by
    have:=List.mem_of_getLast? hy;unfold qC at this;simpa using (nI.1 this).2
   by_cases hq:q=t
   ·subst hq;rw[hT] at e2;cases e2;rw[hr] at e3;cases e3;have cQ:D0 N y≠fC T r:=λe=>hs (Jg hcy (kT.2 ⟨e1,e.trans hk.symm⟩))
    exact ⟨q,T,tw T (fC T r) (rL w) rows,e1,hT,nf HJ,e4.other cQ hwr⟩
   ·exact ⟨q,T',wh,e1,e2,by rw[um (wO hq)];exact e3,e4⟩
end
end
section
def aIf {ys:bt} (h:ys.length<=xs.length) (h0:xs≠ []):FE xs ys=V (ys++xs.drop ys.length):=by
 unfold FE;rw[aC h0,fo h,uo]
section
variable {md:Int} {N:ae} {t:Nat} {T:ai} {rows:bK}
def anx (hN:qI N) (n0:Nat):∀(d m b:Nat) (c:aN) (z1 z2:aF) (st:iM) (out:bu),d+5000<m->cV c->Made md N b st out->b+d<=1000->out.length+d<=100->
  Ok (F0 (KH n0) m md (d:Int) c N z1 z2 out st) λr=>cV r.2.2/\(∃b',b'<=b+d/\Made md N b' r.2.1.ah r.1)/\r.1.length<=out.length+d
 |0,m+1,b,c,z1,z2,st,out,hm,hc,h,hb,ho=>by
  have hq:¬(0:Int)<((0:Nat):Int):=by omega
  simp only[F0,ack,hq,aR,ax,au,KH];exact Ok.pure ⟨hc,⟨b,by omega,h⟩,NS _ _⟩
 |d+1,m+1,b,c,z1,z2,st,out,hm,hc,h,hb,ho=>by
  have hq:(0:Int)<((d+1:Nat):Int):=by omega
  have hw:aW (((d+1:Nat):Int)-1)=(d:Int):=by rw[cU (by omega) (by omega)];omega
  have hl8:=hN.len;have HK:=h.ok.len;simp only[F0,ack,hq,aO,aw];by_cases h0:0<(N.ah.length:Int);rotate_left
  ·simp only[h0,aR,ax,au,KH];exact Ok.pure ⟨hc,⟨b,by omega,h⟩,NS _ _⟩
  simp only[h0,aO,aw];refine Ok.bind (jT m c _ hc) λdC ⟨c1,a1,a2,_⟩=> ?_
  have a2:=a2 (by omega)
  obtain ⟨t,ht0⟩:∃t:Nat,dC.1=(t:Int):=⟨dC.1.toNat,by omega⟩
  rw[ht0] at a2 ⊢;have HJ:t<N.ah.length:=by omega
  obtain ⟨T,hT⟩:∃T,N.ah[t]? =V T:=⟨_,cZ HJ⟩;have xa:idx N.ah (t:Int)=V T:=by rw[bB];exact hT
  have ht:=hN.bY (t:Int) T xa;have eY:=ht.cols;have hkl:=pF T;have k1:=ht.uL;have k2:=ht.jF;have kH:t<st.length:=by omega
  obtain ⟨rows,j4⟩:∃rows,st[t]? =V rows:=⟨_,cZ kH⟩;obtain ⟨s1,s2,s3⟩:=h.ok.row t T rows hT j4;have step:∀(c':aN) (r:bt) (tb:bw) (tl:Int) (y1 y2:aF),cV c'->gB md T.aH 0 (eh T) r=M->
    Ok (PR (F0 (KH n0) m) m md ((d+1:Nat):Int) tb tl c' N y1 y2 out ⟨(t:Int),[],[]⟩ r st) λr=>cV r.2.2/\(∃b',b'<=b+(d+1)/\Made md N b' r.2.1.ah r.1)/\r.1.length<=out.length+(d+1):=λc' r tb tl y1 y2 nL hr=>by
   have qD:=gT hr;have cQ:r≠ []:=λe=>by rw[e] at qD;simp at qD;omega
   obtain ⟨r0,b0,e0,g0⟩:=aUm (key:=fC T r) m hT ht st j4 (λy hy=>gT (s2 y hy)) (by omega) (by omega)
   have hs:gU st.length st.length=V ():=by unfold gU;rw[aG rfl]
   have last:∀(c':aN) (w:bt) (y1 y2:aF),cV c'->(w=r\/(w= []/\r0≠ []))->
     Ok (PS (F0 (KH n0) m) m md ((d+1:Nat):Int) (fC T r) tb tl c' N y1 y2 out ⟨(t:Int),r0,w⟩ st r0) λr=>cV r.2.2/\(∃b',b'<=b+(d+1)/\Made md N b' r.2.1.ah r.1)/\r.1.length<=out.length+(d+1):=λc' w y1 y2 nL sQ=>by
    have hM:=h.snoc hT j4 hr cQ g0 sQ;have hwl:w.length<=100:=by
     rcases sQ with rfl|⟨rfl,_⟩
     ·omega
     ·simp
    unfold PS;rw[dx _ _ (by simp;omega),ak]
    show Ok ((F51 m N ⟨st⟩ (t:Int) (fC T r) w).bind _) _;rw[anM (n:=m) hT ht (by unfold fC;simp;omega) hwl j4 (λy hy=>gT (s2 y hy)) (by omega) s3 (by omega),ak,hw]
    refine (anx hN n0 d m (b+1) c' _ _ _ _ (by omega) nL hM (by omega) (by simp;omega)).mono λr ⟨q1,⟨b',q2,q3⟩,q4⟩=>⟨q1,⟨b',by omega,q3⟩,by simp at q4;omega⟩
   unfold PR;have e1:F52 m N (t:Int) r=V (fC T r):=M5 (n:=m) xa ht r qD;simp only[e1,ak,e0,hs];by_cases hz:r0= []
   ·subst hz;simp only[C3];exact last c' r ⟨st⟩ ⟨[]⟩ nL (.inl rfl)
   ·have hz':((r0.length:Int)==0)=I:=by cases r0 with
     |nil=>exact absurd rfl hz
     |cons=>exact NP (by simp;omega)
    rw[hz'];simp only[ax,au];refine Ok.bind (sX m c' 3 nL) λuP Co=> ?_
    refine Ok.ite (λ_=>last _ r ⟨st⟩ ⟨[]⟩ Co (.inl rfl)) λ_=>last _ [] ⟨st⟩ ⟨[]⟩ Co (.inr ⟨rfl,hz⟩)
  rw[TS xa (by omega) (by omega:1000<m),ak,xa,ak]
  refine Ok.bind (aGk m md (by omega) dC.2 (eh T) T.aH ht.ks (by omega) c1) λr ⟨c2,hr⟩=> ?_
  have qD:=gT hr;simp only[fI kH,ak,cg,j4];by_cases hx:0<(rows.length:Int);rotate_left
  ·simp only[hx,aR,ax,au];exact step _ _ _ _ _ _ c2 hr
  simp only[hx,aO,aw];refine Ok.bind (sX m r.2 2 c2) λHa c3=> ?_
  refine Ok.ite (λ_=> ?_) λ_=>step _ _ _ _ _ _ c3 hr
  refine Ok.bind (jT m Ha.2 _ c3) λG8 ⟨c4,d1,d2,_⟩=> ?_
  have d2:=d2 (by omega)
  obtain ⟨j,hj⟩:∃j:Nat,G8.1=(j:Int):=⟨G8.1.toNat,by omega⟩
  rw[hj] at d2 ⊢;have gn:j<rows.length:=by omega
  have hjr:=s2 _ (p6 gn);have hjc:=gT hjr;have e2:idx rows (j:Int)=V rows[j]:=by rw[bB];exact cZ gn
  rw[e2,ak,M5 (n:=m) xa ht rows[j] hjc,ak];have hkt:(rows[j].take T.aH.toNat).length=T.aH.toNat:=by rw[dz];omega
  rw[aIf (by omega) (λe=>by rw[e] at qD;simp at qD;omega),ak,hkt]
  exact step _ _ _ _ _ _ c4 (aPt _ hjr hr)
 |_,0,_,_,_,_,_,_,hm,_,_,_,_=>by omega
def aUr {n:Nat} {c:aN} {st:iM} (hN:qI N) (h:vQ md N st) (hc:cV c) (hn:10000<n) (k:Nat) (hk:k<=8):Ok (F33 n c N md ⟨st⟩ (k:Int)) λr=>cV r.2.2/\(∀x∈r.1,gg md N x)/\r.1.length<=k/\∀x,xK (qC N x r.1):=by
 have hl8:=hN.len;have hl:=h.len;have e:F80 n ⟨st⟩=V ⟨st⟩:=aOD n st (by omega) (λrows hr=>by
  obtain ⟨t,ht⟩:=V0 hr;have HJ:=(bO.1 ht).1;have hT:N.ah[t]? =V (N.ah[t]'(by omega)):=cZ (by omega)
  obtain ⟨r1,r2⟩:=h.row t _ rows hT ht;have hk:=(hN.bY (t:Int) _ (by rw[bB];exact hT)).cols
  exact ⟨by omega,λr hr=>by have:=gT (r2 r hr);omega⟩) (by omega)
 unfold F33 atz;rw[e,ak,cU (by omega) (by omega)]
 refine Ok.bind (jT n c _ hc) λdC ⟨c1,a1,a2,_⟩=> ?_
 have a2:=a2 (by omega)
 obtain ⟨d,hd⟩:∃d:Nat,dC.1=(d:Int):=⟨dC.1.toNat,by omega⟩
 rw[hd] at a2 ⊢;refine (anx hN n d n 8 dC.2 _ _ st [] (by omega) c1 (.nil h.b) (by omega) (by simp;omega)).mono λr ⟨q1,⟨b',_,q3⟩,q4⟩=>⟨q1,q3.fit,by simp at q4;omega,q3.link⟩
end
end
def law10 (hbg:F17 o=V M) (hn:4000000<o) (fw:o<4294967296) (qy:aP) (hb:∀x∈qy,0<=x/\x<=255):F10 o qy=V M:=by
 obtain ⟨c,e1,hc⟩:=aOT o qy 400 hb (by omega) (by omega)
 obtain ⟨x5,e2,h1,h2,h3,h4,ts,k,qE,ea,ek,hk⟩:=aOU o (by omega) fw c hc
 have hG:=SG.of h2.kj;have D6:x5.1.ay<=2:=by
  obtain ⟨v,id,k,r1,r2,r3,ch,hp,e⟩:=h2;rw[e];exact hp.v1
 have hlen:=qE.len;have Mg:fL ((x5.1::ts).getLast (by simp))=0:=by
  rcases da.1 (NM (l:=x5.1::ts) (by simp)) with h|h
  ·rw[h];exact h2.kj
  ·exact qE.kj _ h
 have hSN:=vq Mg;have hL:(x5.1::ts).length=ts.length+1:=rfl;have rz:(x5.1::ts)[ts.length]? =V ((x5.1::ts).getLast (by simp)):=by
  rw[List.getLast_eq_getElem];exact cZ (by simp)
 have Yr:=qE.ver ts.length _ rz;obtain ⟨v,hv,_⟩:=dA.drop h2.kj qE hk;have w:aW (((x5.1::ts).length:Int)-1)=((ts.length:Nat):Int):=by rw[cU (by rw[hL];omega) (by rw[hL];omega),hL];omega
 have w2:aW ((x5.2.1.length:Int)-1)=((k+(x5.2.1.length-k):Nat):Int)-1:=by rw[cU (by omega) (by omega)];omega
 unfold F10 atK;rw[e1,ak,e2,ak,ea,ek,w,fI (by rw[hL];omega),ak,cg,rz,ak]
 obtain ⟨lu,e3,g1,g2,g3,_⟩:=jT o x5.2.2.2.2 3 h1;have g3:=g3 (by omega)
 have lX:tO (aW (1+lu.1)):=by
  rw[cU (by omega) (by omega)];unfold tO;omega
 rw[e3,ak];generalize aW (1+lu.1)=md at lX ⊢;obtain ⟨⟨⟨st⟩,z3⟩,e4,z1,z2⟩:=aUt md o (by omega) _ hSN lu.2 g1
 have z1:cV z3:=z1;have z2:vQ md ((x5.1::ts).getLast (by simp)) st:=z2
 obtain ⟨⟨ch,af,y3⟩,e5,y1,y2,y4,y5⟩:=aUr (n:=o) (c:=z3) hSN z2 z1 (by omega) 4 (by omega)
 have e5:F33 o z3 ((x5.1::ts).getLast (by simp)) md ⟨st⟩ 4=V (ch,af,y3):=e5
 have y2:∀x∈ch,gg md ((x5.1::ts).getLast (by simp)) x:=y2
 have y4:ch.length<=4:=y4;obtain ⟨net,e6,n1,n2,n3⟩:=aUq (n:=o) lX hSN (aio Mg (by omega) fw) (by omega) y2 y5 (by omega)
 have h21:=asf (n:=o) lX (by omega) fw h2.kj h3.mem (by omega) (by omega) qE (de _) rz z2
 have h34:=ase (n:=o) (by omega) fw h2.kj h3.mem (by omega) (by omega) qE (de _) rz e6 (λc hc=>(n1 c hc).1) (by omega)
 rw[<-Yr] at h21 h34;have hd:x5.2.1.drop ts.length= []:=p7 (by omega)
 rw[hd,ZF z2] at h21;rw[hd,ZH n1 n2] at h34;have h10:=anJ lX h2.kj h3.mem (by omega) (by omega) qE z2 n1 n2 n3 hv (VH o) (x5.2.1.length-k) o _ (by omega) (show (x5.1::ts)[k+(x5.2.1.length-k)]? =_ from by rw[show k+(x5.2.1.length-k)=ts.length by omega];exact rz) (by omega) fw (ch:=ch)
 have Mn:x5.2.1.drop (k+(x5.2.1.length-k))= []:=p7 (by omega)
 rw[Mn,ZF z2,ZH n1 n2,<-w2] at h10;have h23:=vQ.same (n:=o) hSN z2 (by omega)
 have h36:=gg.same (n:=o) hSN (λc hc=>(n1 c hc).1) (by omega) (by omega)
 simp only[e4,e5,ak,h21,h34,e6,ia,ax,au,h23,h36,dd];rw[h10];exact aIW hbg lX (by omega) fw h2.kj h3.mem (by omega) (by omega) qE hk hv z2 n1 n3 e6
def aAv {k:IntKind} {n:Int} (h:Tc (.int k n)):k.min<=n/\n<=k.max:=by
 simpa[Tc,Lit.wf] using h
def My:∀{rows:List (List AV)},Ek rows->∀r∈rows,yR r
 | [],_,_,h=>by simp at h
 |r::rs,h,x,hx=>by
  rcases da.1 hx with rfl|hx
  ·exact h.1
  ·exact My h.2 x hx
def arc (h:Tc (.rY 5 1 qy.length (AF qy))):∀x∈qy,0<=x/\x<=255:=by
 intro x hx;have h1:=My (show Ek (AF qy) from h) (agP x) (dM.2 ⟨x,hx,rfl⟩);have h2:=aAv (show Tc (.int .u8 x) from h1.1);simpa[IntKind.min,IntKind.max,IntKind.signed,IntKind.bits] using h2
def aHu (y0:aP) (h0:yR [.rY 5 1 y0.length (AF y0)]) (hb:nE [.rY 5 1 y0.length (AF y0)]<=1048576):∃n,F10 n y0=V M:=⟨5000000,law10 5000000 (by kernel_rfl) (by omega) (by omega) y0 (arc h0.1)⟩
end Go.Proofs.YtbnkhmoelnfjoaaGreat
end
