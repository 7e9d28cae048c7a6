/- Part. -/
import Derived.Test.YtbnkhmoelnfjoaaGreatP12
set_option linter.all false
set_option maxRecDepth 100000
noncomputable section
namespace Go.Proofs.YtbnkhmoelnfjoaaGreat
open Go.bQ
variable {ks cU:aH} {p:ag} {k a b c:Nat} {Y:Type} {l:iK} {ts:bl} {f:Int->Int} {N:Int} {t:af}
mutual
def aoa:∀p:ag,fj p+1=3*rm p
 |⟨_,_,_,_,args⟩=>by have:=aob args;simp only[fj,rm];omega
def aob:∀xs:bJ,kS xs=3*qh xs
 | []=>by simp[kS,qh]
 |x::xs=>by have:=aoa x;have:=aob xs;simp only[kS,qh];omega
end
def aAD (h:sW ks [] p=0):fj p<=71/\pV ks [] p=true/\nS ks=true:=by
 unfold sW at h;split at h
 ·cases h
 ·rename_i h0;split at h
  ·cases h
  ·split at h
   ·cases h
   ·rename_i h1;split at h
    ·cases h
    ·rename_i h2;have:=aoa p;simp at h0 h1 h2;exact ⟨by omega,h2,h0⟩
def aiB {ks:aH}:∀{ps:bJ},r7 ks ps=0->∀p∈ps,sW ks [] p=0
 |q::ps,h,p,hp=>by
  unfold r7 at h;split at h
  ·rename_i h0;rcases bB.1 hp with rfl|hp
   ·exact h0
   ·exact aiB h p hp
  ·rename_i h0;exact absurd h h0
def aiA:∀{ts:bl},Az ts=0->∀T∈ts,r7 (lN T) T.aD=0
 |G::ts,h,T,hT=>by
  unfold Az at h;split at h
  ·rename_i h0;rcases bB.1 hT with rfl|hT
   ·exact h0
   ·exact aiA h T hT
  ·rename_i h0;exact absurd h h0
def Pb {tc:cG}:∀{gs:cG} {cs:aH},pO tc gs cs=true->cs.length<=gs.length/\∀c∈cs,0<=c/\c<(tc.length:Int)
 |_,[],_=>⟨by simp,λc hc=>by cases hc⟩
 | [],_::_,h=>by cases h
 |g::gs,c::cs,h=>by
  unfold pO at h;split at h
  ·cases h
  ·rename_i x hx;simp only[aY] at h;let ⟨h1,h2⟩:=Pb h.2;let ⟨i1,i2,_⟩:=JM hx;refine ⟨by simp;omega,λd hd=> ?_⟩
   rcases bB.1 hd with rfl|hd
   ·exact ⟨i1,by omega⟩
   ·exact h2 d hd
def aak {s:af} {T:ah}:∀{rs:cf},td s T rs=true->∀r∈rs,aal s T r=true
 |q::rs,h,r,hr=>by
  unfold td at h;rw[aY] at h;rcases bB.1 hr with rfl|hr
  ·exact h.1
  ·exact aak h.2 r hr
def Qw {s:af}:∀{ts:bl},allRefs s ts=true->∀T∈ts,td s T T.ak=true
 |G::ts,h,T,hT=>by
  unfold allRefs at h;rw[aY] at h;rcases bB.1 hT with rfl|hT
  ·exact h.1
  ·exact Qw h.2 T hT
structure TG (k:Nat) (T:ah):Prop where
 abl:1<=T.aP
 G9:T.aP<=(T.ae.length:Int)
 cols:T.ae.length<=8
 refs:T.ak.length<=4
 Ew:T.aD.length<=4
 ref:∀r∈T.ak,r.ae.length<=8/\(∀c∈r.ae,0<=c/\c<(T.ae.length:Int))/\0<=r.aO/\r.aO<(k:Int)
 nD:∀p∈T.aD,pS (T.ae.length:Int) p=true/\fj p<=71
structure SG (s:af):Prop where
 len:s.ai.length<=8
 v0:0<=s.av
 v1:s.av<=1000
 sj:∀T∈s.ai,TG s.ai.length T
def SG.of {s:af} (h:kr s=0):SG s:=by
 have hS:=NJ h;unfold kr at h;split at h
 ·cases h
 ·rename_i h8;split at h
  ·rename_i hb;rw[dV] at hb;split at h
   ·cases h
   ·rename_i v0;split at h
    ·cases h
    ·rename_i v1;split at h
     ·rename_i ht;split at h
      ·rename_i hr;refine ⟨by omega,by omega,by omega,λT hT=> ?_⟩
       let ⟨b1,b2,b3⟩:=qy (hb T hT);have t1:=ND (λT hT=>(qy (hb T hT)).1) ht T hT
       refine ⟨t1.abl,t1.G9,b1,b2,b3,λr fY=> ?_,λp hp=> ?_⟩
       ·have q:=aak (Qw hr T hT) r fY;unfold aal at q;split at q
        ·cases q
        ·rename_i G hG;rw[aY] at q;let ⟨c1,c2⟩:=Pb q.2;let ⟨i1,i2,i3⟩:=JM hG;have:=(qy (hb G (cX i3))).1;exact ⟨by omega,c2,i1,by omega⟩
       ·let ⟨c1,c2,c3⟩:=aAD (aiB (aiA h T hT) p hp);have:=awu c2;rw[show ((lN T).length:Int)=(T.ae.length:Int) by simp[lN]] at this
        exact ⟨this,c1⟩
      ·cases h
     ·cases h
  ·cases h
def TG.cp {T:ah} (h:TG k T):ED T:=
 ⟨⟨by have:=h.cols;omega,by have:=h.refs;omega,by have:=h.Ew;omega⟩,λr hr=>⟨by have:=(h.ref r hr).1;omega,λc hc=>by have:=(h.ref r hr).2.1 c hc;have:=h.cols;exact ⟨by omega,by omega⟩⟩,λp hp=>by have:=(h.nD p hp).2;omega⟩
def TG.tok {T:ah} (h:TG k T):TOK (T.ae.length:Int) T:=
 ⟨h.cp.len.1,h.cp.len.2.1,h.cp.ref,h.cp.len.2.2,λp hp=>⟨(h.nD p hp).1,by have:=(h.nD p hp).2;omega⟩⟩
def Z6 {a b i n:Int} (ha:0<=a) (ha':a<n) (hb:0<=b) (cn:b<n) (hi:0<=i) (mw:i<n):0<=eM a b i/\eM a b i<n:=by
 unfold eM;split
 ·omega
 ·split
  ·omega
  ·split
   ·omega
   ·split<;>omega
def TV {a b i n:Int} (ha:0<=a) (ha':a<n) (hb:0<=b) (cn:b<n) (hi:0<=i) (mw:i<n):eM b a (eM a b i)=i:=by
 unfold eM;rw[aA (show ¬b<0 by omega),aA (show ¬a<0 by omega)]
 by_cases h1:i=a
 ·rw[ax h1,ax rfl,h1]
 ·rw[aA h1];by_cases h2:a<b/\a<i/\i<=b
  ·rw[ax h2,aA (by omega),aA (by omega),ax (by omega)];omega
  ·rw[aA h2];by_cases h3:b<a/\b<=i/\i<a
   ·rw[ax h3,aA (by omega),ax (by omega)];omega
   ·rw[aA h3,aA (by omega),aA (by omega),aA (by omega)]
def wO {Y:Type} (C:List Y) (a b:Nat):List Y:=(C.take a++C.drop (a+1)).take b++C[a]?.toList++(C.take a++C.drop (a+1)).drop b
def aiv {C:List Y} (ha:a<C.length) (i:Nat):(C.take a++C.drop (a+1))[i]? =if i<a then C[i]? else C[i+1]? :=by
 rw[oI,dx,eg (by omega)]
 split
 ·rename_i h;rw[eR,ax h]
 ·rename_i h;rw[fD];congr 1;omega
def w5 {C:List Y} (ha:a<C.length):(C.take a++C.drop (a+1)).length=C.length-1:=by simp;omega
def Mb {C:List Y} (ha:a<C.length) (hb:b<C.length):(wO C a b).length=C.length:=by
 unfold wO;have:=w5 ha;rw[eQ,eQ,dx,gJ,this,dW ha];simp;omega
def aAU {C:List Y} {q:Nat} (ha:a<C.length) (hb:b<C.length) (hq:q<C.length):(wO C a b)[q]? =C[(eM b a q).toNat]? :=by
 have hd:=w5 ha;unfold wO;rw[dW ha,Lu,oI,eQ,dx,hd,eg (by omega),List.length_singleton]
 unfold eM;rw[aA (show ¬((a:Int)<0) by omega)]
 by_cases h1:q<b
 ·rw[ax (by omega),yn (by rw[dx,hd];omega),eR,ax h1,aiv ha,aA (show ¬((q:Int)=(b:Int)) by omega)]
  by_cases h2:q<a
  ·rw[ax h2,aA (by omega),aA (by omega)];congr 1
  ·rw[aA h2,aA (by omega),ax (by omega)];congr 1
 ·by_cases h2:q=b
  ·subst h2;rw[ax (by omega),ax rfl,qW (by rw[dx,hd];omega),dx,hd,eg (by omega),oJ,Ls,dW ha]
   rfl
  ·rw[aA (by omega),fD,aiv ha,aA (show ¬((q:Int)=(b:Int)) by omega),show b+(q-(b+1))=q-1 by omega]
   by_cases h3:q-1<a
   ·rw[ax h3,ax (by omega)];congr 1;omega
   ·rw[aA h3,aA (by omega),aA (by omega)];congr 1;omega
def aDJ {C X:List Y} (ha:a<C.length) (hb:b<C.length) (hl:X.length=C.length) (hx:∀i:Nat,i<C.length->X[(eM a b i).toNat]? =C[i]?):X=wO C a b:=by
 refine wC λq=> ?_
 by_cases hq:q<C.length
 ·rw[aAU ha hb hq];let ⟨i1,i2⟩:=Z6 (a:=(b:Int)) (b:=(a:Int)) (i:=(q:Int)) (n:=(C.length:Int)) (by omega) (by omega) (by omega) (by omega) (by omega) (by omega)
  have h:=hx (eM b a q).toNat (by omega)
  rw[Int.toNat_of_nonneg i1,TV (n:=(C.length:Int)) (by omega) (by omega) (by omega) (by omega) (by omega) (by omega),Ls] at h
  exact h
 ·rw[ym (by omega),ym (by rw[Mb ha hb];omega)]
def Ku (m:aE):Bool:=y7 m.aV&&(m.cI.length==0&&(decide (m.ar=ByteArray.empty)&&(m.aC==0&&(m.aO==0&&(m.aX==0&&(m.jo==0&&(decide (m.aZ.ar=ByteArray.empty)&&(m.aZ.ae.length==0&&(m.aZ.aP==0&&(m.aZ.ak.length==0&&m.aZ.aD.length==0))))))))))
def zT:ah:=ah.mk ByteArray.empty [] 0 [] []
def Xg (m:aE):aE:=
 if m.bu=1 then aE.mk m.bu 0 m.aX m.jo ByteArray.empty 0 zv m.cI m.aZ
 else if m.bu=2 then aE.mk m.bu 0 0 m.jo m.ar m.aC zv m.cI m.aZ
 else if m.bu=3 then aE.mk m.bu 0 0 0 m.ar m.aC m.aV m.cI m.aZ
 else if m.bu=4 then aE.mk m.bu 0 0 m.jo ByteArray.empty m.aC m.aV m.cI m.aZ
 else if m.bu=5 then aE.mk m.bu 0 m.aX m.jo ByteArray.empty m.aC m.aV m.cI m.aZ
 else if m.bu=6 then aE.mk m.bu m.aO m.aX m.jo m.ar m.aC m.aV m.cI zT
 else if m.bu=7 then aE.mk m.bu 0 m.aX m.jo m.ar m.aC m.aV m.cI m.aZ
 else aE.mk m.bu 0 0 m.jo m.ar m.aC m.aV [] m.aZ
def ug (m:aE):Bool:=decide (1<=m.bu)&&(decide (m.bu<=8)&&Ku (Xg m))
def nh (j:Int) (T:ah):ah:=⟨T.ar,T.ae,T.aP,T.ak.map λr=>⟨r.ae,eM j (-1) r.aO⟩,T.aD⟩
def IS (a b:bj):Bool:=(a.aC==b.aC)&&((a.dw==b.dw)&&((decide (a.cP=b.cP))&&true))
def xI (v:bj) (l:iK):Nat:=l.countP λq=>IS q.f0 v
def xH (v:bj) (l:iK):Nat:=l.countP λq=>IS q.f1 v
def zJ (k:Int) (l:iK):Bool:=decide (1<=l.length)&&(decide (l.length<=16)&&l.all λp=>lW p.f0&&(p.f0.aC==k&&(xI p.f0 l==1&&xH p.f0 l==1)))
inductive kI (s:af) (m:aE):af->Prop
 |avv (j:Nat) (T:ah) (h:m.bu=1) (hj:m.aO=(j:Int)) (hT:s.ai[j]? =some T) (hv:lW m.aV=true) (hk:m.aV.aC=m.aC):
   kI s m ⟨s.av+1,s.ai.set j ⟨T.ar,T.ae++ [⟨m.ar,m.aC⟩],T.aP,T.ak,T.aD⟩⟩
 |amg (j c:Nat) (T:ah) (x:cO) (h:m.bu=2) (hj:m.aO=(j:Int)) (hT:s.ai[j]? =some T) (hc:m.aX=(c:Int)) (hx:T.ae[c]? =some x) (hk:T.aP<=(c:Int)) (hv:lW m.aV=true) (FA:m.aV.aC=x.aC) (hu:AX (c:Int) T=false):
   kI s m ⟨s.av+1,s.ai.set j (oq (eM (c:Int) (-1)) ⟨T.ar,T.ae.take c++T.ae.drop (c+1),T.aP,T.ak,T.aD⟩)⟩
 |move (j c d:Nat) (T:ah) (h:m.bu=3) (hj:m.aO=(j:Int)) (hT:s.ai[j]? =some T) (hc:m.aX=(c:Int)) (hd:m.jo=(d:Int)) (h1:c<T.ae.length) (h2:d<T.ae.length) (hk:T.aP<=(c:Int)) (yd:T.aP<=(d:Int)):
   kI s m ⟨s.av+1,s.ai.set j (oq (eM (c:Int) (d:Int)) ⟨T.ar,wO T.ae c d,T.aP,T.ak,T.aD⟩)⟩
 |asN (j c:Nat) (T:ah) (x:cO) (h:m.bu=4) (hj:m.aO=(j:Int)) (hT:s.ai[j]? =some T) (hc:m.aX=(c:Int)) (hx:T.ae[c]? =some x):
   kI s m ⟨s.av+1,s.ai.set j ⟨T.ar,T.ae.set c ⟨m.ar,x.aC⟩,T.aP,T.ak,T.aD⟩⟩
 |asM (j:Nat) (T:ah) (h:m.bu=5) (hj:m.aO=(j:Int)) (hT:s.ai[j]? =some T):
   kI s m ⟨s.av+1,s.ai.set j ⟨m.ar,T.ae,T.aP,T.ak,T.aD⟩⟩
 |avu (h:m.bu=6):kI s m ⟨s.av+1,s.ai++ [m.aZ]⟩
 |amf (j:Nat) (T:ah) (h:m.bu=7) (hj:m.aO=(j:Int)) (hT:s.ai[j]? =some T) (hr:∀i U,i≠j->s.ai[i]? =some U->∀r∈U.ak,r.aO≠(j:Int)):
   kI s m ⟨s.av+1,(s.ai.take j++s.ai.drop (j+1)).map (nh (j:Int))⟩
 |Pc (j c:Nat) (T:ah) (x:cO) (h:m.bu=8) (hj:m.aO=(j:Int)) (hT:s.ai[j]? =some T) (hc:m.aX=(c:Int)) (hx:T.ae[c]? =some x) (hk:T.aP<=(c:Int)) (hp:zJ x.aC m.cI=true) (hu:AX (c:Int) T=false):
   kI s m ⟨s.av+1,s.ai⟩
def aBV (n:Nat) (m:aE):Ok (ang n m) λr=>r=true->ug m=true:=by
 unfold ang afo;have key:∀q:aE,Ok (sH n q) λr=>r=true->Ku q=true:=λq=>by
  unfold sH;refine Ok.ite (λh1=>Ok.ite (λh2=>Ok.ite (λh3=>Ok.ite (λh4=>Ok.ite (λh5=>Ok.ite (λh6=>Ok.ite (λh7=>Ok.ite (λh8=>Ok.ite (λh9=>Ok.ite (λh10=>Ok.ite (λh11=>Ok.pure λh12=> ?_) ?_) ?_) ?_) ?_) ?_) ?_) ?_) ?_) ?_) ?_) ?_
  ·have h12:((q.aZ.aD.length:Int)==0)=true:=h12;have e:∀k:Nat,((k:Int)==0)=(k==0):=λk=>by rw[lG];simp
   rw[e] at h7 h9 h11 h12;have h6':y7 q.aV=true:=h6;unfold Ku;rw[h1,h2,h3,h4,h5,h6',h7,h8,h9,h10,h11,h12];rfl
  all_goals exact λ_=>Ok.pure λh=>by cases h
 have fin:∀q:aE,1<=m.bu->m.bu<=8->q=Xg m->Ok (sH n q) λr=>r=true->ug m=true:=λq h1 h8 hq=>(key q).mono λr hr h=>by
  unfold ug;rw[<-hq,hr h];simp[h1,h8]
 refine Ok.ite (λh=> ?_) λn1=>Ok.ite (λh=> ?_) λn2=>Ok.ite (λh=> ?_) λn3=>Ok.ite (λh=> ?_) λn4=>Ok.ite (λh=> ?_) λn5=>Ok.ite (λh=> ?_) λn6=>Ok.ite (λh=> ?_) λn7=>Ok.ite (λh=> ?_) λn8=>Ok.pure λh=>by cases h
 all_goals (simp at h;refine fin _ (by omega) (by omega) ?_;unfold Xg;simp[h,zv,zT])
def aHx (n:Nat) (m:aE) (h:ug m=true):F98 n m=some true:=by
 have key:∀q:aE,Ku q=true->xW n q=some true:=λq hq=>by
  unfold Ku at hq;simp only[aY,wE,lI] at hq;let ⟨a1,a2,a3,a4,a5,a6,a7,a8,a9,a10,a11,a12⟩:=hq;have a1':((q.aV.aC==0)&&((q.aV.dw==0)&&((decide (q.aV.cP=ByteArray.empty))&&true)))=true:=a1;unfold xW Ia;simp only[a1',a2,a3,a4,a5,a6,a7,a8,a9,a10,a11,a12];rfl
 unfold ug at h;simp only[aY,lI] at h;let ⟨h1,h8,hb⟩:=h;have hb:=key _ hb;unfold F98 anr;unfold Xg at hb;rcases (by omega:m.bu=1\/m.bu=2\/m.bu=3\/m.bu=4\/m.bu=5\/m.bu=6\/m.bu=7\/m.bu=8) with e|e|e|e|e|e|e|e<;>(simp[e,zv,zT] at hb;simp[e,hb])
def WJ (k:iK->Int->Int->Int->iK->Int->Int->Int->Int->l7->Option Bool) (l:iK) (hl:l.length<=16) (l0:iK) (kind:Int) (t19:iK) (t20 t21 t32 t33:Int) (b6:l7):∀(x:iK) (i m f s:Nat),l.drop i=x->x.length<m->f+x.length<=100->s+x.length<=100->
  Gd k m l0 kind (f:Int) (s:Int) t19 t20 t21 t32 t33 l (l.length:Int) (i:Int) b6=k l0 kind ((f+xI b6.f0 x:Nat):Int) ((s+xH b6.f0 x:Nat):Int) t19 t20 t21 t32 t33 b6
 | [],i,m+1,f,s,hd,hm,_,_=>by
  have hi:l.length<=i:=by simpa using hd
  have hq:¬((i:Int)<(l.length:Int)):=by omega
  simp[Gd,RF,hq,xI,xH]
 |q::x,i,m+1,f,s,hd,hm,hf,hs=>by
  let ⟨g1,g2,g3⟩:=bN hd;have hq:(i:Int)<(l.length:Int):=by omega
  simp at hm hf hs;have ih:=λf' s' h1 h2=>WJ k l hl l0 kind t19 t20 t21 t32 t33 b6 x (i+1) m f' s' g2 (by omega) h1 h2
  have w:∀c:Nat,c<=100->bh ((c:Int)+1)=((c+1:Nat):Int):=λc hc=>by rw[dI (by omega) (by omega)];rfl
  have eF:xI b6.f0 (q::x)=xI b6.f0 x+if IS q.f0 b6.f0=true then 1 else 0:=by simp[xI,List.countP_cons]
  have eS:xH b6.f0 (q::x)=xH b6.f0 x+if IS q.f1 b6.f0=true then 1 else 0:=by simp[xH,List.countP_cons]
  have e1:(q.f0.aC==b6.f0.aC&&(q.f0.dw==b6.f0.dw&&(decide (q.f0.cP=b6.f0.cP)&&true)))=IS q.f0 b6.f0:=rfl;have e2:(q.f1.aC==b6.f0.aC&&(q.f1.dw==b6.f0.dw&&(decide (q.f1.cP=b6.f0.cP)&&true)))=IS q.f1 b6.f0:=rfl;simp only[Gd,RF,hq,aW,aF,cH,g1,aq,e1,RG,e2,cD g3 (by omega),eF,eS]
  cases h1:IS q.f0 b6.f0<;>cases h2:IS q.f1 b6.f0
  ·simp only[aK,aG,nu];exact ih f s (by omega) (by omega)
  ·simp only[aK,aG,aF,nu,w s (by omega)]
   refine (ih f (s+1) (by omega) (by omega)).trans ?_
   rw[show s+1+xH b6.f0 x=s+(xH b6.f0 x+1) by omega]
  ·simp only[aK,aG,aF,nu,w f (by omega)]
   refine (ih (f+1) s (by omega) (by omega)).trans ?_
   rw[show f+1+xI b6.f0 x=f+(xI b6.f0 x+1) by omega]
  ·simp only[aF,w s (by omega),w f (by omega)]
   refine (ih (f+1) (s+1) (by omega) (by omega)).trans ?_
   rw[show f+1+xI b6.f0 x=f+(xI b6.f0 x+1) by omega,show s+1+xH b6.f0 x=s+(xH b6.f0 x+1) by omega]
 |_,_,0,_,_,_,hm,_,_=>by simp at hm
def WI (n0:Nat) (l:iK) (hl:l.length<=16) (kind:Int):∀(x:iK) (i m:Nat),l.drop i=x->x.length+100<m->
  CU (La n0) m l kind l (l.length:Int) (i:Int)=some (x.all λp=>lW p.f0&&(p.f0.aC==kind&&(xI p.f0 l==1&&xH p.f0 l==1)))
 | [],i,m+1,hd,hm=>by
  have hi:l.length<=i:=by simpa using hd
  have hq:¬((i:Int)<(l.length:Int)):=by omega
  simp[CU,RD,hq,La]
 |p::x,i,m+1,hd,hm=>by
  let ⟨g1,g2,g3⟩:=bN hd;have hq:(i:Int)<(l.length:Int):=by omega
  simp at hm;have ih:=WI n0 l hl kind x (i+1) m g2 (by omega)
  have inner:=WJ (RE (CU (La n0) m) m) l hl l kind l (l.length:Int) (i:Int) p.f0.aC kind p l 0 m 0 0 rfl (by omega) (by omega) (by omega)
  simp only[CU,RD,hq,aW,aF,cH,g1,aq,MW,uq];cases hr:lW p.f0 with
  |false=>simp
  |true=>
   by_cases hk:p.f0.aC=kind
   ·have DB:(p.f0.aC !=kind)=false:=by simpa using hk
    have yd:(p.f0.aC==kind)=true:=by simpa using hk
    simp only[fA,aK,aG,DB,yd,iP];refine inner.trans ?_;simp only[RE,cE,cD g3 (by omega:l.length<4294967296)]
    have c1:(((xI p.f0 l:Nat):Int) !=1)= !(xI p.f0 l==1):=by rw[lG];simp;omega
    have c2:(((xH p.f0 l:Nat):Int) !=1)= !(xH p.f0 l==1):=by rw[lG];simp;omega
    rw[c1,c2];cases xI p.f0 l==1
    ·simp
    ·cases xH p.f0 l==1
     ·simp
     ·simp only[fA,aK,aG,iP];exact ih
   ·have DB:(p.f0.aC !=kind)=true:=by simpa using hk
    have yd:(p.f0.aC==kind)=false:=by simpa using hk
    simp[DB,yd]
 |_,_,0,_,hm=>by simp at hm
def aBU (n:Nat) (l:iK) (kind:Int) (hn:1000<n):anf n l kind=some (zJ kind l):=by
 unfold anf afi zJ;by_cases h1:l.length<1
 ·have:(l.length:Int)<1:=by omega
  have h2:¬1<=l.length:=by omega
  simp only[this,aW,aF,h2,bg,gj]
 ·have wY:¬(l.length:Int)<1:=by omega
  have h2:1<=l.length:=by omega
  by_cases h3:16<l.length
  ·have:(16:Int)<(l.length:Int):=by omega
   have h4:¬l.length<=16:=by omega
   simp only[wY,bg,aK,aG,this,aW,aF,h2,h4,iP,gj]
  ·have J2:¬(16:Int)<(l.length:Int):=by omega
   have h4:l.length<=16:=by omega
   simp only[wY,J2,bg,aK,aG,h2,h4,aW,iP];exact WI n l h4 kind l 0 n rfl (by omega)
def nR {l:List Y} {i:Nat} {x:Y} (h:l[i]? =some x):l.set i x=l:=by
 let ⟨h1,h2⟩:=cg.1 h;rw[<-h2,List.set_getElem_self]
def adh (k:af->aE->af->af->bl->Option (af×Bool)) (ts:bl) (hl:ts.length<=1000) (ht:∀T∈ts,ED T) (s:af) (mg:aE):∀(x:bl) (i m:Nat) (b4 b6:af),ts.drop i=x->x.length+4000<m->
  MG k m ts (ts.length:Int) (i:Int) s mg b4 b6 (ts.take i)=k s mg (af.mk b4.av []) (af.mk b6.av ts) ts
 | [],i,m+1,b4,b6,hd,hm=>by
  have hi:ts.length<=i:=by simpa using hd
  have hq:¬((i:Int)<(ts.length:Int)):=by omega
  simp only[MG,X3,hq,bg,aK,aG,lF hi]
 |T::x,i,m+1,b4,b6,hd,hm=>by
  let ⟨g1,g2,g3⟩:=bN hd;have hq:(i:Int)<(ts.length:Int):=by omega
  have hT:=ht T (cX g1);simp at hm;have ih:=adh k ts hl ht s mg x (i+1) m (af.mk b4.av []) (af.mk b6.av (ts.take (i+1))) g2 (by omega)
  have e1:(ts.take i).length=i:=by simp;omega
  simp only[MG,X3,hq,aW,aF,cH,g1,aq,aji m T hT.len hT.ref (by omega),eE (ts.take i) [T] (by simp;omega),rD g1,cD g3 (by omega)]
  rw[e1,eh _ (by simp;omega),aq]
  have e2:(ts.take (i+1)).set i T=ts.take (i+1):=nR (by rw[eR,ax (by omega)];exact g1)
  rw[e2];exact ih
 |_,_,0,_,_,_,hm=>by simp at hm
def adg (k:Nat->aE->af->af->cG->bl->Option (af×Bool)) (j:Nat) (mg:aE) (a b:Nat) (ha:mg.aX=(a:Int)) (hb:mg.jo=(b:Int)) (C:cG) (hl:C.length<=8) (ha':a<C.length) (cn:b<C.length) (ts:bl):∀(x:cG) (i m:Nat) (b4 b6:af) (X:cG) (rr:ah),C.drop i=x->x.length+100<m->X.length=C.length->(∀q:Nat,q<i->X[(eM a b q).toNat]? =C[q]?)->i<=C.length->
  ∃CF,MF k m j (C.length:Int) (i:Int) mg b4 b6 X C ts rr=((setAt ts j (ah.mk rr.ar C rr.aP rr.ak rr.aD)).bind λz2=>k j mg CF (af.mk b6.av z2) (wO C a b) z2)
 | [],i,m+1,b4,b6,X,rr,hd,hm,hX,hx,hi=>by
  have mw:C.length<=i:=by simpa using hd
  have hq:¬((i:Int)<(C.length:Int)):=by omega
  have e:=aDJ ha' cn hX λq hq=>hx q (by omega)
  subst e;exact ⟨af.mk b4.av [],by simp only[MF,X2,hq,bg,aK,aG]⟩
 |c::x,i,m+1,b4,b6,X,rr,hd,hm,hX,hx,hi=>by
  let ⟨g1,g2,g3⟩:=bN hd;have hq:(i:Int)<(C.length:Int):=by omega
  simp at hm;have hbnd:fE C.length (i:Int)=some i:=jl g3;let ⟨s1,s2⟩:=Z6 (a:=(a:Int)) (b:=(b:Int)) (i:=(i:Int)) (n:=(C.length:Int)) (by omega) (by omega) (by omega) (by omega) (by omega) (by omega)
  have hsh:eM a b i=((eM a b i).toNat:Int):=(Int.toNat_of_nonneg s1).symm;have bD:(eM a b i).toNat<X.length:=by omega
  have iY:fE X.length (eM a b i)=some (eM a b i).toNat:=by rw[hsh];exact jl (by simpa using bD)
  have hF:=MX m (i:Int) (a:Int) (b:Int) (by omega) (by omega) (by omega) (by omega)
  let ⟨CF,ih⟩:=adg k j mg a b ha hb C hl ha' cn ts x (i+1) m (af.mk b4.av []) (af.mk b6.av ts) (X.set (eM a b i).toNat c) (ah.mk rr.ar [] rr.aP rr.ak rr.aD) g2 (by omega) (by simpa using hX) (λq AJ=>by
   rw[EG];by_cases he:q=i
   ·subst he;rw[ax rfl,ax bD,g1]
   ·have:(eM a b i).toNat≠(eM a b q).toNat:=λhc=>by
     let ⟨q1,q2⟩:=Z6 (a:=(a:Int)) (b:=(b:Int)) (i:=(q:Int)) (n:=(C.length:Int)) (by omega) (by omega) (by omega) (by omega) (by omega) (by omega)
     have h3:eM a b i=eM a b q:=by omega
     have h1:=TV (a:=(a:Int)) (b:=(b:Int)) (i:=(i:Int)) (n:=(C.length:Int)) (by omega) (by omega) (by omega) (by omega) (by omega) (by omega)
     have h2:=TV (a:=(a:Int)) (b:=(b:Int)) (i:=(q:Int)) (n:=(C.length:Int)) (by omega) (by omega) (by omega) (by omega) (by omega) (by omega)
     rw[h3,h2] at h1;omega
    rw[aA this];exact hx q (by omega)) (by omega)
  refine ⟨CF,?_⟩;simp only[MF,X2,hq,aW,aF,hbnd,aq,cE,g1,ha,hb,hF,iY,dW bD,eh _ bD,cD g3 (by omega)]
  exact ih
 |_,_,0,_,_,_,_,_,hm,_,_,_=>by simp at hm
def iE (j:Int) (r:bf):bf:=⟨r.ae,eM j (-1) r.aO⟩
def tR (a:Int) (rs:cf):Bool:=rs.all λr=>r.aO !=a
def adf (k:Int->Int->af->aE->af->af->ah->cG->bJ->bl->bl->ah->Nat->Nat->cf->Option (af×Bool)) (t299 t300:Int) (s:af) (mg:aE) (a:Nat) (ha:mg.aO=(a:Int)) (ha8:a<=1000) (cs:cG) (ch:bJ) (R cur:bl) (j:Nat) (hj:j<cur.length) (rs:cf) (hl:rs.length<=1000) (hr:∀r∈rs,mG r.aO):∀(x:cf) (i m:Nat) (b4 b6:af) (mz rr:ah),rs.drop i=x->x.length<m->
  HZ k m t299 t300 (rs.length:Int) (i:Int) s mg b4 b6 mz cs ch R cur rr j j (eV (iE a) rs i)=if tR a x=true then k t299 t300 s mg (af.mk b4.av []) (af.mk b6.av cur) (ah.mk mz.ar cs mz.aP (rs.map (iE a)) ch) cs ch R cur (ah.mk rr.ar [] rr.aP [] []) j j (rs.map (iE a)) else some (s,false)
 | [],i,m+1,b4,b6,mz,rr,hd,hm=>by
  have hi:rs.length<=i:=by simpa using hd
  have hq:¬((i:Int)<(rs.length:Int)):=by omega
  simp[HZ,QK,hq,rQ _ _ hi,tR]
 |r::x,i,m+1,b4,b6,mz,rr,hd,hm=>by
  let ⟨g1,g2,g3⟩:=bN hd;have hq:(i:Int)<(rs.length:Int):=by omega
  have fY:=hr r (cX g1);have ih:=adf k t299 t300 s mg a ha ha8 cs ch R cur j hj rs hl hr x (i+1) m (af.mk b4.av []) (af.mk b6.av cur) (ah.mk mz.ar cs mz.aP (eV (iE a) rs (i+1)) ch) (ah.mk rr.ar [] rr.aP [] []) g2 (by simp at hm;omega)
  have hb:fE (eV (iE a) rs i).length (i:Int)=some i:=jl (by rw[ku];exact g3)
  have e:tR (a:Int) (r::x)=(r.aO !=(a:Int)&&tR a x):=by simp[tR]
  have hs:(eV (iE a) rs i).set i (bf.mk r.ae (eM a (-1) r.aO))=eV (iE a) rs (i+1):=rP (iE a) g1;rw[e];by_cases h:r.aO=(a:Int)
  ·have h1:(r.aO==(a:Int))=true:=by simpa using h
   have h2:(r.aO !=(a:Int))=false:=by simpa using h
   simp only[HZ,QK,hq,aW,aF,hb,aq,cE,mi _ g1,ha,h1,show lZ j j=some () by unfold lZ;rw[ax rfl],eh _ hj,h2,gj,aK,aG]
  ·have h1:(r.aO==(a:Int))=false:=by simpa using h
   have h2:(r.aO !=(a:Int))=true:=by simpa using h
   simp only[HZ,QK,hq,aW,aF,hb,aq,cE,mi _ g1,ha,h1,h2,iP,aK,aG,MX m r.aO (a:Int) (-1) fY.1 fY.2 (by omega) (by omega),eh _ (show i<(eV (iE a) rs i).length by rw[ku];exact g3),hs,cD g3 (by omega)]
   exact ih
 |_,_,0,_,_,_,_,_,hm=>by simp at hm
def rA (a:Nat) (ts:bl):bl:=ts.take a++ts.drop (a+1)
def arj {i:Nat} {T:ah} (h:ts[i]? =some T) (bY:i≠a):rA a (ts.take i)++ [T]=rA a (ts.take (i+1)):=by
 unfold rA;rw[wB,h,Lu];have hl:=(cg.1 h).1;by_cases hi:i<a
 ·rw[lF (by simp;omega),qY (by simp;omega),lF (l:=ts.take i++ [T]) (by simp;omega),qY (l:=ts.take i++ [T]) (by simp;omega)]
  simp
 ·rw[YE (by simp;omega),anS (by simp;omega),kN]
def ark:rA a (ts.take (a+1))=rA a (ts.take a):=by
 unfold rA;rw[nq,nq,eg (by omega),Nat.min_self,qY (by simp;omega),qY (by simp;omega)]
def Jx (a:Nat) (ts:bl) (i:Nat):Prop:=∀q U,q<i->q≠a->ts[q]? =some U->tR a U.ak=true
def Om {P:af×Bool->Prop} (k:af->af->bl->bl->Nat->Option (af×Bool)) (s:af) (mg:aE) (a:Nat) (ha:mg.aO=(a:Int)) (ha8:a<=1000) (ts:bl) (hl:ts.length<=1000) (ht:∀T∈ts,T.ak.length<=1000/\∀r∈T.ak,mG r.aO) (v:Int) (hP:P (s,false))
  (hk:∀b4 iZ cur g,Jx a ts ts.length->Ok (k b4 (af.mk v iZ) ((rA a ts).map (nh a)) cur g) P):∀(x:bl) (i m:Nat) (b4:af) (tt cur:bl),ts.drop i=x->x.length+2000<m->cur.length=ts.length->(∀q,i<=q->cur[q]? =ts[q]?)->Jx a ts i->
  Ok (D7 k m (ts.length:Int) (i:Int) s mg b4 (af.mk v tt) ((rA a (ts.take i)).map (nh a)) cur i) P
 | [],i,m+1,b4,tt,cur,hd,hm,hc,hcq,mY=>by
  have hi:ts.length<=i:=by simpa using hd
  have hq:¬((i:Int)<(ts.length:Int)):=by omega
  simp only[D7,QJ,hq,bg,aK,aG,lF hi];refine hk _ _ _ _ λq U h1 h2 h3=>mY q U (by omega) h2 h3
 |T::x,i,m+1,b4,tt,cur,hd,hm,hc,hcq,mY=>by
  let ⟨g1,g2,g3⟩:=bN hd;have hq:(i:Int)<(ts.length:Int):=by omega
  simp at hm;have hT:=ht T (cX g1);have hb:fE cur.length (i:Int)=some i:=jl (by omega)
  have iT:cur[i]? =some T:=(hcq i (cF _)).trans g1;have z6:i<cur.length:=by omega
  have hsj:lZ i i=some ():=by unfold lZ;rw[ax rfl]
  by_cases h:i=a
  ·have h1:((i:Int)==mg.aO)=true:=by rw[ha,h];exact gX _
   have ih:=Om k s mg a ha ha8 ts hl ht v hP hk x (i+1) m (af.mk b4.av []) (cur.set i (ah.mk T.ar [] T.aP [] [])) (cur.set i (ah.mk T.ar [] T.aP [] [])) g2 (by omega) (by simpa using hc) (λq AJ=>by rw[List.getElem?_set_ne (by omega)];exact hcq q (by omega)) (λq U h1 h2 h3=>mY q U (by omega) h2 h3)
   rw[show rA a (ts.take (i+1))=rA a (ts.take i) by subst h;exact ark] at ih
   simp only[D7,QJ,hq,aW,aF,hb,aq,cE,iT,hsj,h1,eh _ z6,M0,cD g3 (by omega:ts.length<4294967296)]
   exact ih
  ·have h1:((i:Int)==mg.aO)=false:=by rw[ha];exact Br (by omega)
   have inner:=adf (X0 (M0 (D7 k m) m) m) (ts.length:Int) (i:Int) s mg a ha ha8 T.ae T.aD ((rA a (ts.take i)).map (nh a)) cur i z6 T.ak hT.1 hT.2 T.ak 0 m (af.mk b4.av []) (af.mk v cur) T (ah.mk T.ar [] T.aP [] []) rfl (by omega)
   rw[xm] at inner;simp only[D7,QJ,hq,aW,aF,hb,aq,cE,iT,hsj,h1,aK,aG];rw[show (0:Int)=((0:Nat):Int) from rfl,inner];by_cases hn:tR a T.ak=true
   ·rw[ax hn];have vw:((rA a (ts.take i)).map (nh a)).length<=1000:=by
     have:(rA a (ts.take i)).length<=ts.length:=by unfold rA;simp;omega
     simpa using (by omega:(rA a (ts.take i)).length<=1000)
    have es:((rA a (ts.take i)).map (nh a)++ [ah.mk T.ar T.ae T.aP (T.ak.map (iE a)) T.aD])=(rA a (ts.take (i+1))).map (nh a):=by
     rw[<-arj g1 h,pT];rfl
    have ih:=Om k s mg a ha ha8 ts hl ht v hP hk x (i+1) m (af.mk b4.av []) (cur.set i (ah.mk T.ar [] T.aP [] [])) (cur.set i (ah.mk T.ar [] T.aP [] [])) g2 (by omega) (by simpa using hc) (λq AJ=>by rw[List.getElem?_set_ne (by omega)];exact hcq q (by omega)) (λq U h1 h2 h3=>by
     by_cases he:q=i
     ·subst he;rw[g1] at h3;cases h3;exact hn
     ·exact mY q U (by omega) h2 h3)
    unfold X0;rw[eE _ _ (by simp at vw ⊢;omega),aq,eh _ (by simp),aq,hsj,aq,eh _ z6,aq]
    rw[nR (l:=(rA a (ts.take i)).map (nh a)++ [ah.mk T.ar T.ae T.aP (T.ak.map (iE a)) T.aD]) (by simp)]
    simp only[M0,cD g3 (by omega:ts.length<4294967296)]
    rw[es];exact ih
   ·rw[aA hn];exact Ok.pure hP
 |_,_,0,_,_,_,_,hm,_,_,_=>by simp at hm
structure MB (m:aE):Prop where
 col:mG m.aX
 to:mG m.jo
 dfn:ED m.aZ
def avM (n:Nat) (hn:1600000<n) (gC:n<4294967296) (b4 b6:af) (ts:bl) (h:∀T∈ts,BQ T):Ok (uJ n b4 b6 ts) λr=>r.1=⟨b6.av,ts⟩/\(r.2=true->kr r.1=0):=by
 unfold uJ;rw[adD n ⟨b6.av,ts⟩ h hn gC,aq];exact Ok.pure ⟨rfl,λh=>by simpa using h⟩
def EZ {j:Nat} {T:ah} (h:∀U∈ts,BQ U) (hT:BQ T):∀U∈ts.set j T,BQ U:=λU hU=>by
 rcases tE hU with h1|rfl
 ·exact h U h1
 ·exact hT
def agN {T:ah} (h:BQ T):BQ (oq f T):=λp hp=>by
 obtain ⟨q,hq,rfl⟩:=dS.1 hp;rw[aik];exact h q hq
def TG.I0 {T:ah} (h:TG k T):BQ T:=λp hp=>by have:=(h.nD p hp).2;omega
def Ok.of_eq {x y:Option Y} {P:Y->Prop} (h:x=y) (k:Ok y P):Ok x P:=h ▸ k
def bool_and {a b:Bool} (h:(a&&b)=true):a=true/\b=true:=(aY _ _).mp h
def avL (n:Nat) (hn:1700000<n) (gC:n<4294967296) (s:af) (hs:SG s) (m:aE) (hm:MB m) (h1:1<=m.bu) (h8:m.bu<=8) (h6:m.bu≠6) (j:Nat) (T:ah) (hj:m.aO=(j:Int)) (hT:s.ai[j]? =some T) (b4 b6:af) (hv:b6.av=s.av+1):
  Ok (QI n j (T.ae.length:Int) (decide (T.aP<=m.aX)&&decide (m.aX<(T.ae.length:Int))) s m b4 b6 s.ai) λr=>r.2=true->kI s m r.1/\kr r.1=0:=by
 have iy:=(cg.1 hT).1;have hG:=hs.sj T (cX hT);have sY:∀U∈s.ai,BQ U:=λU hU=>(hs.sj U hU).I0
 have hc8:=hG.cols;have DB:=hG.abl;have no:Ok (some (s,false):Option (af×Bool)) λr=>r.2=true->kI s m r.1/\kr r.1=0:=Ok.pure λh=>by cases h
 have done:∀(b4:af) (vv:af) (ts:bl),vv.av=s.av+1->(∀U∈ts,BQ U)->kI s m ⟨s.av+1,ts⟩->Ok (uJ n b4 vv ts) λr=>r.2=true->kI s m r.1/\kr r.1=0:=λb4 vv ts h2 h3 h4=>
  (avM n (by omega) gC b4 vv ts h3).mono λr ⟨e,hr⟩ h=>⟨by rw[e,h2];exact h4,hr h⟩
 have lD:setAt s.ai j T=some s.ai:=by rw[eh _ iy,nR hT]
 unfold QI;refine Ok.ite (λq=> ?_) λq1=> ?_
 ·have q:m.bu=1:=by simpa using q
  rw[MW,aq];refine Ok.ite (λ_=>no) λhr=>Ok.ite (λ_=>no) λhk=> ?_
  have hr:lW m.aV=true:=by simpa using hr
  have hk:m.aV.aC=m.aC:=by simpa using hk
  rw[hT,aq,eE _ _ (by simp;omega),aq,eh _ iy,aq]
  exact done _ _ _ hv (EZ sY hG.I0) (.avv j T q hj hT hr hk)
 refine Ok.ite (λq=> ?_) λq2=> ?_
 ·have q:m.bu=2:=by simpa using q
  rw[hT,aq];refine Ok.ite (λ_=>by rw[lD,aq];exact no) λho=> ?_
  have ho:(decide (T.aP<=m.aX)&&decide (m.aX<(T.ae.length:Int)))=true:=by
   cases hh:(decide (T.aP<=m.aX)&&decide (m.aX<(T.ae.length:Int))) with
   |true=>rfl
   |false=>rw[hh] at ho;cases ho
  let ⟨o1,o2⟩:=bool_and ho;have o1:=s8 o1;have o2:=s8 o2;obtain ⟨c,hc⟩:∃c:Nat,m.aX=(c:Int):=⟨m.aX.toNat,by omega⟩
  have gD:c<T.ae.length:=by omega
  have hx:T.ae[c]? =some T.ae[c]:=dW gD;rw[MW,aq];refine Ok.ite (λ_=>by rw[lD,aq];exact no) λhr=> ?_
  have hr:lW m.aV=true:=by simpa using hr
  rw[hc,jl gD,aq,cE,hx,aq];refine Ok.ite (λ_=>by rw[lD,aq];exact no) λhk=> ?_
  have hk:m.aV.aC=T.ae[c].aC:=by simpa using hk
  rw[ajh n T (c:Int) (by omega) hG.cp (by omega),aq]
  refine Ok.ite (λ_=>by rw[lD,aq];exact no) λhu=> ?_
  rw[lD,aq,hT,aq];have w:bh ((c:Int)+1)=((c+1:Nat):Int):=cD gD (by omega)
  have ct:wo T.ae.length (c:Int)=some c:=by unfold wo;rw[ax ⟨by omega,by omega⟩];rfl
  have cl:HJ T.ae.length ((c+1:Nat):Int)=some (c+1):=by unfold HJ;rw[ax ⟨by omega,by omega⟩];rfl
  have an:Kx T.ae c ((T.ae.drop (0+(c+1))).take (T.ae.length-(c+1)))=some (T.ae.take c++T.ae.drop (c+1)):=by
   unfold Kx;rw[cE,lF (l:=T.ae.drop (c+1)) (by simp),ax ⟨by omega,by omega,by simp;omega⟩]
  rw[w,ct,aq,cl,aq,an,aq];have tok:TOK (T.ae.length:Int) ⟨T.ar,T.ae.take c++T.ae.drop (c+1),T.aP,T.ak,T.aD⟩:=⟨by rw[w5 gD];omega,hG.tok.refs,hG.tok.ref,hG.tok.Ew,hG.tok.nD⟩
  rw[ajg n _ (T.ae.length:Int) (by omega) tok (c:Int) (-1) ⟨by omega,by omega⟩ (by omega),aq,eh _ iy,aq]
  exact done _ _ _ hv (EZ sY (agN (T:=⟨T.ar,T.ae.take c++T.ae.drop (c+1),T.aP,T.ak,T.aD⟩) hG.I0)) (.amg j c T T.ae[c] q hj hT hc hx (by omega) hr hk hu)
 refine Ok.ite (λq=> ?_) λq3=> ?_
 ·have q:m.bu=3:=by simpa using q
  refine Ok.ite (λ_=>no) λho=> ?_
  have ho:(decide (T.aP<=m.aX)&&decide (m.aX<(T.ae.length:Int)))=true:=by
   cases hh:(decide (T.aP<=m.aX)&&decide (m.aX<(T.ae.length:Int))) with
   |true=>rfl
   |false=>rw[hh] at ho;cases ho
  let ⟨o1,o2⟩:=bool_and ho;have o1:=s8 o1;have o2:=s8 o2;rw[hT,aq];refine Ok.ite (λ_=>no) λhk=>Ok.ite (λ_=>no) λhl=> ?_
  have hk:=Lj hk;have hl:m.jo<(T.ae.length:Int):=by simpa using hl
  obtain ⟨c,hc⟩:∃c:Nat,m.aX=(c:Int):=⟨m.aX.toNat,by omega⟩
  obtain ⟨d,hd⟩:∃d:Nat,m.jo=(d:Int):=⟨m.jo.toNat,by omega⟩
  have gD:c<T.ae.length:=by omega
  have sv:d<T.ae.length:=by omega
  have auf:B0 (T.ae.length:Int) ((cO.mk ByteArray.empty 0):cO)=some (List.replicate T.ae.length (cO.mk ByteArray.empty 0)):=by
   unfold B0;rw[ax ⟨by omega,by omega⟩];rfl
  rw[auf,aq,aq];let ⟨CF,e⟩:=adg (X1 (uJ n) n) j m c d hc hd T.ae hc8 gD sv s.ai T.ae 0 n (af.mk b4.av []) (af.mk b6.av s.ai) (List.replicate T.ae.length (cO.mk ByteArray.empty 0)) (ah.mk T.ar [] T.aP T.ak T.aD) rfl (by omega) (by simp) (λq hq=>by omega) (by omega)
  refine Ok.of_eq e ?_;rw[lD,aq];unfold X1;have tok:TOK (T.ae.length:Int) ⟨T.ar,wO T.ae c d,T.aP,T.ak,T.aD⟩:=⟨by rw[Mb gD sv];omega,hG.tok.refs,hG.tok.ref,hG.tok.Ew,hG.tok.nD⟩
  rw[hT,aq,ajg n _ (T.ae.length:Int) (by omega) tok m.aX m.jo hm.col (by omega),aq,eh _ iy,aq]
  refine done _ _ _ hv (EZ sY (agN (T:=⟨T.ar,wO T.ae c d,T.aP,T.ak,T.aD⟩) hG.I0)) ?_;have:=kI.move (s:=s) (m:=m) j c d T q hj hT hc hd gD sv (by omega) (by omega)
  rw[<-hc,<-hd] at this;exact this
 refine Ok.ite (λq=> ?_) λq4=> ?_
 ·have q:m.bu=4:=by simpa using q
  refine Ok.ite (λ_=>no) λhk=>Ok.ite (λ_=>no) λhl=> ?_
  have hk:=Lj hk;have hl:m.aX<(T.ae.length:Int):=by simpa using hl
  obtain ⟨c,hc⟩:∃c:Nat,m.aX=(c:Int):=⟨m.aX.toNat,by omega⟩
  have gD:c<T.ae.length:=by omega
  have hx:T.ae[c]? =some T.ae[c]:=dW gD;rw[hT,aq,hc,jl gD,aq,cE,hx,aq,eh _ gD,aq,eh _ iy,aq];exact done _ _ _ hv (EZ sY hG.I0) (.asN j c T T.ae[c] q hj hT hc hx)
 refine Ok.ite (λq=> ?_) λq5=> ?_
 ·have q:m.bu=5:=by simpa using q
  rw[hT,aq,eh _ iy,aq];exact done _ _ _ hv (EZ sY hG.I0) (.asM j T q hj hT)
 refine Ok.ite (λq=> ?_) λq7=> ?_
 ·have q:m.bu=7:=by simpa using q
  have hl8:=hs.len;have hno0:Jx j s.ai 0:=λq U h=>by omega
  have key:=Om (P:=λr=>r.2=true->kI s m r.1/\kr r.1=0) (XZ (uJ n) n) s m j hj (by omega) s.ai (by omega) (λU hU=>⟨by have:=(hs.sj U hU).refs;omega,λr hr=>by let ⟨_,_,r1,r2⟩:=(hs.sj U hU).ref r hr;exact ⟨by omega,by omega⟩⟩) b6.av (λh=>by cases h) (λCF iZ cur g mY=>by
  unfold XZ;refine done _ _ _ hv (λU hU=> ?_) ?_
  ·obtain ⟨V,hV,rfl⟩:=dS.1 hU;have hV':V∈s.ai:=by
    rcases ee.1 hV with h|h
    ·exact oH h
    ·exact tF h
   exact sY V hV'
  ·refine .amf j T q hj hT λi U hi hU r hr=> ?_
   have:=mY i U (cg.1 hU).1 hi hU;unfold tR at this;rw[dV] at this;have:=this r hr;simpa using this) s.ai 0 n (af.mk b4.av []) s.ai s.ai rfl (by omega) rfl (λ_ _=>rfl) hno0
  rw[show (rA j (s.ai.take 0)).map (nh (j:Int))= [] by simp[rA]] at key
  exact key
 ·have q:m.bu=8:=by simp at q1 q2 q3 q4 q5 q7;omega
  rw[hT,aq];refine Ok.ite (λ_=>by rw[lD,aq];exact no) λho=> ?_
  have ho:(decide (T.aP<=m.aX)&&decide (m.aX<(T.ae.length:Int)))=true:=by
   cases hh:(decide (T.aP<=m.aX)&&decide (m.aX<(T.ae.length:Int))) with
   |true=>rfl
   |false=>rw[hh] at ho;cases ho
  let ⟨o1,o2⟩:=bool_and ho;have o1:=s8 o1;have o2:=s8 o2;obtain ⟨c,hc⟩:∃c:Nat,m.aX=(c:Int):=⟨m.aX.toNat,by omega⟩
  have gD:c<T.ae.length:=by omega
  have hx:T.ae[c]? =some T.ae[c]:=dW gD;rw[hc,jl gD,aq,cE,hx,aq,aBU n m.cI _ (by omega),aq]
  refine Ok.ite (λ_=>by rw[lD,aq];exact no) λhp=> ?_
  rw[ajh n T (c:Int) (by omega) hG.cp (by omega),aq]
  refine Ok.ite (λ_=>by rw[lD,aq];exact no) λhu=> ?_
  rw[lD,aq];exact done _ _ _ hv sY (.Pc j c T T.ae[c] q hj hT hc hx (by omega) (by simpa using hp) hu)
def aHy (n:Nat) (hn:1700000<n) (gC:n<4294967296) (s:af) (hs:SG s) (m:aE) (hm:MB m):Ok (F95 n s m) λr=>r.2=true->ug m=true/\kI s m r.1/\kr r.1=0:=by
 have no:Ok (some (s,false):Option (af×Bool)) λr=>r.2=true->ug m=true/\kI s m r.1/\kr r.1=0:=Ok.pure λh=>by cases h
 have hl8:=hs.len;have Dy:=hs.v0;have zV:=hs.v1;unfold F95 aej;refine Ok.bind (aBV n m) λb hb=>Ok.ite (λ_=>no) λcn=> ?_
 have vw:=hb (by simpa using cn)
 have e:=adh (QL n) s.ai (by omega) (λT hT=>(hs.sj T hT).cp) s m s.ai 0 n (af.mk 0 []) (af.mk (bh (s.av+1)) []) rfl (by omega)
 refine Ok.of_eq e ?_;rw[dI (by omega) (by omega)]
 have h18:1<=m.bu/\m.bu<=8:=by
  unfold ug at vw;simp only[aY,lI] at vw;exact ⟨vw.1,vw.2.1⟩
 unfold QL;refine Ok.ite (λq=> ?_) λq6=>Ok.ite (λ_=>no) λt0=>Ok.ite (λ_=>no) λt1=> ?_
 ·have q:m.bu=6:=by simpa using q
  rw[aji n m.aZ hm.dfn.len hm.dfn.ref (by omega),aq,eE _ _ (by simp;omega),aq,eh _ (by simp),aq,nR (by simp)]
  have hz:∀T∈s.ai++ [m.aZ],BQ T:=λT hT=>by
   rcases ee.1 hT with h|h
   ·exact (hs.sj T h).I0
   ·rw[cB.1 h];exact λp hp=>by have:=hm.dfn.nD p hp;omega
  rw[adD n ⟨s.av+1,s.ai++ [m.aZ]⟩ hz (by omega) gC,aq]
  exact Ok.pure λh=>⟨vw,.avu q,by simpa using h⟩
 ·have q6:m.bu≠6:=by simpa using q6
  have t0:=Lj t0;have t1:m.aO<(s.ai.length:Int):=by simpa using t1
  obtain ⟨j,hj⟩:∃j:Nat,m.aO=(j:Int):=⟨m.aO.toNat,by omega⟩
  have iy:j<s.ai.length:=by omega
  have hT:s.ai[j]? =some s.ai[j]:=dW iy;rw[hj,jl iy,aq,cE,hT,aq];have fin:=λb4 b6 hv=>avL n hn gC s hs m hm h18.1 h18.2 q6 j s.ai[j] hj hT b4 b6 hv
  have lD:setAt s.ai j s.ai[j]=some s.ai:=by rw[eh _ iy,nR hT]
  refine Ok.ite (λhk=> ?_) λhk=> ?_
  ·have hk:s.ai[j].aP<=m.aX:=by simpa using hk
   rw[lD,aq];have:=fin (af.mk 0 []) (af.mk (s.av+1) s.ai) rfl;rw[tG hk,iP] at this;exact this.mono λr hr h=>⟨vw,hr h⟩
  ·have hk:¬s.ai[j].aP<=m.aX:=by simp at hk;omega
   rw[lD,aq];have:=fin (af.mk 0 []) (af.mk (s.av+1) s.ai) rfl;rw[OG hk,gj] at this;exact this.mono λr hr h=>⟨vw,hr h⟩
section
mutual
def Px {N:Int} {f g:Int->Int}:∀{p:ag},pS N p=true->(∀x,0<=x->x<N->o8 x p=true->f x=g x)->mj f p=mj g p
 |⟨op,c,l,r,args⟩,hp,h=>by
  simp only[pS,aY] at hp;let ⟨qK,hp2⟩:=hp;have ha:=Nh hp2 λx h0 h1 h2=>h x h0 h1 (by simp[o8,h2])
  simp only[mj,ha];by_cases h3:op=3
  ·subst h3;simp only[gX,aF,aY] at qK;have ho:∀o:aL,Au N o=true->(∀x,o9 x o=true->o8 x ⟨3,c,l,r,args⟩=true)->kf f o=kf g o:=λo ho hc=>by
    unfold kf;split
    ·rename_i hk;have gO:o.aC=1:=by simpa using hk
     simp[Au,gO] at ho;rw[h o.cJ ho.1 ho.2 (hc _ (by simp[o9,gO]))]
    ·rfl
   rw[ho l qK.1 λx hx=>by simp[o8,hx],ho r qK.2 λx hx=>by simp[o8,hx]]
  ·have bY:(op==3)=false:=by simpa using h3
   rw[bY] at qK;simp at qK;rw[wQ qK.1,wQ qK.1,wQ qK.2,wQ qK.2]
def Nh {N:Int} {f g:Int->Int}:∀{xs:bJ},Jn N xs=true->(∀x,0<=x->x<N->qp x xs=true->f x=g x)->iN f xs=iN g xs
 | [],_,_=>by simp[iN]
 |p::xs,hp,h=>by
  simp only[Jn,aY] at hp;simp only[iN,Px hp.1 λx h0 h1 h2=>h x h0 h1 (by simp[qp,h2]),Nh hp.2 λx h0 h1 h2=>h x h0 h1 (by simp[qp,h2])]
end
def Pw {g:Int->Int} {T:ah} (hr:∀r∈T.ak,∀c∈r.ae,f c=g c) (hp:∀p∈T.aD,pS N p=true/\∀x,0<=x->x<N->o8 x p=true->f x=g x):oq f T=oq g T:=by
 unfold oq;have e1:T.ak.map (gG f)=T.ak.map (gG g):=Bv λr h=>by
  unfold gG;rw[Bv λc hc=>hr r h c hc]
 have e2:T.aD.map (mj f)=T.aD.map (mj g):=Bv λp h=>Px (hp p h).1 (hp p h).2
 rw[e1,e2]
def Vs (n:Nat) (v:bj) (k:Int):Vt n v k=some (lW v&&v.aC==k):=by
 unfold Vt aeF;rw[ajd,aq];cases lW v<;>simp
def Od {C:List Y} (h:c<C.length):U8 C (c:Int) ((c+1:Nat):Int)=some (C.take c++C.drop (c+1),C.take c++C.drop (c+1)):=by
 unfold U8;rw[ax ⟨by omega,by omega,by omega⟩]
 rfl
section
variable {n:Nat} {s:af} {m:aE} {j:Nat} {T:ah}
def aBT (hs:SG s) (hj:m.aO=(j:Int)) (hT:s.ai[j]? =some T) (v:Int) (hv:lW m.aV=true) (hk:m.aV.aC=m.aC):aea n (az.mk (af.mk v s.ai) m)=some (true,az.mk (af.mk v (s.ai.set j ⟨T.ar,T.ae++ [⟨m.ar,m.aC⟩],T.aP,T.ak,T.aD⟩)) m):=by
 have iy:=(cg.1 hT).1;have hG:=hs.sj T (cX hT);have h8:=hG.cols;unfold aea afg;rw[Gu n v s.ai m j hj iy,aq];simp only[hT,aq,eE T.ae [(⟨m.ar,m.aC⟩:cO)] (by simp;omega),Vs,hv,hk,gX,iP,eh _ iy]
def aBS (hs : SG s) (hj : m.aO = (j : Int)) (hT : s.ai[j]? = some T) (v : Int) (dN : m.bu = 2) (c : Nat) (x : cO) (hc : m.aX = (c : Int)) (hx : T.ae[c]? = some x) (hk : T.aP <= (c : Int)) (hv : lW m.aV = true) (FA : m.aV.aC = x.aC) (hu : AX (c : Int) T = false) (hn : 100000 < n) :
    adZ n (az.mk (af.mk v s.ai) m) = some (true, az.mk (af.mk v (s.ai.set j (oq (eM (c : Int) (-1)) ⟨T.ar, T.ae.take c ++ T.ae.drop (c + 1), T.aP, T.ak, T.aD⟩))) m) := by
  have iy := (cg.1 hT).1
  have gD := (cg.1 hx).1
  have hG := hs.sj T (cX hT)
  have h8 := hG.cols
  have lD : setAt s.ai j T = some s.ai := by rw [eh _ iy, nR hT]
  have J4 := MV n v s.ai m j T hj hT m.aX
  rw [hc, tG hk, tG (show (c : Int) < (T.ae.length : Int) by omega)] at J4
  have abX := aiU n v s.ai m j T hj hT (by omega) hG.cp (by omega)
  rw [hc, hu] at abX
  have w : bh ((c : Int) + 1) = ((c + 1 : Nat) : Int) := cD gD (by omega)
  unfold adZ aff
  rw [Gu n v s.ai m j hj iy, aq, C6 n v s.ai m j T hj hT, aq]
  simp only [hT, aq, lD, hc, J4, sI, fA, aK, aG, jl gD, cE, hx, Vs, hv, FA, gX, abX, w]
  rw [show adK n T.ae (c : Int) ((c + 1 : Nat) : Int) = some (T.ae.take c ++ T.ae.drop (c + 1), T.ae.take c ++ T.ae.drop (c + 1)) from Od gD, aq]
  simp only [eh _ iy, aq]
  have tok : TOK (T.ae.length : Int) ⟨T.ar, T.ae.take c ++ T.ae.drop (c + 1), T.aP, T.ak, T.aD⟩ := ⟨by rw [w5 gD]; omega, hG.tok.refs, hG.tok.ref, hG.tok.Ew, hG.tok.nD⟩
  rw [aiT n v _ m j _ hj (uw iy) (.inl dN) (by rw [hc]; exact ⟨by omega, by omega⟩) (T.ae.length : Int) (by omega) tok (by omega), aq, pI]
  have rF : qM (c : Int) T.ak = false /\ qN (c : Int) T.aD = false := by
    unfold AX at hu; exact Bool.or_eq_false_iff.1 hu
  have at2 : ∀ y : Int, 0 <= y -> y ≠ (c : Int) -> j6 m y = eM (c : Int) (-1) y := λy h0 h1 => by
    unfold j6 eM
    rw [ax dN, hc, aA (show ¬ y < 0 by omega), aA h1, ax (show (-1 : Int) < 0 by omega)]
  have hmt : oq (j6 m) ⟨T.ar, T.ae.take c ++ T.ae.drop (c + 1), T.aP, T.ak, T.aD⟩ = oq (eM (c : Int) (-1)) ⟨T.ar, T.ae.take c ++ T.ae.drop (c + 1), T.aP, T.ak, T.aD⟩ := by
   refine Pw (N := (T.ae.length : Int)) (λr hr y hy => ?_) λp hp => ⟨(hG.nD p hp).1, λy h0 h1 h2 => ?_⟩
   · refine at2 y ((hG.ref r hr).2.1 y hy).1 λe => ?_
     have h3 := rF.1
     unfold qM at h3
     rw [List.any_eq_false] at h3
     exact h3 r hr (by rw [<- e]; exact tG hy)
   · refine at2 y h0 λe => ?_
     have h3 := rF.2
     unfold qN at h3
     rw [List.any_eq_false] at h3
     exact h3 p hp (by rw [<- e]; exact h2)
  rw [hmt]
def aBR (hs:SG s) (hj:m.aO=(j:Int)) (hT:s.ai[j]? =some T) (v:Int) (dN:m.bu=3) (c d:Nat) (hc:m.aX=(c:Int)) (hd:m.jo=(d:Int)) (h1:c<T.ae.length) (h2:d<T.ae.length) (hk:T.aP<=(c:Int)) (yd:T.aP<=(d:Int)) (hn:100000<n):
  adY n (az.mk (af.mk v s.ai) m)=some (true,az.mk (af.mk v (s.ai.set j (oq (eM (c:Int) (d:Int)) ⟨T.ar,wO T.ae c d,T.aP,T.ak,T.aD⟩))) m):=by
 have iy:=(cg.1 hT).1;have hG:=hs.sj T (cX hT);have h8:=hG.cols;have DB:=hG.abl;have J4:=MV n v s.ai m j T hj hT m.aX;rw[hc,tG hk,tG (show (c:Int)<(T.ae.length:Int) by omega)] at J4
 have axl:=MV n v s.ai m j T hj hT m.jo;rw[hd,tG yd,tG (show (d:Int)<(T.ae.length:Int) by omega)] at axl
 have w:bh ((c:Int)+1)=((c+1:Nat):Int):=cD h1 (by omega)
 have sv:=w5 h1;have hins:abv (T.ae.take c++T.ae.drop (c+1)) (d:Int) [T.ae[c]]=some (wO T.ae c d,wO T.ae c d):=by
  unfold abv;rw[ax ⟨by omega,by omega,by omega,by simp,by omega,by simp⟩]
  unfold wO;rw[dW h1];rfl
 unfold adY afe;rw[Gu n v s.ai m j hj iy,aq];simp only[hc,J4,aq,sI,fA,aK,aG,hd,axl,hT,jl h1,cE,dW h1,w];rw[show adK n T.ae (c:Int) ((c+1:Nat):Int)=some (T.ae.take c++T.ae.drop (c+1),T.ae.take c++T.ae.drop (c+1)) from Od h1,aq];rw[show avG n (T.ae.take c++T.ae.drop (c+1)) (d:Int) [T.ae[c]]=some (wO T.ae c d,wO T.ae c d) from hins,aq];simp only[eh _ iy,aq];have tok:TOK (T.ae.length:Int) ⟨T.ar,wO T.ae c d,T.aP,T.ak,T.aD⟩:=⟨by rw[Mb h1 h2];omega,hG.tok.refs,hG.tok.ref,hG.tok.Ew,hG.tok.nD⟩
 rw[aiT n v _ m j _ hj (uw iy) (.inr dN) (by rw[hc];exact ⟨by omega,by omega⟩) (T.ae.length:Int) (by omega) tok (by omega),aq,pI]
 have at3:∀y:Int,0<=y->j6 m y=eM (c:Int) (d:Int) y:=λy h0=>by
  unfold j6 eM;rw[aA (show ¬m.bu=2 by omega),ax dN,hc,hd,aA (show ¬y<0 by omega),aA (show ¬(d:Int)<0 by omega)]
  by_cases e1:y=(c:Int)
  ·rw[ax e1,ax e1]
  ·rw[aA e1,aA e1];by_cases e2:(c:Int)<y/\y<=(d:Int)
   ·rw[ax e2,ax (show (c:Int)<(d:Int)/\(c:Int)<y/\y<=(d:Int) by omega)]
   ·rw[aA e2,aA (show ¬((c:Int)<(d:Int)/\(c:Int)<y/\y<=(d:Int)) by omega)]
    by_cases e3:(d:Int)<=y/\y<(c:Int)
    ·rw[ax e3,ax (show (d:Int)<(c:Int)/\(d:Int)<=y/\y<(c:Int) by omega)]
    ·rw[aA e3,aA (show ¬((d:Int)<(c:Int)/\(d:Int)<=y/\y<(c:Int)) by omega)]
 have hmt:oq (j6 m) ⟨T.ar,wO T.ae c d,T.aP,T.ak,T.aD⟩=oq (eM (c:Int) (d:Int)) ⟨T.ar,wO T.ae c d,T.aP,T.ak,T.aD⟩:=Pw (N:=(T.ae.length:Int)) (λr hr y hy=>at3 y ((hG.ref r hr).2.1 y hy).1) λp hp=>⟨(hG.nD p hp).1,λy h0 h1 h2=>at3 y h0⟩
 rw[hmt]
def aBQ (hs:SG s) (hj:m.aO=(j:Int)) (hT:s.ai[j]? =some T) (v:Int) (c:Nat) (x:cO) (hc:m.aX=(c:Int)) (hx:T.ae[c]? =some x):
  adX n (az.mk (af.mk v s.ai) m)=some (true,az.mk (af.mk v (s.ai.set j ⟨T.ar,T.ae.set c ⟨m.ar,x.aC⟩,T.aP,T.ak,T.aD⟩)) m):=by
 have iy:=(cg.1 hT).1;have gD:=(cg.1 hx).1;unfold adX afd;rw[Gu n v s.ai m j hj iy,aq];have q1:¬((c:Int)<0):=by omega
 have q2:(c:Int)<(T.ae.length:Int):=by omega
 simp only[hT,aq,hc,q1,q2,bg,aW,fA,aK,aG,jl gD,cE,hx,eh _ gD,eh _ iy]
def aBP (hj:m.aO=(j:Int)) (hT:s.ai[j]? =some T) (v:Int):
  adW n (az.mk (af.mk v s.ai) m)=some (true,az.mk (af.mk v (s.ai.set j ⟨m.ar,T.ae,T.aP,T.ak,T.aD⟩)) m):=by
 have iy:=(cg.1 hT).1;unfold adW afc;rw[Gu n v s.ai m j hj iy,aq,C6 n v s.ai m j T hj hT,aq];simp only[hT,aq,eh _ iy]
def aBO (hs:SG s) (hm:MB m) (v:Int) (hn:100000<n):
  adV n (az.mk (af.mk v s.ai) m)=some (true,az.mk (af.mk v (s.ai++ [m.aZ])) m):=by
 have h8:=hs.len;unfold adV afb;rw[arO n m.aZ hm.dfn.len hm.dfn.ref hm.dfn.nD (by omega),aq]
 simp only[eE s.ai [m.aZ] (by simp;omega),aq]
 rw[eh _ (by simp),aq,nR (by simp)]
end
def WH (k:Int->Int->az->bl->Option (Bool×az)) (i3 t16 t17:Int) (mg:aE) (a:Nat) (ha:mg.aO=(a:Int)) (v:Int) (cur:bl) (j:Nat) (ch:bJ) (cs:cG) (rs:cf) (hl:rs.length<=1000) (ho:i3=(a:Int)\/tR a rs=true):∀(x:cf) (i m:Nat) (tt:bl) (rr:ah),rs.drop i=x->x.length<m->
  Ga k m i3 t16 t17 (rs.length:Int) (i:Int) (az.mk (af.mk v tt) mg) cur rr j ch cs rs=((setAt cur j (ah.mk rr.ar cs rr.aP rs ch)).bind λz2=>k t16 t17 (az.mk (af.mk v z2) mg) z2)
 | [],i,m+1,tt,rr,hd,hm=>by
  have hi:rs.length<=i:=by simpa using hd
  have hq:¬((i:Int)<(rs.length:Int)):=by omega
  simp only[Ga,RA,hq,bg,aK,aG]
 |r::x,i,m+1,tt,rr,hd,hm=>by
  let ⟨g1,g2,g3⟩:=bN hd;have hq:(i:Int)<(rs.length:Int):=by omega
  have ih:=WH k i3 t16 t17 mg a ha v cur j ch cs rs hl ho x (i+1) m cur (ah.mk rr.ar [] rr.aP [] []) g2 (by simp at hm;omega)
  have hs:setAt rs i r=some rs:=by rw[eh _ g3,nR g1]
  simp only[Ga,RA,hq,aW,aF,jl g3,aq,cE,g1,ha,hs,cD g3 (by omega)]
  by_cases h:i3=(a:Int)
  ·have h1:(i3 !=(a:Int))=false:=by simpa using h
   simp only[h1,aK,aG];exact ih
  ·have h1:(i3 !=(a:Int))=true:=by simpa using h
   have h2:(r.aO==(a:Int))=false:=by
    rcases ho with ho|ho
    ·exact absurd ho h
    ·unfold tR at ho;rw[dV] at ho;have:=ho r (cX g1);simpa using this
   simp only[h1,aF,h2,aK,aG];exact ih
 |_,_,0,_,_,_,hm=>by simp at hm
def WG (k:az->bl->Option (Bool×az)) (mg:aE) (a:Nat) (ha:mg.aO=(a:Int)) (v:Int) (ts:bl) (hl:ts.length<=1000) (ht:∀T∈ts,T.ak.length<=1000) (mY:Jx a ts ts.length):∀(x:bl) (i m:Nat) (tt:bl),ts.drop i=x->x.length+1000<m->
  CT k m (ts.length:Int) (i:Int) (az.mk (af.mk v tt) mg) ts=k (az.mk (af.mk v ts) mg) ts
 | [],i,m+1,tt,hd,hm=>by
  have hi:ts.length<=i:=by simpa using hd
  have hq:¬((i:Int)<(ts.length:Int)):=by omega
  simp only[CT,Ry,hq,bg,aK,aG]
 |T::x,i,m+1,tt,hd,hm=>by
  let ⟨g1,g2,g3⟩:=bN hd;have hq:(i:Int)<(ts.length:Int):=by omega
  simp at hm;have hT:=ht T (cX g1);have ih:=WG k mg a ha v ts hl ht mY x (i+1) m ts g2 (by omega)
  have inner:=WH (Rz (CT k m) m) (i:Int) (ts.length:Int) (i:Int) mg a ha v ts i T.aD T.ae T.ak hT (by
   by_cases h:i=a
   ·exact .inl (by omega)
   ·exact .inr (mY i T g3 h g1)) T.ak 0 m ts (ah.mk T.ar [] T.aP [] []) rfl (by omega)
  have hs:setAt ts i T=some ts:=by rw[eh _ g3,nR g1]
  simp only[CT,Ry,hq,aW,aF,jl g3,aq,cE,g1];refine inner.trans ?_;show (setAt ts i T).bind _=_;rw[hs,aq];simp only[Rz,cD g3 (by omega:ts.length<4294967296)]
  exact ih
 |_,_,0,_,_,hm=>by simp at hm
def WE (k:Int->Int->az->bl->Option (Bool×az)) (t74 t75:Int) (mg:aE) (a:Nat) (ha:mg.aO=(a:Int)) (ha8:a<=1000) (v:Int) (cs:cG) (ch:bJ) (cur:bl) (j:Nat) (rs:cf) (hl:rs.length<=1000) (hr:∀r∈rs,mG r.aO):∀(x:cf) (i m:Nat) (tt:bl) (b8 rr:ah),rs.drop i=x->x.length<m->
  CS k m t74 t75 (rs.length:Int) (i:Int) (az.mk (af.mk v tt) mg) b8 cs ch cur rr j (eV (iE a) rs i)=((setAt cur j (ah.mk rr.ar cs rr.aP (rs.map (iE a)) ch)).bind λz2=>k t74 t75 (az.mk (af.mk v z2) mg) z2)
 | [],i,m+1,tt,b8,rr,hd,hm=>by
  have hi:rs.length<=i:=by simpa using hd
  have hq:¬((i:Int)<(rs.length:Int)):=by omega
  simp only[CS,KX,hq,bg,aK,aG,rQ _ _ hi]
 |r::x,i,m+1,tt,b8,rr,hd,hm=>by
  let ⟨g1,g2,g3⟩:=bN hd;have hq:(i:Int)<(rs.length:Int):=by omega
  have fY:=hr r (cX g1);have ih:=WE k t74 t75 mg a ha ha8 v cs ch cur j rs hl hr x (i+1) m cur (ah.mk b8.ar cs b8.aP (eV (iE a) rs (i+1)) ch) (ah.mk rr.ar [] rr.aP [] []) g2 (by simp at hm;omega)
  have JT:i<(eV (iE a) rs i).length:=by rw[ku];exact g3
  have hs:setAt (eV (iE a) rs i) i r=some (eV (iE a) rs i):=by rw[eh _ JT,nR (mi _ g1)]
  have hs2:(eV (iE a) rs i).set i r=eV (iE a) rs i:=nR (mi _ g1);have e:=rP (iE a) g1;by_cases h:(a:Int)<r.aO
  ·have hd:iE (a:Int) r=bf.mk r.ae (r.aO-1):=by
    unfold iE eM;rw[ax (by omega),ax h]
   rw[hd] at e;simp only[CS,KX,hq,aW,aF,jl JT,aq,cE,mi _ g1,ha,h,hs,hs2,dI (x:=r.aO-1) (by have:=fY.1;omega) (by have:=fY.2;omega),eh _ JT,e,cD g3 (by omega)]
   exact ih
  ·have hd:iE (a:Int) r=r:=by
    unfold iE eM;rw[ax (by omega),aA h]
   rw[hd] at e;have e2:eV (iE a) rs i=eV (iE a) rs (i+1):=by rw[<-e,nR (mi _ g1)]
   simp only[CS,KX,hq,aW,aF,jl JT,aq,cE,mi _ g1,ha,h,bg,aK,aG,hs,cD g3 (by omega)]
   rw[e2];exact ih
 |_,_,0,_,_,_,_,hm=>by simp at hm
def WD (k:az->bl->Option (Bool×az)) (mg:aE) (a:Nat) (ha:mg.aO=(a:Int)) (ha8:a<=1000) (v:Int) (ts:bl) (hl:ts.length<=1000) (ht:∀T∈ts,T.ak.length<=1000/\∀r∈T.ak,mG r.aO):∀(x:bl) (i m:Nat) (tt:bl),ts.drop i=x->x.length+1000<m->
  CQ k m (ts.length:Int) (i:Int) (az.mk (af.mk v tt) mg) (eV (nh a) ts i)=k (az.mk (af.mk v (ts.map (nh a))) mg) (ts.map (nh a))
 | [],i,m+1,tt,hd,hm=>by
  have hi:ts.length<=i:=by simpa using hd
  have hq:¬((i:Int)<(ts.length:Int)):=by omega
  simp only[CQ,Rw,hq,bg,aK,aG,rQ _ _ hi]
 |T::x,i,m+1,tt,hd,hm=>by
  let ⟨g1,g2,g3⟩:=bN hd;have hq:(i:Int)<(ts.length:Int):=by omega
  simp at hm;have hT:=ht T (cX g1);have ih:=WD k mg a ha ha8 v ts hl ht x (i+1) m (eV (nh a) ts (i+1)) g2 (by omega)
  have JT:i<(eV (nh a) ts i).length:=by rw[ku];exact g3
  have inner:=WE (Rx (CQ k m) m) (ts.length:Int) (i:Int) mg a ha ha8 v T.ae T.aD (eV (nh a) ts i) i T.ak hT.1 hT.2 T.ak 0 m (eV (nh a) ts i) T (ah.mk T.ar [] T.aP [] []) rfl (by omega)
  rw[xm] at inner;have e:(eV (nh a) ts i).set i (ah.mk T.ar T.ae T.aP (T.ak.map (iE a)) T.aD)=eV (nh a) ts (i+1):=rP (nh a) g1;simp only[CQ,Rw,hq,aW,aF,jl JT,aq,cE,mi _ g1];refine inner.trans ?_;show (setAt _ i (ah.mk T.ar T.ae T.aP (T.ak.map (iE a)) T.aD)).bind _=_;rw[eh _ JT,e,aq];simp only[Rx,cD g3 (by omega:ts.length<4294967296)]
  exact ih
 |_,_,0,_,_,hm=>by simp at hm
def aBN {n:Nat} {s:af} {m:aE} {j:Nat} (hs:SG s) (hj:m.aO=(j:Int)) (iy:j<s.ai.length) (v:Int) (hr:∀i U,i≠j->s.ai[i]? =some U->∀r∈U.ak,r.aO≠(j:Int)) (hn:100000<n):
  adU n (az.mk (af.mk v s.ai) m)=some (true,az.mk (af.mk v ((s.ai.take j++s.ai.drop (j+1)).map (nh (j:Int)))) m):=by
 have h8:=hs.len;have mY:Jx j s.ai s.ai.length:=λq U _ bY hU=>by
  unfold tR;rw[dV];intro r fY;have:=hr q U bY hU r fY;simpa using this
 have sv:=w5 iy;unfold adU aeZ;have e1:=WG (Rv n) m j hj v s.ai (by omega) (λT hT=>by have:=(hs.sj T hT).refs;omega) mY s.ai 0 n s.ai rfl (by omega)
 refine Eq.trans e1 ?_;unfold Rv;have w:bh ((j:Int)+1)=((j+1:Nat):Int):=cD iy (by omega)
 simp only[hj,w];rw[show avF n s.ai (j:Int) ((j+1:Nat):Int)=some (s.ai.take j++s.ai.drop (j+1),s.ai.take j++s.ai.drop (j+1)) from Od iy,aq];have yR:∀T∈s.ai.take j++s.ai.drop (j+1),T∈s.ai:=λT hT=>by
  rcases ee.1 hT with h|h
  ·exact oH h
  ·exact tF h
 have e2:=WD (afa n) m j hj (by omega) v (s.ai.take j++s.ai.drop (j+1)) (by omega) (λT hT=>⟨by have:=(hs.sj T (yR T hT)).refs;omega,λr fY=>by let ⟨_,_,r1,r2⟩:=(hs.sj T (yR T hT)).ref r fY;exact ⟨by omega,by omega⟩⟩) (s.ai.take j++s.ai.drop (j+1)) 0 n (s.ai.take j++s.ai.drop (j+1)) rfl (by omega)
 rw[xm] at e2;exact e2
end
def w01:bh (0+1)=1:=dI (by omega) (by omega)
def w10:bh (1-1)=0:=dI (by omega) (by omega)
def w11:bh (1+1)=2:=dI (by omega) (by omega)
def w20:bh (2-0)=2:=dI (by omega) (by omega)
def w1_0:bh (1-0)=1:=dI (by omega) (by omega)
def amw (x y:Y):fE [x,y].length 0=some 0:=rfl
def avo (x y:Y):fE [x,y].length 1=some 1:=rfl
def bl10 (x:Y):fE [x].length 0=some 0:=rfl
def avA (n:Nat) (hn:10<n) (x:qu):Oo n [x] 0 1=some [x]:=by
 obtain ⟨m,rfl⟩:∃q,n=q+3:=⟨n-3,by omega⟩
 simp only[Oo,QT,w01,sD,Gw,show ¬((1:Int)<1) by omega,bg,aK,aG]
def avz (n:Nat) (hn:100<n) (x y:qu) (hx:x.length<=10) (hy:y.length<=10):Oo n [x,y] 0 2=some (if rf y x<0 then [y,x] else [x,y]):=by
 obtain ⟨m,rfl⟩:∃q,n=q+4:=⟨n-4,by omega⟩
 have tail:∀l:dC,xX (sD (m+3)) (m+3) 0 2 1 l=some l:=λl=>by
  simp only[xX,w11,sD,Gw,show ¬((2:Int)<2) by omega,bg,aK,aG]
 have e:Oo (m+4) [x,y] 0 2=FQ (xX (sD (m+3)) (m+3)) (m+3) 0 2 1 1 [x,y]:=by
  simp only[Oo,QT,w01];show Gw (sD (m+3)) (m+3) 0 2 1 [x,y]=_;simp only[Gw,show ((1:Int)<2) by omega,aW,aF]
 rw[e];show Gx (xX (sD (m+3)) (m+3)) (FQ (xX (sD (m+3)) (m+3)) (m+2)) (m+2) 0 2 1 1 [x,y]=_;simp only[Gx,show ((0:Int)<1) by omega,aW,aF,avo,w10,amw,aq,cE,wA,sg,arP (m+2) y x (by omega) (by omega)]
 by_cases h:rf y x<0
 ·have s1:setAt [x,y] 1 x=some [x,x]:=rfl;have s2:setAt [x,x] 0 y=some [y,x]:=rfl;simp only[h,aW,aF,s1,aq,wA,s2];show Gx (xX (sD (m+3)) (m+3)) (FQ (xX (sD (m+3)) (m+3)) (m+1)) (m+1) 0 2 1 0 [y,x]=_;simp only[Gx,show ¬((0:Int)<0) by omega,bg,aK,aG]
  exact tail _
 ·simp only[h,bg,aK,aG];exact tail _
def aHI (n:Nat):Vr n (IntKind.wrap .u64 (((1:Nat)):Int))=some 1:=by kernel_rfl
def aHH (n:Nat):Vr n (IntKind.wrap .u64 (((2:Nat)):Int))=some 2:=by kernel_rfl
def zw (a:Nat):lZ a a=some ():=by unfold lZ;rw[ax rfl]
def avE (n:Nat) (hn:100<n) (x:qu) (hx:x.length<=10):Ot n [x]=some [x]:=by
 obtain ⟨m,rfl⟩:∃q,n=q+4:=⟨n-4,by omega⟩
 have auz:Vp (m+4) [x]=some [x]:=by
  unfold Vp Q1;show (app [] [x]).bind _=_;rw[eE _ _ (by simp)];rfl
 have auw:Vn (m+4) [x] 0 1 1=some [x]:=by
  show Gy (KF (m+3)) (m+3) 0 1 1 true true [x]=_;simp only[Gy,w1_0,show ¬((12:Int)<1) by omega,bg,kJ,aF,avA (m+3) (by omega),aq,zw]
 have auy:Vo (m+4) [x]=some [x]:=by
  unfold Vo QZ;show (Vr (m+4) (IntKind.wrap .u64 (((1:Nat)):Int))).bind _=_;rw[aHI,aq];show (Vn (m+4) [x] 0 1 1).bind _=_;rw[auw,aq,zw];rfl
 unfold Ot Q4;rw[auz,aq,auy,aq,zw,aq];show sF (pd (m+4)) (xS (pd (m+4)) (m+3)) (m+3) 1 0 [x] []=_;simp only[sF,show ((0:Int)<1) by omega,aW,aF,bl10,aq,cE,wA,gX,eE [] x (by simp;omega),nr,eE [] [x] (by simp),w01]
 show sF (pd (m+4)) (xS (pd (m+4)) (m+2)) (m+2) 1 1 [x] [x]=_;simp only[sF,show ¬((1:Int)<1) by omega,bg,aK,aG,pd]
def adI (n:Nat) (hn:200<n) (x y:qu) (hx:x.length<=10) (hy:y.length<=10) (bY:rf x y≠0) (hne2:rf y x≠0):Ot n [x,y]=some (if rf y x<0 then [y,x] else [x,y]):=by
 obtain ⟨m,rfl⟩:∃q,n=q+4:=⟨n-4,by omega⟩
 have auz:Vp (m+4) [x,y]=some [x,y]:=by
  unfold Vp Q1;show (app [] [x,y]).bind _=_;rw[eE _ _ (by simp)];rfl
 have auw:Vn (m+4) [x,y] 0 2 2=some (if rf y x<0 then [y,x] else [x,y]):=by
  show Gy (KF (m+3)) (m+3) 0 2 2 true true [x,y]=_;simp only[Gy,w20,show ¬((12:Int)<2) by omega,bg,kJ,aF,avz (m+3) (by omega) x y hx hy,aq]
  split<;>rfl
 have auy:Vo (m+4) [x,y]=some (if rf y x<0 then [y,x] else [x,y]):=by
  unfold Vo QZ;show (Vr (m+4) (IntKind.wrap .u64 (((2:Nat)):Int))).bind _=_;rw[aHH,aq];show (Vn (m+4) [x,y] 0 2 2).bind _=_;rw[auw,aq];split<;>rfl
 have fin:∀p q:qu,p.length<=10->q.length<=10->rf p q≠0->xS (pd (m+4)) (m+4) 2 0 [p,q] []=some [p,q]:=λp q hp hq h=>by
  show sF (pd (m+4)) (xS (pd (m+4)) (m+3)) (m+3) 2 0 [p,q] []=_;simp only[sF,show ((0:Int)<2) by omega,aW,aF,amw,aq,cE,wA,gX,eE [] p (by simp;omega),nr,eE [] [p] (by simp),w01]
  show sF (pd (m+4)) (xS (pd (m+4)) (m+2)) (m+2) 2 1 [p,q] [p]=_;have hn:(rf p q !=0)=true:=by simpa using h
  simp only[sF,show ((1:Int)<2) by omega,aW,aF,avo,aq,cE,wA,sg,show ((1:Int)==0)=false from rfl,aK,aG,w10,amw,arP (m+2) p q (by omega) (by omega),hn,eE [] q (by simp;omega),nr,eE [p] [q] (by simp),Lz,w11]
  show sF (pd (m+4)) (xS (pd (m+4)) (m+1)) (m+1) 2 2 [p,q] [p,q]=_;simp only[sF,show ¬((2:Int)<2) by omega,bg,aK,aG,pd]
 unfold Ot Q4;rw[auz,aq,auy,aq];split
 ·rw[show lZ [y,x].length [x,y].length=some () from zw 2,aq];exact fin y x hy hx hne2
 ·rw[show lZ [x,y].length [x,y].length=some () from zw 2,aq];exact fin x y hx hy bY
def LD {a b:bj}:IS a b=true↔a=b:=by
 let ⟨k,i,t⟩:=a;let ⟨k',i',t'⟩:=b;simp[IS]
def agL {a b:bj} (h:uO a b=0):a=b:=by
 let ⟨k,i,t⟩:=a;let ⟨k',i',t'⟩:=b;unfold uO at h;simp only at h;split at h
 ·omega
 ·split at h
  ·omega
  ·split at h
   ·omega
   ·split at h
    ·omega
    ·split at h
     ·omega
     ·split at h
      ·rename_i e;have e1:k=k':=by omega
       have e2:i=i':=by omega
       rw[e1,e2,e]
      ·omega
def NL (a b:bj):rf [a] [b]=uO a b:=by
 unfold rf;by_cases h:uO a b=0
 ·rw[ax h,h];rfl
 ·rw[aA h]
def Ah (l:iK):Prop:=(∃a,l= [⟨a,a⟩])\/∃a b,IS a b=false/\l= [⟨a,b⟩,⟨b,a⟩]
def WC (k:az->dC->dC->Option Bool) (g:az) (T:ah) (c:Nat) (x:cO) (hx:T.ae[c]? =some x) (l:iK) (hl:l.length<=16) (hp:∀p∈l,lW p.f0=true/\p.f0.aC=x.aC):∀(y:iK) (i m:Nat) (vC vB:dC),l.drop i=y->y.length<m->vC.length+y.length<=100->vB.length+y.length<=100->
  F9 k m g T (c:Int) l (l.length:Int) (i:Int) vC vB=k g (vC++y.map λp=> [p.f0]) (vB++y.map λp=> [p.f1])
 | [],i,m+1,vC,vB,hd,hm,_,_=>by
  have hi:l.length<=i:=by simpa using hd
  have hq:¬((i:Int)<(l.length:Int)):=by omega
  simp[F9,Ru,hq]
 |p::y,i,m+1,vC,vB,hd,hm,h1,h2=>by
  let ⟨g1,g2,g3⟩:=bN hd;have hq:(i:Int)<(l.length:Int):=by omega
  simp at hm h1 h2;let ⟨p1,p2⟩:=hp p (cX g1);have ih:=WC k g T c x hx l hl hp y (i+1) m (vC++ [[p.f0]]) (vB++ [[p.f1]]) g2 (by omega) (by simp;omega) (by simp;omega)
  simp only[F9,Ru,hq,aW,aF,cH,g1,aq,hx,Vs,p1,p2,gX,sI,fA,aK,aG,eE vC [[p.f0]] (by simp;omega),eE vB [[p.f1]] (by simp;omega),cD g3 (by omega),ih]
  simp
 |_,_,0,_,_,_,hm,_,_=>by simp at hm
def akC {k:Int} (h:zJ k l=true):∀p∈l,lW p.f0=true/\p.f0.aC=k:=λp hp=>by
 unfold zJ at h;simp only[aY,dV] at h;have:=h.2.2 p hp;exact ⟨this.1,by simpa using this.2.1⟩
def amQ (n:Nat) (hn:10<n) (a:bj):vH (oe n) n 1 0 [[a]] [[a]]=some true:=by
 obtain ⟨m,rfl⟩:∃q,n=q+3:=⟨n-3,by omega⟩
 show sG (oe (m+3)) (vH (oe (m+3)) (m+2)) (m+2) 1 0 [[a]] [[a]]=_;have e:(a.aC==a.aC&&(a.dw==a.dw&&(decide (a.cP=a.cP)&&true)))=true:=LD.2 rfl;simp only[sG,show ((0:Int)<1) by omega,aW,aF,bl10,aq,cE,wA,show idx [a] 0=some a from rfl,gX,sI,fA,aK,aG,w01]
 show sG (oe (m+3)) (vH (oe (m+3)) (m+1)) (m+1) 1 1 [[a]] [[a]]=_;simp only[sG,show ¬((1:Int)<1) by omega,bg,aK,aG,oe]
def QD (n:Nat) (hn:10<n) (a b:bj):vH (oe n) n 2 0 [[a],[b]] [[a],[b]]=some true:=by
 obtain ⟨m,rfl⟩:∃q,n=q+3:=⟨n-3,by omega⟩
 have e:∀a:bj,(a.aC==a.aC&&(a.dw==a.dw&&(decide (a.cP=a.cP)&&true)))=true:=λa=>LD.2 rfl
 show sG (oe (m+3)) (vH (oe (m+3)) (m+2)) (m+2) 2 0 [[a],[b]] [[a],[b]]=_;simp only[sG,show ((0:Int)<2) by omega,aW,aF,amw,aq,cE,wA,show idx [a] 0=some a from rfl,gX,sI,fA,aK,aG,w01]
 show sG (oe (m+3)) (vH (oe (m+3)) (m+1)) (m+1) 2 1 [[a],[b]] [[a],[b]]=_;simp only[sG,show ((1:Int)<2) by omega,aW,aF,avo,aq,cE,wA,sg,show idx [b] 0=some b from rfl,gX,sI,fA,aK,aG,w11]
 show sG (oe (m+3)) (vH (oe (m+3)) m) m 2 2 [[a],[b]] [[a],[b]]=_;simp only[sG,show ¬((2:Int)<2) by omega,bg,aK,aG,oe]
def asa (n:Nat) (hn:1000<n) (g:az) (h:Ah g.fm.cI):KW n g (g.fm.cI.map λp=> [p.f0]) (g.fm.cI.map λp=> [p.f1])=some true:=by
 unfold KW;rcases h with ⟨a,h⟩|⟨a,b,bY,h⟩
 ·rw[h];simp only[fM,xb,avE n (by omega) [a] (by simp),aq]
  exact amQ n (by omega) a
 ·rw[h];have hab:a≠b:=λe=>by rw[LD.2 e] at bY;cases bY
  have n1:rf [a] [b]≠0:=by rw[NL];exact λe=>hab (agL e)
  have n2:rf [b] [a]≠0:=by rw[NL];exact λe=>hab (agL e).symm
  simp only[fM,xb,adI n (by omega) [a] [b] (by simp) (by simp) n1 n2,adI n (by omega) [b] [a] (by simp) (by simp) n2 n1,aq]
  have hneg:=asl a b;simp only[NL] at n1 n2 ⊢;by_cases bD:uO b a<0
  ·rw[ax bD,aA (show ¬uO a b<0 by omega)]
   simp only[mM,EM,sJ,aK,aG];exact QD n (by omega) b a
  ·rw[aA bD,ax (show uO a b<0 by omega)]
   simp only[mM,EM,sJ,aK,aG];exact QD n (by omega) a b
def aBM {n:Nat} {s:af} {m:aE} {j:Nat} {T:ah} (hs:SG s) (hj:m.aO=(j:Int)) (hT:s.ai[j]? =some T) (v:Int) (c:Nat) (x:cO) (hc:m.aX=(c:Int)) (hx:T.ae[c]? =some x) (hk:T.aP<=(c:Int)) (hp:zJ x.aC m.cI=true) (hu:AX (c:Int) T=false) (hM:Ah m.cI) (hn:100000<n):
  adT n (az.mk (af.mk v s.ai) m)=some true:=by
 have iy:=(cg.1 hT).1;have gD:=(cg.1 hx).1;have hG:=hs.sj T (cX hT);have J4:=MV n v s.ai m j T hj hT m.aX;rw[hc,tG hk,tG (show (c:Int)<(T.ae.length:Int) by omega)] at J4
 have abX:=aiU n v s.ai m j T hj hT (by omega) hG.cp (by omega)
 rw[hc,hu] at abX;have hl:1<=m.cI.length/\m.cI.length<=16:=by
  unfold zJ at hp;simp only[aY,lI] at hp;exact ⟨hp.1,hp.2.1⟩
 unfold adT aeY;rw[C6 n v s.ai m j T hj hT,aq];have q1:¬((m.cI.length:Int)<1):=by omega
 have q2:¬((16:Int)<(m.cI.length:Int)):=by omega
 simp only[hc,J4,aq,sI,fA,aK,aG,abX,q1,q2,bg];have e:=WC (KW n) (az.mk (af.mk v s.ai) m) T c x hx m.cI hl.2 (akC hp) m.cI 0 n [] [] rfl (by omega) (by simp;omega) (by simp;omega)
 refine Eq.trans e ?_;simp only[nr];exact asa n (by omega) (az.mk (af.mk v s.ai) m) hM
def aHE {n:Nat} {s:af} {m:aE} (hs:SG s) (hm:MB m) (hb:ug m=true) (h:kI s m t) (hM:m.bu=8->Ah m.cI) (hn:100000<n):F42 n s m=some (t,true):=by
 have Dy:=hs.v0;have zV:=hs.v1;have h8:=hs.len;have h41:F41 n s=some s:=arR n s (by omega) (λT hT=>(hs.sj T hT).cp) (by omega)
 have w:bh (s.av+1)=s.av+1:=dI (by omega) (by omega)
 have h18:1<=m.bu/\m.bu<=8:=by
  unfold ug at hb;simp only[aY,lI] at hb;exact ⟨hb.1,hb.2.1⟩
 have h97:F97 n=some [148,149,150,151,152,153,154,155]:=rfl;have wop:bh (m.bu-1)=m.bu-1:=dI (by omega) (by omega)
 have front:(m.bu=6\/∃j:Nat,m.aO=(j:Int)/\j<s.ai.length)->F42 n s m=vT n (m.bu-1) s m (af.mk 0 []) [148,149,150,151,152,153,154,155]:=λht=>by
  unfold F42 anC;rw[h97,aq];have q1:¬(m.bu<1):=by omega
  have q2:(m.bu-1)<(([148,149,150,151,152,153,154,155]:List Nat).length:Int):=by simp;omega
  simp only[q1,bg,aK,aG,wop,q2,aW,fA,aHx n m hb,aq];rcases ht with h6|⟨j,hj,iy⟩
  ·simp[h6]
  ·by_cases h6:m.bu=6
   ·simp[h6]
   ·have q3:(m.bu !=6)=true:=by simpa using h6
    have q4:¬(m.aO<0):=by omega
    have q5:m.aO<(s.ai.length:Int):=by omega
    simp only[q3,aF,q4,bg,aK,aG,q5,aW,fA]
 have b42:∀(o:Nat) (t:af),m.bu-1=(o:Int)->o<8->True->True:=λ_ _ _ _ _=>trivial
 cases h with
 |avv j T dN hj hT hv hk=>
  have iy:=(cg.1 hT).1;rw[front (.inr ⟨j,hj,iy⟩)];unfold vT;rw[h41,aq,dN];show (aea n (az.mk (af.mk (bh (s.av+1)) s.ai) m)).bind _=_;rw[w,aBT hs hj hT (s.av+1) hv hk];rfl
 |amg j c T x dN hj hT hc hx hk hv FA hu=>
  have iy:=(cg.1 hT).1;rw[front (.inr ⟨j,hj,iy⟩)];unfold vT;rw[h41,aq,dN];show (adZ n (az.mk (af.mk (bh (s.av+1)) s.ai) m)).bind _=_;rw[w,aBS hs hj hT (s.av+1) dN c x hc hx hk hv FA hu (by omega)]
  rfl
 |move j c d T dN hj hT hc hd h1 h2 hk yd=>
  have iy:=(cg.1 hT).1;rw[front (.inr ⟨j,hj,iy⟩)];unfold vT;rw[h41,aq,dN];show (adY n (az.mk (af.mk (bh (s.av+1)) s.ai) m)).bind _=_;rw[w,aBR hs hj hT (s.av+1) dN c d hc hd h1 h2 hk yd (by omega)]
  rfl
 |asN j c T x dN hj hT hc hx=>
  have iy:=(cg.1 hT).1;rw[front (.inr ⟨j,hj,iy⟩)];unfold vT;rw[h41,aq,dN];show (adX n (az.mk (af.mk (bh (s.av+1)) s.ai) m)).bind _=_;rw[w,aBQ hs hj hT (s.av+1) c x hc hx];rfl
 |asM j T dN hj hT=>
  have iy:=(cg.1 hT).1;rw[front (.inr ⟨j,hj,iy⟩)];unfold vT;rw[h41,aq,dN];show (adW n (az.mk (af.mk (bh (s.av+1)) s.ai) m)).bind _=_;rw[w,aBP hj hT (s.av+1)];rfl
 |avu dN=>
  rw[front (.inl dN)];unfold vT;rw[h41,aq,dN];show (adV n (az.mk (af.mk (bh (s.av+1)) s.ai) m)).bind _=_;rw[w,aBO hs hm (s.av+1) (by omega)]
  rfl
 |amf j T dN hj hT hr=>
  have iy:=(cg.1 hT).1;rw[front (.inr ⟨j,hj,iy⟩)];unfold vT;rw[h41,aq,dN];show (adU n (az.mk (af.mk (bh (s.av+1)) s.ai) m)).bind _=_;rw[w,aBN hs hj iy (s.av+1) hr (by omega)]
  rfl
 |Pc j c T x dN hj hT hc hx hk hp hu=>
  have iy:=(cg.1 hT).1;rw[front (.inr ⟨j,hj,iy⟩)];unfold vT;rw[h41,aq,dN];show (adT n (az.mk (af.mk (bh (s.av+1)) s.ai) m)).bind _=_;rw[w,aBM hs hj hT (s.av+1) c x hc hx hk hp hu (hM dN) (by omega)]
  rfl
def nk:af->eG->iJ->Prop
 |_,[],[]=>True
 |s,m::ms,t::ts=>ug m=true/\kI s m t/\kr t=0/\nk t ms ts
 |_,_,_=>False
def nk.len:∀{s:af} {ms:eG} {ts:iJ},nk s ms ts->ts.length=ms.length
 |_,[],[],_=>rfl
 |_,_::_,_::_,h=>by simp[nk.len h.2.2.2]
 |_,[],_::_,h=>by cases h
 |_,_::_,[],h=>by cases h
def nk.nD:∀{s:af} {ms:eG} {ts:iJ},nk s ms ts->∀t∈ts,kr t=0
 |_,[],[],_,t,ht=>by cases ht
 |_,_::_,_::_,h,t,ht=>by
  rcases bB.1 ht with rfl|ht
  ·exact h.2.2.1
  ·exact nk.nD h.2.2.2 t ht
 |_,[],_::_,h,_,_=>by cases h
 |_,_::_,[],h,_,_=>by cases h
def kI.ver {s:af} {m:aE} (h:kI s m t):t.av=s.av+1:=by cases h<;>rfl
def Ns {l:List Y} {x:Y} (h:l.getLast? =some x):l≠ []/\l[l.length-1]? =some x:=by
 cases l with
 |nil=>cases h
 |cons a l=>exact ⟨by simp,by rw[<-agG];exact h⟩
def adt (n0:Nat) (ms:eG) (hl:ms.length<=8) (hm:∀m∈ms,MB m):∀(x:eG) (i k:Nat) (b:iJ) (cur:af),ms.drop i=x->x.length+1700000<k->k<4294967296->b.length<=100+i->i<=8->b.getLast? =some cur->kr cur=0->
  Ok (MQ (Yq n0) k (ms.length:Int) (i:Int) ms b) λr=>r.2=0->∃ts,r.1=b++ts/\nk cur x ts
 | [],i,k+1,b,cur,hd,hk,gO,hb,hi8,hc,hs=>by
  have hi:ms.length<=i:=by simpa using hd
  have hq:¬((i:Int)<(ms.length:Int)):=by omega
  simp only[MQ,Yr,hq,bg,aK,aG,Yq];exact Ok.pure λ_=>⟨[],by simp,trivial⟩
 |mg::x,i,k+1,b,cur,hd,hk,gO,hb,hi8,hc,hs=>by
  let ⟨g1,g2,g3⟩:=bN hd;have hq:(i:Int)<(ms.length:Int):=by omega
  simp at hk;let ⟨bY,XD⟩:=Ns hc;have vw:0<b.length:=List.length_pos_iff.2 bY;have w:bh ((b.length:Int)-1)=((b.length-1:Nat):Int):=by rw[dI (by omega) (by omega)];omega
  simp only[MQ,Yr,hq,aW,aF,jl g3,aq,cE,g1,w,jl (show b.length-1<b.length by omega),XD]
  refine Ok.bind (aHy k (by omega) (by omega) cur (.of hs) mg (hm mg (cX g1))) λr hr=> ?_
  refine Ok.ite (λ_=>Ok.pure λh=>by cases h) λh2=> ?_
  have h2:r.2=true:=by simpa using h2
  let ⟨q1,q2,q3⟩:=hr h2;rw[eE b [r.1] (by simp;omega),aq,cD g3 (by omega)]
  refine (adt n0 ms hl hm x (i+1) k (b++ [r.1]) r.1 g2 (by omega) (by omega) (by simp;omega) (by omega) (by simp) q3).mono λr' fY h=> ?_
  let ⟨ts,e1,e2⟩:=fY h;exact ⟨r.1::ts,by rw[e1];simp,q1,q2,q3,e2⟩
 |_,_,0,_,_,_,hk,_,_,_,_,_=>by simp at hk
def adE (n:Nat) (hn:1800000<n) (gC:n<4294967296) (s:af) (hs:kr s=0) (ms:eG) (hm:∀m∈ms,MB m) (hl:ms.length<=100000):Ok (F40 n s ms) λr=>r.2=0->ms.length<=8/\s.av+(ms.length:Int)<=1000/\∃ts,r.1=s::ts/\nk s ms ts:=by
 have hG:=SG.of hs;have Dy:=hG.v0;have zV:=hG.v1;unfold F40 anF;rw[adD n s (λT hT=>(hG.sj T hT).I0) (by omega) gC,aq,hs]
 refine Ok.ite (λh=>by cases h) λ_=>Ok.ite (λ_=>Ok.pure λh=>by cases h) λh8=>Ok.ite (λ_=>Ok.pure λh=>by cases h) λhv=> ?_
 have h8:=Lj h8;have hv:=Lj hv;rw[dI (by omega) (by omega)] at hv
 have h:=adt n ms (by omega) hm ms 0 n [s] s rfl (by omega) gC (by simp) (by omega) rfl hs
 exact Ok.mono h λr hr h0=>⟨by omega,by omega,hr h0⟩
def adz (n0:Nat) (ms:eG) (hl:ms.length<=8) (hm:∀m∈ms,MB m/\(m.bu=8->Ah m.cI)):∀(x:eG) (i k:Nat) (b ts:iJ) (cur:af),ms.drop i=x->x.length+1700000<k->k<4294967296->b.length<=100+i->i<=8->b.getLast? =some cur->kr cur=0->nk cur x ts->
  MU (YA n0) k ms (ms.length:Int) (i:Int) b=some (b++ts,0)
 | [],i,k+1,b,[],cur,hd,hk,gO,hb,hi8,hc,hs,AN=>by
  have hi:ms.length<=i:=by simpa using hd
  have hq:¬((i:Int)<(ms.length:Int)):=by omega
  simp only[MU,YB,hq,bg,aK,aG,YA,pg]
 |mg::x,i,k+1,b,t::ts,cur,hd,hk,gO,hb,hi8,hc,hs,AN=>by
  let ⟨g1,g2,g3⟩:=bN hd;have hq:(i:Int)<(ms.length:Int):=by omega
  simp at hk;let ⟨bY,XD⟩:=Ns hc;have vw:0<b.length:=List.length_pos_iff.2 bY;have w:bh ((b.length:Int)-1)=((b.length-1:Nat):Int):=by rw[dI (by omega) (by omega)];omega
  let ⟨c1,c2,c3,c4⟩:=AN;let ⟨m1,m2⟩:=hm mg (cX g1);have h42:=aHE (n:=k) (SG.of hs) m1 c1 c2 m2 (by omega)
  have h15:=adR k t (λT hT=>((SG.of c3).sj T hT).I0) (by omega) (by omega)
  rw[c3] at h15;simp only[MU,YB,hq,aW,aF,cH,jl (show b.length-1<b.length by omega),aq,cE,g1,w,XD,h42,fA,aK,aG,h15,sJ,eE b [t] (by simp;omega),cD g3 (by omega)]
  rw[adz n0 ms hl hm x (i+1) k (b++ [t]) ts t g2 (by omega) (by omega) (by simp;omega) (by omega) (by simp) c3 c4]
  simp
 |_,_,0,_,_,_,_,hk,_,_,_,_,_,_=>by simp at hk
 | [],_,_+1,_,_::_,_,_,_,_,_,_,_,_,h=>by cases h
 |_::_,_,_+1,_,[],_,_,_,_,_,_,_,_,h=>by cases h
def aHJ (n:Nat) (hn:1800000<n) (gC:n<4294967296) (s:af) (hs:kr s=0) (ms:eG) (hm:∀m∈ms,MB m/\(m.bu=8->Ah m.cI)) (hl:ms.length<=8) (hv:s.av+(ms.length:Int)<=1000) (ts:iJ) (hc:nk s ms ts):F14 n s ms=some (s::ts,0):=by
 have hG:=SG.of hs;have Dy:=hG.v0;have h8:=hG.len;have h15:=adR n s (λT hT=>(hG.sj T hT).I0) (by omega) (by omega)
 rw[hs] at h15;unfold F14 anL;have q1:¬((8:Int)<(ms.length:Int)):=by omega
 have w:bh (s.av+(ms.length:Int))=s.av+(ms.length:Int):=dI (by omega) (by omega)
 have q2:¬((1000:Int)<s.av+(ms.length:Int)):=by omega
 simp only[h15,aq,sJ,aK,aG,q1,bg,w,q2,arR n s (by omega) (λT hT=>(hG.sj T hT).cp) (by omega)]
 exact adz n ms hl hm ms 0 n [s] ts s rfl (by omega) gC (by simp) (by omega) rfl hs hc
def mF (s:af):Nat:=(s.ai.map λT=>T.ae.length).sum
def adv (n0:Nat) (ts:bl) (hl:ts.length<=1000) (hc:∀T∈ts,T.ae.length<=1000):∀(x:bl) (i k c:Nat),ts.drop i=x->x.length<k->c<=1000*i->
  MR (Yt n0) k (c:Int) ts (ts.length:Int) (i:Int)=some ((c+(x.map λT=>T.ae.length).sum:Nat):Int)
 | [],i,k+1,c,hd,hk,Aa=>by
  have hi:ts.length<=i:=by simpa using hd
  have hq:¬((i:Int)<(ts.length:Int)):=by omega
  simp[MR,Yu,hq,Yt]
 |T::x,i,k+1,c,hd,hk,Aa=>by
  let ⟨g1,g2,g3⟩:=bN hd;have hq:(i:Int)<(ts.length:Int):=by omega
  have hT:=hc T (cX g1);have w:bh ((c:Int)+(T.ae.length:Int))=((c+T.ae.length:Nat):Int):=by rw[dI (by omega) (by omega)];rfl
  simp only[MR,Yu,hq,aW,aF,cH,g1,aq,w,cD g3 (by omega)]
  rw[adv n0 ts hl hc x (i+1) k (c+T.ae.length) g2 (by simp at hk;omega) (by omega),fM,EL,fV]
 |_,_,0,_,_,hk,_=>by simp at hk
def arS (n:Nat) (s:af) (hs:kr s=0) (hn:100<n):F16 n s=some (mF s:Int):=by
 have hG:=SG.of hs;have h8:=hG.len;have:=adv n s.ai (by omega) (λT hT=>by have:=(hG.sj T hT).cols;omega) s.ai 0 n 0 rfl (by omega) (by omega)
 rw[cE] at this;exact this
def aih {s:af} (hs:kr s=0):mF s<=64:=by
 have hG:=SG.of hs;have h8:=hG.len;have key:∀l:bl,(∀T∈l,T.ae.length<=8)->(l.map λT=>T.ae.length).sum<=8*l.length:=λl=>by
  induction l with
  |nil=>simp
  |cons T l ih=>
   intro h;have:=ih λU hU=>h U (by simp[hU])
   have:=h T (by simp)
   rw[fM,EL,mM];omega
 have:=key s.ai λT hT=>(hG.sj T hT).cols
 unfold mF;omega
def E1 {j:Nat} {T U:ah} (h:ts[j]? =some T):((ts.set j U).map λT=>T.ae.length).sum+T.ae.length=(ts.map λT=>T.ae.length).sum+U.ae.length:=by
 induction ts generalizing j with
 |nil=>simp at h
 |cons V ts ih=>
  cases j with
  |zero=>
   simp at h;subst h;simp only[List.set_cons_zero,fM,EL];omega
  |succ j=>
   have:=ih (j:=j) (by simpa using h)
   simp only[List.set_cons_succ,fM,EL];omega
def ayw {j:Nat} {T:ah} (h:ts[j]? =some T):((ts.take j++ts.drop (j+1)).map λT=>T.ae.length).sum+T.ae.length=(ts.map λT=>T.ae.length).sum:=by
 induction ts generalizing j with
 |nil=>simp at h
 |cons V ts ih=>
  cases j with
  |zero=>
   simp at h;subst h;simp;omega
  |succ j=>
   have:=ih (j:=j) (by simpa using h)
   simp only[List.take_succ_cons,List.drop_succ_cons,Lz,fM,EL];omega
def kI.cnt {s:af} {m:aE} (h:kI s m t):
  (m.bu=1/\t.ai.length=s.ai.length/\mF t=mF s+1)\/(m.bu=2/\t.ai.length=s.ai.length/\mF t+1=mF s)\/
  (m.bu=6/\t.ai.length=s.ai.length+1/\mF t=mF s+m.aZ.ae.length)\/
  (m.bu=7/\t.ai.length+1=s.ai.length/\∃(j:Nat) (T:ah),m.aO=(j:Int)/\s.ai[j]? =some T/\mF t+T.ae.length=mF s)\/
  (m.bu≠1/\m.bu≠2/\m.bu≠6/\m.bu≠7/\t.ai.length=s.ai.length/\mF t=mF s):=by
 cases h with
 |avv j T dN hj hT hv hk=>
  refine .inl ⟨dN,by simp,?_⟩
  have:=E1 (U:=⟨T.ar,T.ae++ [⟨m.ar,m.aC⟩],T.aP,T.ak,T.aD⟩) hT;simp only[mF];simp at this ⊢;omega
 |amg j c T x dN hj hT hc hx hk hv FA hu=>
  refine .inr (.inl ⟨dN,by simp,?_⟩)
  have gD:=(cg.1 hx).1;have:=E1 (U:=oq (eM (c:Int) (-1)) ⟨T.ar,T.ae.take c++T.ae.drop (c+1),T.aP,T.ak,T.aD⟩) hT;rw[show (oq (eM (c:Int) (-1)) ⟨T.ar,T.ae.take c++T.ae.drop (c+1),T.aP,T.ak,T.aD⟩).ae.length=T.ae.length-1 from w5 gD] at this;simp only[mF];omega
 |move j c d T dN hj hT hc hd h1 h2 hk yd=>
  refine .inr (.inr (.inr (.inr ⟨by omega,by omega,by omega,by omega,by simp,?_⟩)))
  have:=E1 (U:=oq (eM (c:Int) (d:Int)) ⟨T.ar,wO T.ae c d,T.aP,T.ak,T.aD⟩) hT;rw[show (oq (eM (c:Int) (d:Int)) ⟨T.ar,wO T.ae c d,T.aP,T.ak,T.aD⟩).ae.length=T.ae.length from Mb h1 h2] at this;simp only[mF];omega
 |asN j c T x dN hj hT hc hx=>
  refine .inr (.inr (.inr (.inr ⟨by omega,by omega,by omega,by omega,by simp,?_⟩)))
  have:=E1 (U:=⟨T.ar,T.ae.set c ⟨m.ar,x.aC⟩,T.aP,T.ak,T.aD⟩) hT;simp only[mF];simp at this ⊢;omega
 |asM j T dN hj hT=>
  refine .inr (.inr (.inr (.inr ⟨by omega,by omega,by omega,by omega,by simp,?_⟩)))
  have:=E1 (U:=⟨m.ar,T.ae,T.aP,T.ak,T.aD⟩) hT;simp only[mF];simp at this ⊢;omega
 |avu dN=>
  refine .inr (.inr (.inl ⟨dN,by simp,?_⟩))
  simp[mF]
 |amf j T dN hj hT hr=>
  have iy:=(cg.1 hT).1;refine .inr (.inr (.inr (.inl ⟨dN,?_,j,T,hj,hT,?_⟩)))
  ·have:=w5 iy;rw[iz,this];omega
  ·have:=ayw hT;have e:(((s.ai.take j++s.ai.drop (j+1)).map (nh (j:Int))).map λT=>T.ae.length)=(s.ai.take j++s.ai.drop (j+1)).map λT=>T.ae.length:=by
    rw[EJ];rfl
   unfold mF;rw[e];exact this
 |Pc j c T x dN hj hT hc hx hk hp hu=>
  exact .inr (.inr (.inr (.inr ⟨by omega,by omega,by omega,by omega,rfl,rfl⟩)))
section
def DI (i:Int):(Utf8.encode i).size<=4:=by
 unfold Utf8.encode;simp only;repeat' split
 all_goals simp[ByteArray.size]
def arh {a b:ByteArray} (h:a.size+b.size<=1000000):cat a b=some (a++b):=by unfold cat;rw[ax h]
structure anp (m:aE):Prop where
 mb:MB m
 prs:m.bu=8->Ah m.cI\/m.cI= []
def kI.prs {s:af} {m:aE} (h:kI s m t) (h8:m.bu=8):m.cI≠ []:=by
 cases h with
 |Pc j c T x dN hj hT hc hx hk hp hu=>
  intro e;rw[e] at hp;simp[zJ] at hp
 |_=>omega
structure Lst (s:af) (l:eG):Prop where
 mem:∀m∈l,MB m/\(m.bu=8->Ah m.cI)
 chain:∃ts,nk s l ts
def nk.aij:∀{s:af} {ms:eG} {ts:iJ},nk s ms ts->∀m∈ms,m.bu=8->m.cI≠ []
 |_,[],[],_,m,hm,_=>by cases hm
 |_,_::_,_::_,h,m,hm,h8=>by
  rcases bB.1 hm with rfl|hm
  ·exact h.2.1.prs h8
  ·exact nk.aij h.2.2.2 m hm h8
 |_,[],_::_,h,_,_,_=>by cases h
 |_,_::_,[],h,_,_,_=>by cases h
def CM (s:af) (r:eG×aQ):Prop:=dL r.2/\Lst s r.1/\r.1.length<=5
section
variable {s:af} {n:Nat}
def aen (hs:kr s=0) (hn:1800000<n) (gC:n<4294967296) (k:Int->aQ->af->eG->Option (eG×aQ)) (n8:Int) (c:aQ) (hc:dL c) (l:eG) (hl:Lst s l) (hl5:l.length<=100) (m:aE) (hm:anp m) (hk:∀l',Lst s l'->l'.length<=l.length+1->Ok (k n8 c s l') (CM s)):
  Ok (QR k n n8 c s l m) (CM s):=by
 unfold QR;rw[eE _ _ (by simp;omega),aq,nr,eE _ _ (by simp;omega),aq]
 refine Ok.bind (adE n hn gC s hs (l++ [m]) (λx hx=> ?_) (by simp;omega)) λr hr=> ?_
 ·rcases ee.1 hx with h|h
  ·exact (hl.mem x h).1
  ·rw[cB.1 h];exact hm.mb
 refine Ok.ite (λh0=> ?_) λ_=>hk l hl (by omega)
 let ⟨_,_,ts,_,AN⟩:=hr (by simpa using h0)
 rw[aq];refine hk (l++ [m]) ⟨λx hx=> ?_,ts,AN⟩ (by simp)
 rcases ee.1 hx with h|h
 ·exact hl.mem x h
 ·rw[cB.1 h];refine ⟨hm.mb,λh8=> ?_⟩
  rcases hm.prs h8 with h|h
  ·exact h
  ·exact absurd h (AN.aij m (by simp) h8)
def avO (hs:kr s=0) (hn:1800000<n) (gC:n<4294967296) (k:Int->aQ->af->eG->Option (eG×aQ)) (n8:Int) (hn8:0<n8) (hn88:n8<=100) (c:aQ) (hc:dL c) (l:eG) (hl:Lst s l) (hl5:l.length<=100) (iI:af) (m:aE) (hm:anp m) (hk:∀l',Lst s l'->l'.length<=l.length+1->Ok (k (n8-1) c s l') (CM s)):
  Ok (sd k n n8 c s l iI m) (CM s):=by
 have e:∀l',Eb k n n8 c s l'=k (n8-1) c s l':=λl'=>by unfold Eb;rw[dI (by omega) (by omega)]
 unfold sd;refine Ok.ite (λ_=>Ok.ite (λ_=> ?_) λ_=> ?_) λ_=> ?_
 ·rw[e];exact hk l hl (by omega)
 ·exact aen hs hn gC (Eb k n) n8 c hc l hl hl5 m hm λl' h1 h2=>by rw[e];exact hk l' h1 h2
 ·exact aen hs hn gC (Eb k n) n8 c hc l hl hl5 m hm λl' h1 h2=>by rw[e];exact hk l' h1 h2
def aiz (a:ByteArray) (cs:cG) (k:Int) (h:cs.length<=10):ED ⟨a,cs,k,[],[]⟩:=⟨⟨by show cs.length<=1000;omega,by simp,by simp⟩,λr hr=>by simp at hr,λp hp=>by simp at hp⟩
def TabZ (b:ah):Prop:=0<=b.aP/\b.aP<=(b.ae.length:Int)/\b.ae.length<=8/\∀x∈b.ae,3<=x.aC/\x.aC<=5
def aem (hs:kr s=0) (hn:1800000<n) (gC:n<4294967296) (k:Int->aQ->af->eG->Option (eG×aQ)) (n8:Int) (hn8:0<n8) (hn88:n8<=100) (c:aQ) (hc:dL c) (l:eG) (hl:Lst s l) (hl5:l.length<=100) (iI:af) (op tb:Int) (jC:ah) (hT:TabZ jC) (hk:∀l' c',dL c'->Lst s l'->l'.length<=l.length+1->Ok (k (n8-1) c' s l') (CM s)):
  Ok (QQ k n n8 c s l iI (aE.mk op tb 0 0 ByteArray.empty 0 (bj.mk 0 0 ByteArray.empty) [] (ah.mk ByteArray.empty [] 0 [] [])) jC) (CM s):=by
 let ⟨t1,t2,t3,t4⟩:=hT;have fin:∀(c':aQ) (m:aE),dL c'->anp m->Ok (sd k n n8 c' s l iI m) (CM s):=λc' m h1 h2=>avO hs hn gC k n8 hn8 hn88 c' h1 l hl hl5 iI m h2 λl' h3 h4=>hk l' c' h1 h3 h4
 have cz:∀(op tb col to:Int) (nm:ByteArray) (kd:Int) (v:bj) (ps:iK) (d:ah),mG col->mG to->ED d->(op=8->Ah ps\/ps= [])->anp (aE.mk op tb col to nm kd v ps d):=λop tb col to nm kd v ps d h1 h2 h3 h4=>⟨⟨h1,h2,h3⟩,h4⟩
 have z0:mG 0:=⟨by omega,by omega⟩
 have d0:ED (ah.mk ByteArray.empty [] 0 [] []):=aiz _ _ _ (by simp)
 unfold QQ;have w1:bh ((jC.ae.length:Int)-jC.aP)=(jC.ae.length:Int)-jC.aP:=dI (by omega) (by omega)
 rw[w1];refine Ok.bind (kq n c _ hc) λdn ⟨c11,a0,_,_,a1⟩=> ?_
 have w2:bh (jC.aP+dn.1)=jC.aP+dn.1:=dI (by omega) (by omega)
 have JZ:mG (jC.aP+dn.1):=⟨by omega,by omega⟩
 rw[w2];have s1:(ByteArray.mk #[110]).size=1:=rfl;have e1:=DI (IntKind.wrap .i32 (bh (97+(l.length:Int))));rw[arh (by omega),aq]
 refine Ok.bind (kq n dn.2 26 c11) λkQ ⟨c23,_,_,_,_⟩=> ?_
 have e2:=DI (IntKind.wrap .i32 (bh (97+kQ.1)));rw[arh (by rw[Sp];omega),aq]
 refine Ok.ite (λq=> ?_) λq1=> ?_
 ·refine Ok.bind (kq n kQ.2 3 c23) λDb ⟨c37,p0,p1,_,_⟩=> ?_
  have p1:=p1 (by omega)
  rw[dI (x:=3+Db.1) (by omega) (by omega)]
  refine Ok.bind (Gt n (by omega) Db.2 (3+Db.1) c37 (by omega) (by omega)) λx47 hx=> ?_
  exact fin _ _ hx.1 (cz _ _ _ _ _ _ _ _ _ z0 z0 d0 λh=>.inr rfl)
 refine Ok.ite (λq=> ?_) λq2=> ?_
 ·refine Ok.ite (λh=> ?_) λ_=>fin _ _ c23 (cz _ _ _ _ _ _ _ _ _ JZ z0 d0 λh=>.inr rfl)
  have h:=s8 h;obtain ⟨i,hi⟩:∃i:Nat,jC.aP+dn.1=(i:Int):=⟨(jC.aP+dn.1).toNat,by omega⟩
  have z6:i<jC.ae.length:=by omega
  rw[hi,cH,dW z6,aq];have FA:=t4 _ (xc z6);refine Ok.bind (Gt n (by omega) kQ.2 _ c23 FA.1 FA.2) λx53 hx=> ?_
  exact fin _ _ hx.1 (cz _ _ _ _ _ _ _ _ _ (hi ▸ JZ) z0 d0 λh=>.inr rfl)
 refine Ok.ite (λq=> ?_) λq3=> ?_
 ·refine Ok.bind (kq n kQ.2 _ c23) λx50 ⟨c50,p0,_,_,p1⟩=> ?_
  rw[dI (x:=jC.aP+x50.1) (by omega) (by omega)]
  exact fin _ _ c50 (cz _ _ _ _ _ _ _ _ _ JZ ⟨by omega,by omega⟩ d0 λh=>.inr rfl)
 refine Ok.ite (λq=> ?_) λq4=> ?_
 ·refine Ok.bind (kq n kQ.2 _ c23) λvh ⟨c46,p0,_,_,p1⟩=> ?_
  exact fin _ _ c46 (cz _ _ _ _ _ _ _ _ _ ⟨by omega,by omega⟩ z0 d0 λh=>.inr rfl)
 refine Ok.ite (λq=> ?_) λq5=> ?_
 ·exact fin _ _ c23 (cz _ _ _ _ _ _ _ _ _ z0 z0 d0 λh=>.inr rfl)
 refine Ok.ite (λq=> ?_) λq6=> ?_
 ·rw[show ∀a k,C3 n a k=some (cO.mk a k) from λ_ _=>rfl,aq,show ∀a k,C3 n a k=some (cO.mk a k) from λ_ _=>rfl,aq]
  exact fin _ _ c23 (cz _ _ _ _ _ _ _ _ _ z0 z0 (aiz _ _ _ (by simp)) λh=>.inr rfl)
 refine Ok.ite (λq=> ?_) λq8=> ?_
 ·refine Ok.ite (λh=> ?_) λ_=>fin _ _ c23 (cz _ _ _ _ _ _ _ _ _ JZ z0 d0 λh=>.inr rfl)
  have h:=s8 h;obtain ⟨i,hi⟩:∃i:Nat,jC.aP+dn.1=(i:Int):=⟨(jC.aP+dn.1).toNat,by omega⟩
  have z6:i<jC.ae.length:=by omega
  rw[hi,cH,dW z6,aq];have FA:=t4 _ (xc z6);refine Ok.bind (Gt n (by omega) kQ.2 _ c23 FA.1 FA.2) λrb hx=> ?_
  refine Ok.bind (Gt n (by omega) rb.2 _ hx.1 FA.1 FA.2) λtI hy=> ?_
  have axj:mG ((i:Nat):Int):=hi ▸ JZ;refine Ok.ite (λhe=> ?_) λhe=> ?_
  ·have he:rb.1=tI.1:=LD.1 he;have ct:wo 2 1=some 1:=rfl;rw[ct,aq];refine fin _ _ hy.1 (cz _ _ _ _ _ _ _ _ _ axj z0 d0 λh=>.inl (.inl ⟨rb.1,?_⟩))
   rw[he];rfl
  ·exact fin _ _ hy.1 (cz _ _ _ _ _ _ _ _ _ axj z0 d0 λh=>.inl (.inr ⟨rb.1,tI.1,he,rfl⟩))
 ·exact fin _ _ c23 (cz _ _ _ _ _ _ _ _ _ z0 z0 d0 λh=>.inr rfl)
end
def ash {s:Y} {ts:List Y}:(s::ts)[(s::ts).length-1]? =some ((s::ts).getLast (by simp)):=by
 rw[<-agG,List.getLast?_eq_some_getLast]
def adu (s:af) (hs:kr s=0) (n0:Nat):∀(k:Nat) (i:Nat) (c:aQ) (l:eG),i+1900000<k->k<4294967296->dL c->Lst s l->l.length+i<=5->Ok (D8 (M1 n0) k (i:Int) c s l) (CM s)
 |0,_,_,_,hk,_,_,_,_=>by omega
 |k+1,0,c,l,hk,gO,hc,hl,h5=>by
  have hq:¬((0:Int)<((0:Nat):Int)):=by omega
  simp only[D8,Ys,hq,bg,aK,aG,M1];exact Ok.pure ⟨hc,hl,by omega⟩
 |k+1,i+1,c,l,hk,gO,hc,hl,h5=>by
  have hq:((0:Int)<((i+1:Nat):Int)):=by omega
  simp only[D8,Ys,hq,aW,aF];refine Ok.bind (adE k (by omega) (by omega) s hs l (λm hm=>(hl.mem m hm).1) (by omega)) λr hr=> ?_
  refine Ok.ite (λ_=>Ok.pure ⟨hc,⟨λm hm=>by simp at hm,[],trivial⟩,by simp⟩) λh0=> ?_
  let ⟨_,_,ts,e,AN⟩:=hr (by simpa using h0)
  have qC:∀t∈s::ts,kr t=0:=λt ht=>by
   rcases bB.1 ht with rfl|ht
   ·exact hs
   ·exact AN.nD t ht
  have hlen:=AN.len;rw[e];have hL:(s::ts).length=ts.length+1:=rfl;have w:bh (((s::ts).length:Int)-1)=(((s::ts).length-1:Nat):Int):=by rw[dI (by rw[hL];omega) (by rw[hL];omega),hL];omega
  rw[w,jl (by rw[hL];omega),aq,cE,ash,aq]
  have aul:=qC _ (List.getLast_mem (l:=s::ts) (by simp))
  generalize (s::ts).getLast (by simp)=now at aul
  have hG:=SG.of aul;have hS:=NJ aul;have h8:=hG.len;refine Ok.bind (kq k c 10 hc) λiG ⟨c25,p0,p1,_,_⟩=> ?_
  have p1:=p1 (by omega)
  rw[dI (x:=1+iG.1) (by omega) (by omega)]
  refine Ok.bind (kq k iG.2 _ c25) λpA ⟨c33,u0,u1,_,_⟩=> ?_
  have rest:∀(c':aQ) (op:Int),dL c'->Ok (QP (D8 (M1 n0) k) k ((i+1:Nat):Int) c' s l now (aE.mk op pA.1 0 0 ByteArray.empty 0 (bj.mk 0 0 ByteArray.empty) [] (ah.mk ByteArray.empty [] 0 [] []))) (CM s):=λc' op wX=>by
   have back:∀l' c'',dL c''->Lst s l'->l'.length<=l.length+1->Ok (D8 (M1 n0) k (((i+1:Nat):Int)-1) c'' s l') (CM s):=λl' c'' h1 h2 h3=>by
    rw[show (((i+1:Nat):Int)-1)=(i:Int) by omega]
    exact adu s hs n0 k i c'' l' (by omega) (by omega) h1 h2 (by omega)
   unfold QP;refine Ok.ite (λht=> ?_) λht=> ?_
   ·have ht:=s8 ht;have bD:pA.1<(now.ai.length:Int):=by
     by_cases h1:(1:Int)<(now.ai.length:Int)
     ·rw[ax h1] at u1;exact u1 (by omega)
     ·rw[aA h1] at u1;have:=u1 (by omega)
      omega
    obtain ⟨j,hj⟩:∃j:Nat,pA.1=(j:Int):=⟨pA.1.toNat,by omega⟩
    have iy:j<now.ai.length:=by omega
    have hT:now.ai[j]? =some now.ai[j]:=dW iy;show Ok ((idx now.ai pA.1).bind _) _;rw[hj,cH,hT,aq];have tg:=hG.sj _ (xc iy);have tk:=hS.sj (j:Int) now.ai[j] (by rw[cH];exact hT)
    have a1:=tg.abl;refine aem hs (by omega) (by omega) _ ((i+1:Nat):Int) (by omega) (by omega) c' wX l hl (by omega) now op (j:Int) now.ai[j] ⟨by omega,tg.G9,tg.cols,λx hx=> ?_⟩ back
    have oC:=tk.ks;unfold lN nS at oC;rw[dV] at oC;exact JH (oC x.aC (dS.2 ⟨x,hx,rfl⟩))
   ·exact aem hs (by omega) (by omega) _ ((i+1:Nat):Int) (by omega) (by omega) c' wX l hl (by omega) now op pA.1 _ ⟨by simp,by simp,by simp,λx hx=>by simp at hx⟩ back
  refine Ok.ite (λ_=> ?_) λ_=>rest _ _ c33
  refine Ok.bind (kq k pA.2 2 c33) λx42 ⟨c42,_,_,_,_⟩=>rest _ _ c42
def aHF (n:Nat) (hn:2000000<n) (gC:n<4294967296) (c:aQ) (hc:dL c) (s:af) (hs:kr s=0):Ok (F39 n c s 5) (CM s):=by
 unfold F39 anH;rw[show bh (5+1)=6 from dI (by omega) (by omega)]
 refine Ok.bind (kq n c 6 hc) λx7 ⟨c7,p0,p1,_,_⟩=> ?_
 have p1:=p1 (by omega)
 obtain ⟨i,hi⟩:∃i:Nat,x7.1=(i:Int):=⟨x7.1.toNat,by omega⟩
 rw[hi];exact adu s hs n n i x7.2 [] (by omega) gC c7 ⟨λm hm=>by simp at hm,[],trivial⟩ (by simp;omega)
def aHL (n:Nat) (hn:2000000<n) (gC:n<4294967296) (c:aQ) (hc:dL c):Ok (F12 n c) λr=>dL r.2.2.2.2/\xT r.1/\Lst r.1 r.2.1/\r.2.1.length<=5:=by
 unfold F12 anN;refine Ok.bind (aHG n (by omega) gC c hc) λx6 ⟨h1,h2⟩=> ?_
 refine Ok.bind (aHF n hn gC x6.2 h1 x6.1 h2.nD) λly ⟨g1,g2,g3⟩=> ?_
 refine Ok.bind (adE n (by omega) gC x6.1 h2.nD ly.1 (λm hm=>(g2.mem m hm).1) (by omega)) λjA hx=> ?_
 refine Ok.bind (kq n ly.2 _ g1) λya ⟨k1,_⟩=> ?_
 exact Ok.pure ⟨k1,h2,g2,g3⟩
def aiI (n0:Nat) (s:af) (hs:kr s=0) (ms:eG) (hl:ms.length<=8) (all:iJ) (ha:all.length=ms.length+1) (qC:∀t∈all,kr t=0) (hver:∀(i:Nat) t,all[i]? =some t->t.av=s.av+(i:Int)) (Dz:∀(i:Nat) a b m,all[i]? =some a->all[i+1]? =some b->ms[i]? =some m->kI a m b):∀(x:iJ) (i k:Nat),all.drop i=x->x.length+1700000<k->k<4294967296->
  KD (ael n0) k ms (all.length:Int) (i:Int) s all=some true
 | [],i,k+1,hd,hk,gO=>by
  have hi:all.length<=i:=by simpa using hd
  have hq:¬((i:Int)<(all.length:Int)):=by omega
  simp only[KD,anG,hq,bg,aK,aG];rfl
 |t::x,i,k+1,hd,hk,gO=>by
  let ⟨g1,g2,g3⟩:=bN hd;have hq:(i:Int)<(all.length:Int):=by omega
  simp at hk;have hG:=SG.of hs;have Dy:=hG.v0;have zV:=hG.v1;have ht:=qC t (cX g1);have htG:=SG.of ht;have hv:=hver i t g1;have w:bh (s.av+(i:Int))=s.av+(i:Int):=dI (by omega) (by omega)
  have h15:=adR k t (λT hT=>(htG.sj T hT).I0) (by omega) (by omega)
  rw[ht] at h15;have ih:=aiI n0 s hs ms hl all ha qC hver Dz x (i+1) k g2 (by omega) (by omega)
  have nx:∀a b c d,EE (KD (ael n0) k) k ms (all.length:Int) (i:Int) a b c d s all t=some true:=λa b c d=>by
   unfold EE;rw[cD g3 (by omega)]
   exact ih
  have qJ:(t.av !=bh (s.av+(i:Int)))=false:=by rw[w,hv];exact bne_self_eq_false' _
  simp only[KD,anG,hq,aW,aF,jl g3,aq,cE,g1,h15,sJ,aK,aG,qJ];cases i with
  |zero=>
   simp only[show ((((0:Nat)):Int)==0)=true from rfl,aF];exact nx _ _ _ _
  |succ i=>
   have hz:(((i+1:Nat):Int)==0)=false:=Br (by omega)
   have w1:bh (((i+1:Nat):Int)-1)=(i:Int):=by rw[dI (by omega) (by omega)];omega
   have z6:i<all.length:=by omega
   have ga:all[i]? =some all[i]:=dW z6;have JT:i<ms.length:=by omega
   have gm:ms[i]? =some ms[i]:=dW JT;have hac:=qC _ (xc z6);have haG:=SG.of hac;have n1:=aih ht;have n2:=aih hac;have h8:=htG.len;have h8':=haG.len;have st:=Dz i all[i] t ms[i] ga g1 gm;simp only[hz,aK,aG,w1,jl z6,aq,cE,ga,arS k t ht (by omega),arS k all[i] hac (by omega),cH,gm]
   have fin:∀(a b:Int) (p q r u:Int),a=0->b=0->Ow (EE (KD (ael n0) k) k) k ms a b (all.length:Int) ((i+1:Nat):Int) p q r u s all t=some true:=λa b p q r u za zb=>by
    subst za;subst zb;exact nx p q r u
   have ws:∀z:Int, -1000<=z->z<=1000->bh z=z:=λz h1 h2=>dI (by omega) (by omega)
   rcases st.cnt with ⟨dN,c1,c2⟩|⟨dN,c1,c2⟩|⟨dN,c1,c2⟩|⟨dN,c1,j,T,hj,hT,c2⟩|⟨o1,o2,o6,o7,c1,c2⟩
   ·simp only[dN,gX,aF];refine fin _ _ _ _ _ _ ?_ ?_
    ·rw[ws _ (by omega) (by omega)];omega
    ·rw[ws ((mF t:Int)-(mF all[i]:Int)) (by omega) (by omega),ws _ (by omega) (by omega)];omega
   ·simp only[dN,show ((2:Int)==1)=false from rfl,aK,aG,gX,aF];refine fin _ _ _ _ _ _ ?_ ?_
    ·rw[ws _ (by omega) (by omega)];omega
    ·rw[ws ((mF t:Int)-(mF all[i]:Int)) (by omega) (by omega),ws _ (by omega) (by omega)];omega
   ·simp only[dN,show ((6:Int)==1)=false from rfl,show ((6:Int)==2)=false from rfl,aK,aG,gX,aF,aq];refine fin _ _ _ _ _ _ ?_ ?_
    ·rw[ws ((t.ai.length:Int)-(all[i].ai.length:Int)) (by omega) (by omega),ws _ (by omega) (by omega)];omega
    ·rw[ws ((mF t:Int)-(mF all[i]:Int)) (by omega) (by omega),ws _ (by omega) (by omega)];omega
   ·have hTc:T.ae.length<=8:=(haG.sj T (cX hT)).cols;simp only[dN,show ((7:Int)==1)=false from rfl,show ((7:Int)==2)=false from rfl,show ((7:Int)==6)=false from rfl,aK,aG,gX,aF,aq,hj,cH,hT];refine fin _ _ _ _ _ _ ?_ ?_
    ·rw[ws ((t.ai.length:Int)-(all[i].ai.length:Int)) (by omega) (by omega),ws _ (by omega) (by omega)];omega
    ·rw[ws ((mF t:Int)-(mF all[i]:Int)) (by omega) (by omega),ws _ (by omega) (by omega)];omega
   ·have q1:(ms[i].bu==1)=false:=Br o1;have q2:(ms[i].bu==2)=false:=Br o2;have q6:(ms[i].bu==6)=false:=Br o6;have q7:(ms[i].bu==7)=false:=Br o7;simp only[q1,q2,q6,q7,aK,aG];refine fin _ _ _ _ _ _ ?_ ?_
    ·rw[ws _ (by omega) (by omega)];omega
    ·rw[ws _ (by omega) (by omega)];omega
 |_,_,0,_,hk,_=>by simp at hk
def nk.ver:∀{s:af} {ms:eG} {ts:iJ},nk s ms ts->∀(i:Nat) t,(s::ts)[i]? =some t->t.av=s.av+(i:Int)
 |s,ms,ts,h,0,t,ht=>by simp at ht;subst ht;simp
 |s,[],[],_,i+1,t,ht=>by simp at ht
 |s,m::ms,u::ts,h,i+1,t,ht=>by
  have:=nk.ver h.2.2.2 i t (by simpa using ht)
  rw[this,h.2.1.ver];omega
 |_,[],_::_,h,_+1,_,_=>by cases h
 |_,_::_,[],h,_+1,_,_=>by cases h
def nk.step:∀{s:af} {ms:eG} {ts:iJ},nk s ms ts->∀(i:Nat) a b m,(s::ts)[i]? =some a->(s::ts)[i+1]? =some b->ms[i]? =some m->kI a m b
 |s,m::ms,u::ts,h,0,a,b,m',ha,hb,hm=>by
  simp at ha hb hm;subst ha;subst hb;subst hm;exact h.2.1
 |s,m::ms,u::ts,h,i+1,a,b,m',ha,hb,hm=>nk.step h.2.2.2 i a b m' (by simpa using ha) (by simpa using hb) (by simpa using hm)
 |_,[],[],_,_,_,_,_,_,hb,_=>by simp at hb
 |_,[],_::_,h,_,_,_,_,_,_,_=>by cases h
 |_,_::_,[],h,_,_,_,_,_,_,_=>by cases h
def law3 (n:Nat) (hn:2000000<n) (gC:n<4294967296) (cU:aH) (hb:∀x∈cU,0<=x/\x<=255):F3 n cU=some true:=by
 let ⟨c,e1,hc⟩:=aHK n cU 300 hb (by omega) (by omega)
 let ⟨x5,e2,h1,h2,h3,h4⟩:=aHL n hn gC c hc;let ⟨ts,AN⟩:=h3.chain;have hG:=SG.of h2.nD;have zV:x5.1.av<=2:=by
  let ⟨v,id,k,r1,r2,r3,ch,hp,e⟩:=h2;rw[e];exact hp.v1
 have e3:=aHJ n (by omega) gC x5.1 h2.nD x5.2.1 h3.mem (by omega) (by omega) ts AN
 have hlen:=AN.len;unfold F3 avN;rw[e1,aq,e2,aq,e3,aq];have q:(((x5.1::ts).length:Int) !=bh ((x5.2.1.length:Int)+1))=false:=by
  rw[dI (by omega) (by omega),mM,hlen]
  simp
 simp only[sJ,aK,aG,q];exact aiI n x5.1 h2.nD x5.2.1 (by omega) (x5.1::ts) (by simp[hlen]) (λt ht=>by
  rcases bB.1 ht with rfl|ht
  ·exact h2.nD
  ·exact AN.nD t ht) AN.ver AN.step (x5.1::ts) 0 n rfl (by simp;omega) gC
end
def atN {k:IntKind} {n:Int} (h:P5 (.int k n)):k.min<=n/\n<=k.max:=by
 simpa[P5,Lit.wf] using h
def Kd:∀{rows:List (List AV)},Ct rows->∀r∈rows,xB r
 | [],_,_,h=>by simp at h
 |r::rs,h,x,hx=>by
  rcases bB.1 hx with rfl|hx
  ·exact h.1
  ·exact Kd h.2 x hx
def amt (h:P5 (.iW 5 1 (y5 cU))):∀x∈cU,0<=x/\x<=255:=by
 intro x hx;have h1:=Kd (show Ct (y5 cU) from h) (acr x) (dS.2 ⟨x,hx,rfl⟩);have h2:=atN (show P5 (.int .u8 x) from h1.1);simpa[IntKind.min,IntKind.max,IntKind.signed,IntKind.bits] using h2
def Jk (y0:aH) (h0:xB [.iW 5 1 (y5 y0)]) (hb:mK [.iW 5 1 (y5 y0)]<=1048576):∃n,F3 n y0=some true:=⟨4000000,law3 4000000 (by omega) (by omega) y0 (amt h0.1)⟩
end Go.Proofs.YtbnkhmoelnfjoaaGreat
end
