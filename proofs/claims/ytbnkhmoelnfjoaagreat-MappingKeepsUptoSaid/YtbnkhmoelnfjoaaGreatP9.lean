/- Part. -/
import Derived.Test.YtbnkhmoelnfjoaaGreatP8
import Derived.Test.YtbnkhmoelnfjoaaGreatP7
set_option linter.all false
set_option maxRecDepth 100000
noncomputable section
namespace Go.Proofs.YtbnkhmoelnfjoaaGreat
open Go.bX
variable {J:Type} {i:Nat} {c e k0:Int} {x:ey} {rs tb:bU} {v:aP} {l:gu} {sv:Bool} {db:aK}
section
def CQ (i:Int):(Utf8.encode i).size<=4:=by
 unfold Utf8.encode;simp only;repeat' split
 all_goals simp[ByteArray.size]
def arG {a b:ByteArray} (h:a.size+b.size<=1000000):cat a b=some (a++b):=by unfold cat;rw[aH h]
structure ani (m:aE):Prop where
 mb:MB m
 prs:m.bh=8->kz m.bf\/m.bf= []
def la.prs {s t:ag} {m:aE} (h:la s m t) (h8:m.bh=8):m.bf≠ []:=by
 cases h with
 |El j c T x eT hj hT hc hx hk hp hu=>
  intro e;rw[e] at hp;simp[uH] at hp
 |_=>omega
structure Lst (s:ag) (l:cJ):Prop where
 mem:∀m∈l,MB m/\(m.bh=8->kz m.bf)
 chain:∃ts,ew s l ts
def ew.aid:∀{s:ag} {ms:cJ} {ts:fL},ew s ms ts->∀m∈ms,m.bh=8->m.bf≠ []
 |_,[],[],_,m,hm,_=>by cases hm
 |_,_::_,_::_,h,m,hm,h8=>by
  rcases cH.1 hm with rfl|hm
  ·exact h.2.1.prs h8
  ·exact ew.aid h.2.2.2 m hm h8
 |_,[],_::_,h,_,_,_=>by cases h
 |_,_::_,[],h,_,_,_=>by cases h
def BZ (s:ag) (r:cJ×aM):Prop:=dk r.2/\Lst s r.1/\r.1.length<=5
section
variable {s:ag} {n:Nat}
def aej (hs:gA s=0) (hn:1800000<n) (fN:n<4294967296) (k:Int->aM->ag->cJ->Option (cJ×aM)) (n8:Int) (c:aM) (hc:dk c) (l:cJ) (hl:Lst s l) (hl5:l.length<=100) (m:aE) (hm:ani m) (hk:∀l',Lst s l'->l'.length<=l.length+1->Ok (k n8 c s l') (BZ s)):
  Ok (QX k n n8 c s l m) (BZ s):=by
 unfold QX;rw[dL _ _ (by simp;omega),au,jW,dL _ _ (by simp;omega),au]
 refine Ok.bind (asz n hn fN s hs (l++ [m]) (λx hx=> ?_) (by simp;omega)) λr hr=> ?_
 ·rcases eR.1 hx with h|h
  ·exact (hl.mem x h).1
  ·rw[ez.1 h];exact hm.mb
 refine Ok.ite (λh0=> ?_) λ_=>hk l hl (by omega)
 obtain ⟨_,_,ts,_,sf⟩:=hr (by simpa using h0)
 rw[au];refine hk (l++ [m]) ⟨λx hx=> ?_,ts,sf⟩ (by simp)
 rcases eR.1 hx with h|h
 ·exact hl.mem x h
 ·rw[ez.1 h];refine ⟨hm.mb,λh8=> ?_⟩
  rcases hm.prs h8 with h|h
  ·exact h
  ·exact absurd h (sf.aid m (by simp) h8)
def awr (hs:gA s=0) (hn:1800000<n) (fN:n<4294967296) (k:Int->aM->ag->cJ->Option (cJ×aM)) (n8:Int) (hn8:0<n8) (hn88:n8<=100) (c:aM) (hc:dk c) (l:cJ) (hl:Lst s l) (hl5:l.length<=100) (gH:ag) (m:aE) (hm:ani m) (hk:∀l',Lst s l'->l'.length<=l.length+1->Ok (k (n8-1) c s l') (BZ s)):
  Ok (rQ k n n8 c s l gH m) (BZ s):=by
 have e:∀l',Dh k n n8 c s l'=k (n8-1) c s l':=λl'=>by unfold Dh;rw[dw (by omega) (by omega)]
 unfold rQ;refine Ok.ite (λ_=>Ok.ite (λ_=> ?_) λ_=> ?_) λ_=> ?_
 ·rw[e];exact hk l hl (by omega)
 ·exact aej hs hn fN (Dh k n) n8 c hc l hl hl5 m hm λl' h1 h2=>by rw[e];exact hk l' h1 h2
 ·exact aej hs hn fN (Dh k n) n8 c hc l hl hl5 m hm λl' h1 h2=>by rw[e];exact hk l' h1 h2
def aiA (a:ByteArray) (cs:cN) (k:Int) (h:cs.length<=10):DM ⟨a,cs,k,[],[]⟩:=⟨⟨by show cs.length<=1000;omega,by simp,by simp⟩,λr hr=>by simp at hr,λp hp=>by simp at hp⟩
def TabZ (b:aj):Prop:=0<=b.aw/\b.aw<=(b.ae.length:Int)/\b.ae.length<=8/\∀x∈b.ae,3<=x.ay/\x.ay<=5
def aei (hs:gA s=0) (hn:1800000<n) (fN:n<4294967296) (k:Int->aM->ag->cJ->Option (cJ×aM)) (n8:Int) (hn8:0<n8) (hn88:n8<=100) (c:aM) (hc:dk c) (l:cJ) (hl:Lst s l) (hl5:l.length<=100) (gH:ag) (op tb:Int) (iy:aj) (hT:TabZ iy) (hk:∀l' c',dk c'->Lst s l'->l'.length<=l.length+1->Ok (k (n8-1) c' s l') (BZ s)):
  Ok (QW k n n8 c s l gH (aE.mk op tb 0 0 ByteArray.empty 0 (aP.mk 0 0 ByteArray.empty) [] (aj.mk ByteArray.empty [] 0 [] [])) iy) (BZ s):=by
 obtain ⟨t1,t2,t3,t4⟩:=hT;have fin:∀(c':aM) (m:aE),dk c'->ani m->Ok (rQ k n n8 c' s l gH m) (BZ s):=λc' m h1 h2=>awr hs hn fN k n8 hn8 hn88 c' h1 l hl hl5 gH m h2 λl' h3 h4=>hk l' c' h1 h3 h4
 have cz:∀(op tb CU to:Int) (nm:ByteArray) (kd:Int) (v:aP) (ps:gu) (d:aj),l6 CU->l6 to->DM d->(op=8->kz ps\/ps= [])->ani (aE.mk op tb CU to nm kd v ps d):=λop tb CU to nm kd v ps d h1 h2 h3 h4=>⟨⟨h1,h2,h3⟩,h4⟩
 have z0:l6 0:=⟨by omega,by omega⟩
 have d0:DM (aj.mk ByteArray.empty [] 0 [] []):=aiA _ _ _ (by simp)
 unfold QW;have w1:bl ((iy.ae.length:Int)-iy.aw)=(iy.ae.length:Int)-iy.aw:=dw (by omega) (by omega)
 rw[w1];refine Ok.bind (ka n c _ hc) λdy ⟨c11,a0,_,_,a1⟩=> ?_
 have w2:bl (iy.aw+dy.1)=iy.aw+dy.1:=dw (by omega) (by omega)
 have Jq:l6 (iy.aw+dy.1):=⟨by omega,by omega⟩
 rw[w2];have s1:(ByteArray.mk #[110]).size=1:=rfl;have e1:=CQ (IntKind.wrap .i32 (bl (97+(l.length:Int))));rw[arG (by omega),au]
 refine Ok.bind (ka n dy.2 26 c11) λiK ⟨c23,_,_,_,_⟩=> ?_
 have e2:=CQ (IntKind.wrap .i32 (bl (97+iK.1)));rw[arG (by rw[SS];omega),au]
 refine Ok.ite (λq=> ?_) λq1=> ?_
 ·refine Ok.bind (ka n iK.2 3 c23) λyF ⟨c37,p0,p1,_,_⟩=> ?_
  have p1:=p1 (by omega)
  rw[dw (x:=3+yF.1) (by omega) (by omega)]
  refine Ok.bind (Ce n (by omega) yF.2 (3+yF.1) c37 (by omega) (by omega)) λx47 hx=> ?_
  exact fin _ _ hx.1 (cz _ _ _ _ _ _ _ _ _ z0 z0 d0 λh=>.inr rfl)
 refine Ok.ite (λq=> ?_) λq2=> ?_
 ·refine Ok.ite (λh=> ?_) λ_=>fin _ _ c23 (cz _ _ _ _ _ _ _ _ _ Jq z0 d0 λh=>.inr rfl)
  have h:=qv h;obtain ⟨i,hi⟩:∃i:Nat,iy.aw+dy.1=(i:Int):=⟨(iy.aw+dy.1).toNat,by omega⟩
  have uP:i<iy.ae.length:=by omega
  rw[hi,bM,dI uP,au];have xj:=t4 _ (rS uP);refine Ok.bind (Ce n (by omega) iK.2 _ c23 xj.1 xj.2) λx53 hx=> ?_
  exact fin _ _ hx.1 (cz _ _ _ _ _ _ _ _ _ (hi ▸ Jq) z0 d0 λh=>.inr rfl)
 refine Ok.ite (λq=> ?_) λq3=> ?_
 ·refine Ok.bind (ka n iK.2 _ c23) λIh ⟨c50,p0,_,_,p1⟩=> ?_
  rw[dw (x:=iy.aw+Ih.1) (by omega) (by omega)]
  exact fin _ _ c50 (cz _ _ _ _ _ _ _ _ _ Jq ⟨by omega,by omega⟩ d0 λh=>.inr rfl)
 refine Ok.ite (λq=> ?_) λq4=> ?_
 ·refine Ok.bind (ka n iK.2 _ c23) λAY ⟨c46,p0,_,_,p1⟩=> ?_
  exact fin _ _ c46 (cz _ _ _ _ _ _ _ _ _ ⟨by omega,by omega⟩ z0 d0 λh=>.inr rfl)
 refine Ok.ite (λq=> ?_) λq5=> ?_
 ·exact fin _ _ c23 (cz _ _ _ _ _ _ _ _ _ z0 z0 d0 λh=>.inr rfl)
 refine Ok.ite (λq=> ?_) λq6=> ?_
 ·rw[show ∀a k,Cf n a k=some (cG.mk a k) from λ_ _=>rfl,au,show ∀a k,Cf n a k=some (cG.mk a k) from λ_ _=>rfl,au]
  exact fin _ _ c23 (cz _ _ _ _ _ _ _ _ _ z0 z0 (aiA _ _ _ (by simp)) λh=>.inr rfl)
 refine Ok.ite (λq=> ?_) λq8=> ?_
 ·refine Ok.ite (λh=> ?_) λ_=>fin _ _ c23 (cz _ _ _ _ _ _ _ _ _ Jq z0 d0 λh=>.inr rfl)
  have h:=qv h;obtain ⟨i,hi⟩:∃i:Nat,iy.aw+dy.1=(i:Int):=⟨(iy.aw+dy.1).toNat,by omega⟩
  have uP:i<iy.ae.length:=by omega
  rw[hi,bM,dI uP,au];have xj:=t4 _ (rS uP);refine Ok.bind (Ce n (by omega) iK.2 _ c23 xj.1 xj.2) λpF hx=> ?_
  refine Ok.bind (Ce n (by omega) pF.2 _ hx.1 xj.1 xj.2) λqo hy=> ?_
  have ayd:l6 ((i:Nat):Int):=hi ▸ Jq;refine Ok.ite (λhe=> ?_) λhe=> ?_
  ·have he:pF.1=qo.1:=KG.1 he;have ct:tE 2 1=some 1:=rfl;rw[ct,au];refine fin _ _ hy.1 (cz _ _ _ _ _ _ _ _ _ ayd z0 d0 λh=>.inl (.inl ⟨pF.1,?_⟩))
   rw[he];rfl
  ·exact fin _ _ hy.1 (cz _ _ _ _ _ _ _ _ _ ayd z0 d0 λh=>.inl (.inr ⟨pF.1,qo.1,he,rfl⟩))
 ·exact fin _ _ c23 (cz _ _ _ _ _ _ _ _ _ z0 z0 d0 λh=>.inr rfl)
end
def Nk {s:J} {ts:List J}:(s::ts)[(s::ts).length-1]? =some ((s::ts).getLast (by simp)):=by
 rw[<-agv,List.getLast?_eq_some_getLast]
def adr (s:ag) (hs:gA s=0) (n0:Nat):∀(k:Nat) (i:Nat) (c:aM) (l:cJ),i+1900000<k->k<4294967296->dk c->Lst s l->l.length+i<=5->Ok (Dc (MO n0) k (i:Int) c s l) (BZ s)
 |0,_,_,_,hk,_,_,_,_=>by omega
 |k+1,0,c,l,hk,jC,hc,hl,h5=>by
  have hq:¬((0:Int)<((0:Nat):Int)):=by omega
  simp only[Dc,Yy,hq,aX,aC,aA,MO];exact Ok.pure ⟨hc,hl,by omega⟩
 |k+1,i+1,c,l,hk,jC,hc,hl,h5=>by
  have hq:((0:Int)<((i+1:Nat):Int)):=by omega
  simp only[Dc,Yy,hq,aU,aB];refine Ok.bind (asz k (by omega) (by omega) s hs l (λm hm=>(hl.mem m hm).1) (by omega)) λr hr=> ?_
  refine Ok.ite (λ_=>Ok.pure ⟨hc,⟨λm hm=>by simp at hm,[],trivial⟩,by simp⟩) λh0=> ?_
  obtain ⟨_,_,ts,e,sf⟩:=hr (by simpa using h0)
  have hchk:∀t∈s::ts,gA t=0:=λt ht=>by
   rcases cH.1 ht with rfl|ht
   ·exact hs
   ·exact sf.jD t ht
  have hlen:=sf.len;rw[e];have hL:(s::ts).length=ts.length+1:=rfl;have w:bl (((s::ts).length:Int)-1)=(((s::ts).length-1:Nat):Int):=by rw[dw (by rw[hL];omega) (by rw[hL];omega),hL];omega
  rw[w,gC (by rw[hL];omega),au,cA,Nk,au]
  have auD:=hchk _ (SM (l:=s::ts) (by simp))
  generalize (s::ts).getLast (by simp)=now at auD
  have hG:=SG.of auD;have hS:=qb auD;have h8:=hG.len;refine Ok.bind (ka k c 10 hc) λgg ⟨c25,p0,p1,_,_⟩=> ?_
  have p1:=p1 (by omega)
  rw[dw (x:=1+gg.1) (by omega) (by omega)]
  refine Ok.bind (ka k gg.2 _ c25) λlW ⟨c33,u0,u1,_,_⟩=> ?_
  have rest:∀(c':aM) (op:Int),dk c'->Ok (QV (Dc (MO n0) k) k ((i+1:Nat):Int) c' s l now (aE.mk op lW.1 0 0 ByteArray.empty 0 (aP.mk 0 0 ByteArray.empty) [] (aj.mk ByteArray.empty [] 0 [] []))) (BZ s):=λc' op sZ=>by
   have back:∀l' c'',dk c''->Lst s l'->l'.length<=l.length+1->Ok (Dc (MO n0) k (((i+1:Nat):Int)-1) c'' s l') (BZ s):=λl' c'' h1 h2 h3=>by
    rw[show (((i+1:Nat):Int)-1)=(i:Int) by omega]
    exact adr s hs n0 k i c'' l' (by omega) (by omega) h1 h2 (by omega)
   unfold QV;refine Ok.ite (λht=> ?_) λht=> ?_
   ·have ht:=qv ht;have cY:lW.1<(now.ai.length:Int):=by
     by_cases h1:(1:Int)<(now.ai.length:Int)
     ·rw[aH h1] at u1;exact u1 (by omega)
     ·rw[aL h1] at u1;have:=u1 (by omega)
      omega
    obtain ⟨j,hj⟩:∃j:Nat,lW.1=(j:Int):=⟨lW.1.toNat,by omega⟩
    have fS:j<now.ai.length:=by omega
    have hT:now.ai[j]? =some now.ai[j]:=dI fS;show Ok ((idx now.ai lW.1).bind _) _;rw[hj,bM,hT,au];have tg:=hG.cy _ (rS fS);have tk:=hS.cy (j:Int) now.ai[j] (by rw[bM];exact hT)
    have a1:=tg.zq;refine aei hs (by omega) (by omega) _ ((i+1:Nat):Int) (by omega) (by omega) c' sZ l hl (by omega) now op (j:Int) now.ai[j] ⟨by omega,tg.jl,tg.cols,λx hx=> ?_⟩ back
    have EL:=tk.ks;unfold eA kP at EL;rw[iJ] at EL;exact yP (EL x.ay (cO.2 ⟨x,hx,rfl⟩))
   ·exact aei hs (by omega) (by omega) _ ((i+1:Nat):Int) (by omega) (by omega) c' sZ l hl (by omega) now op lW.1 _ ⟨by simp,by simp,by simp,λx hx=>by simp at hx⟩ back
  refine Ok.ite (λ_=> ?_) λ_=>rest _ _ c33
  refine Ok.bind (ka k lW.2 2 c33) λD4 ⟨c42,_,_,_,_⟩=>rest _ _ c42
def aJu (n:Nat) (hn:2000000<n) (fN:n<4294967296) (c:aM) (hc:dk c) (s:ag) (hs:gA s=0):Ok (F39 n c s 5) (BZ s):=by
 unfold F39 anM;rw[show bl (5+1)=6 from dw (by omega) (by omega)]
 refine Ok.bind (ka n c 6 hc) λx7 ⟨c7,p0,p1,_,_⟩=> ?_
 have p1:=p1 (by omega)
 obtain ⟨i,hi⟩:∃i:Nat,x7.1=(i:Int):=⟨x7.1.toNat,by omega⟩
 rw[hi];exact adr s hs n n i x7.2 [] (by omega) fN c7 ⟨λm hm=>by simp at hm,[],trivial⟩ (by simp;omega)
def aJB (n:Nat) (hn:2000000<n) (fN:n<4294967296) (c:aM) (hc:dk c):Ok (F12 n c) λr=>dk r.2.2.2.2/\wX r.1/\Lst r.1 r.2.1/\r.2.1.length<=5/\∃(ts:fL) (k:Nat),ew r.1 r.2.1 ts/\r.2.2.1=r.1::ts/\r.2.2.2.1=(k:Int)/\k<=ts.length:=by
 unfold F12 anW;refine Ok.bind (aJv n (by omega) fN c hc) λx6 ⟨h1,h2⟩=> ?_
 refine Ok.bind (aJu n hn fN x6.2 h1 x6.1 h2.jD) λgS ⟨g1,g2,g3⟩=> ?_
 obtain ⟨ts,sf⟩:=g2.chain;have pO:x6.1.ax<=2:=by
  obtain ⟨v,id,k,r1,r2,r3,ch,hp,e⟩:=h2;rw[e];exact hp.v1
 rw[aJt n (by omega) fN x6.1 h2.jD gS.1 (λm hm=>(g2.mem m hm).1) (by omega) (by omega) ts sf,au]
 refine Ok.bind (ka n gS.2 _ g1) λsL ⟨k1,k2,k3,_⟩=> ?_
 have k3:=k3 (by simp;omega)
 obtain ⟨k,hk⟩:∃k:Nat,sL.1=(k:Int):=⟨sL.1.toNat,by omega⟩
 exact Ok.pure ⟨k1,h2,g2,g3,ts,k,sf,rfl,hk,by simp at k3;omega⟩
def ew.ver:∀{s:ag} {ms:cJ} {ts:fL},ew s ms ts->∀(i:Nat) t,(s::ts)[i]? =some t->t.ax=s.ax+(i:Int)
 |s,ms,ts,h,0,t,ht=>by simp at ht;subst ht;simp
 |s,[],[],_,i+1,t,ht=>by simp at ht
 |s,m::ms,u::ts,h,i+1,t,ht=>by
  have:=ew.ver h.2.2.2 i t (by simpa using ht)
  rw[this,h.2.1.ver];omega
 |_,[],_::_,h,_+1,_,_=>by cases h
 |_,_::_,[],h,_+1,_,_=>by cases h
end
section
def aJm (n:Nat) (a b:aP):F69 n a b=some (lj a b):=by
 unfold F69 anv lj;by_cases h1:a.ay<b.ay
 ·simp[h1]
 ·by_cases h2:b.ay<a.ay
  ·simp[h1,h2]
  ·by_cases h3:a.bZ<b.bZ
   ·simp[h1,h2,h3]
   ·by_cases h4:b.bZ<a.bZ
    ·simp[h1,h2,h3,h4]
    ·by_cases h5:Op.bytesLess a.bB.toList b.bB.toList=true
     ·simp[h1,h2,h3,h4,h5]
     ·by_cases h6:a.bB=b.bB
      ·simp[h1,h2,h3,h4,h6,oT]
      ·have h7:¬a.bB.toList=b.bB.toList:=λe=>h6 (zK (by rw[vZ,vZ] at e;exact e))
       simp[h1,h2,h3,h4,h5,h6,h7]
def asj (n0:Nat) (a b:cC) (ha:a.length<4294967296):∀(x:cC) (i m:Nat),a.drop i=x->i<=a.length->i<=b.length->x.length<m->Mr (QZ n0) m a b (i:Int)=some (eZ (a.drop i) (b.drop i))
 | [],i,m+1,hd,h1,h2,hm=>by
  have hl:a.length<=i:=by simpa using hd
  have hq:¬((i:Int)<(a.length:Int)):=by omega
  simp only[Mr,Yz,QZ,hq,aX,aC,aA];rw[hd];cases hb:b.drop i with
  |nil=>
   have:b.length<=i:=by simpa using hb
   have e1:¬(a.length:Int)<b.length:=by omega
   have e2:¬(b.length:Int)<a.length:=by omega
   simp[e1,e2,eZ]
  |cons y l=>
   obtain ⟨_,_,g3⟩:=bE hb;have e1:(a.length:Int)<b.length:=by omega
   simp[e1,eZ]
 |x::xs,i,m+1,hd,h1,h2,hm=>by
  let ⟨g1,g2,g3,hq⟩:=gdr hd
  simp only[Mr,Yz,hq,aU,aB];cases hb:b.drop i with
  |nil=>
   have hl:b.length<=i:=by simpa using hb
   have e0:¬(i:Int)<b.length:=by omega
   have e1:¬(a.length:Int)<b.length:=by omega
   have e2:(b.length:Int)<a.length:=by omega
   simp[e0,e1,e2,QZ,hd,eZ]
  |cons y l=>
   obtain ⟨k1,k2,k3⟩:=bE hb;have e0:(i:Int)<b.length:=by omega
   simp only[e0,aU,aB,bM,g1,k1,au,aJm];rw[hd,cf g3 ha];simp only[eZ];by_cases h:lj x y=0
   ·simp only[h,jg,aC,aA,aB];rw[asj n0 a b ha xs (i+1) m g2 (by omega) (by omega) (by simp at hm;omega),g2,k2]
   ·have:(lj x y !=0)=true:=by simpa using h
    simp only[this,h,aB,aA]
 |_,_,0,_,_,_,hm=>by simp at hm
def asA (n:Nat) (a b:cC) (ha:a.length<4294967296) (hn:a.length<n):F27 n a b=some (eZ a b):=by
 have:=asj n a b ha a 0 n rfl (by omega) (by omega) hn
 simp only[rR] at this;exact this
variable {s:ag} {t:Int} {T:aj} {n:Nat}
def VZ (r:cC) (h:r.length<=1000000):V0 n r=some r:=by
 simp only[V0,afv];rw[dL _ _ (by simpa using h)]
 rfl
def asx (hT:idx s.ai t=some T) (ht:lI T) (r:cC) (hr:r.length=T.ae.length):F52 n s t r=some (r.take T.aw.toNat):=by
 obtain ⟨h0,h1,_⟩:=Bq hT;have:=ht.cols;have k1:=ht.zq;have k2:=ht.jl;have e1:¬t<0:=by omega
 have e2:t<(s.ai.length:Int):=by omega
 have e3:¬(r.length:Int)<T.aw:=by omega
 have e4:0<T.aw:=by omega
 simp only[F52,anE,e1,e2,aX,aU,du,aC,aA,hT,au,e3,e4,aB];rw[Ql (by omega) (by omega),au,VZ _ (by simp;omega)]
 rfl
end

section
def Gy {T:aj} {c:cG} (h:T.ae[i]? =some c):(eA T)[i]? =some c.ay:=by simp[eA,h]
def agm {T:aj} {c:cG} (h:T.ae[i]? =some c):(eA T).drop i=c.ay::(eA T).drop (i+1):=by
 have h1:i<(eA T).length:=by rw[oh];exact (bY.1 h).1
 have h2:=Gy h;rw[qJ h1];rw[dI h1] at h2;rw[kV h2]
def len0 (l:List J):((l.length:Int)==0)=l.isEmpty:=by cases l<;>simp;omega
def apf {T:aj} {r:cC} (h:qc (eA T) r=true):r.length=T.ae.length:=by rw[aav h,oh]
def behind (T:aj):Option cC->cC->Bool
 |none,_=>true
 |some q,r=>decide (eZ (q.take T.aw.toNat) (r.take T.aw.toNat)<0)
def total:ey->Nat
 | []=>0
 |rs::rss=>rs.length+total rss
def aoh (h:rs∈x):rs.length<=total x:=by
 induction x with
 |nil=>simp at h
 |cons y x ih=>
  simp only[total];rcases cH.1 h with rfl|h
  ·omega
  ·have:=ih h;omega
section
variable {s:ag} {t n:Nat} {T:aj}
def asv (hT:idx s.ai t=some T) (ht:lI T) (r:cC) (hr:r.length=T.ae.length):F68 n s t r=some (r.take T.aw.toNat):=by
 obtain ⟨h0,h1,_⟩:=Bq hT;have:=ht.cols;have k1:=ht.zq;have k2:=ht.jl;have e1:¬(t:Int)<0:=by omega
 have e2:(t:Int)<(s.ai.length:Int):=by omega
 have e3:¬(r.length:Int)<T.aw:=by omega
 have e4:0<T.aw:=by omega
 simp only[F68,anw,e1,e2,aX,aU,du,aC,aA,hT,au,e3,e4,aB];rw[Ql (by omega) (by omega),au]
end
abbrev uC:=ey
def vg (md key:Int) (i:Nat) (k:Int) (v:aP):Bool:=mE v&&decide (v.ay=k\/(¬(i:Int)<key/\((v.ay=2/\md≠1)\/(v.ay=1/\md=3))))
def jF (md key:Int):Nat->aK->cC->Bool
 |_,[],[]=>true
 |i,k::ks,v::vs=>vg md key i k v&&jF md key (i+1) ks vs
 |_,_,_=>false
section
variable {md key:Int}
def Gd:∀{i:Nat} {ks:aK} {vs:cC},jF md key i ks vs=true->vs.length=ks.length
 |_,[],[],_=>rfl
 |_,k::ks,v::vs,h=>by simp[jF] at h;simp[Gd h.2]
 |_,[],_::_,h=>by simp[jF] at h
 |_,_::_,[],h=>by simp[jF] at h
def aBN {ks:aK} {r:cC} (h:¬r.length=ks.length):jF md key i ks r=false:=by
 cases hr:jF md key i ks r with
 |false=>rfl
 |true=>exact absurd (Gd hr) h
def Wp:∀{i:Nat} {ks:aK} {vs:cC} {k:Int} {v:aP},jF md key i ks vs=true->vg md key (i+ks.length) k v=true->jF md key i (ks++ [k]) (vs++ [v])=true
 |i,[],[],k,v,_,h1=>by simpa[jF] using h1
 |i,k'::ks,v'::vs,k,v,h,h1=>by
  simp only[jF,bF] at h;simp only[yB,jF,bF];exact ⟨h.1,Wp h.2 (by rw[show i+1+ks.length=i+(k'::ks).length by simp;omega];exact h1)⟩
 |_,[],_::_,_,_,h,_=>by simp[jF] at h
 |_,_::_,[],_,_,h,_=>by simp[jF] at h
def WJ {k:Int} (h1:v.ay=k) (h2:gB v=true):vg md key i k v=true:=by
 unfold gB at h2;rw[bF] at h2;unfold vg;rw[bF];exact ⟨h2.1,by simp[h1]⟩
def ahA:∀{i:Nat} {ks:aK} {vs:cC},qc ks vs=true->jF md key i ks vs=true
 |_,[],[],_=>rfl
 |i,k::ks,v::vs,h=>by
  simp only[qc,bF,qI] at h;simp only[jF,bF];exact ⟨WJ h.1.2 h.1.1,ahA h.2⟩
 |_,[],_::_,h=>by simp[qc] at h
 |_,_::_,[],h=>by simp[qc] at h
def aau:∀{i:Nat} {ks:aK} {vs:cC},kP ks=true->jF 1 key i ks vs=qc ks vs
 |_,[],[],_=>rfl
 |i,k::ks,v::vs,h=>by
  have h1:xd k=true:=NK h (i:=0) rfl;have h2:kP ks=true:=arb h 1;simp only[jF,qc,aau (i:=i+1) (vs:=vs) h2];have e:vg 1 key i k v=(gB v&&v.ay==k):=by
   unfold vg;by_cases he:v.ay=k
   ·rw[atZ h1 he];simp[he]
   ·have e1:(v.ay==k)=false:=by simpa using he
    simp[he,e1]
  rw[e]
 |_,[],_::_,h=>rfl
 |_,_::_,[],h=>rfl
end
def azh (n0:Nat) (md:Int) (T:aj) (r:cC) (hr:r.length=T.ae.length) (hl:r.length<4294967296):∀(x:cC) (i m:Nat),r.drop i=x->i<=r.length->x.length<m->Hi (QO n0) m md r (r.length:Int) (i:Int) T=some (jF md T.aw i ((eA T).drop i) (r.drop i))
 | [],i,m+1,hd,h1,hm=>by
  have o6:r.length<=i:=by simpa using hd
  have hq:¬((i:Int)<(r.length:Int)):=by omega
  simp only[Hi,Yd,QO,hq,aX,aC,aA];rw[hd,pr (by rw[oh];omega)]
  rfl
 |x::xs,i,m+1,hd,h1,hm=>by
  let ⟨g1,g2,g3,hq⟩:=gdr hd
  have cY:i<T.ae.length:=by omega
  have hc:T.ae[i]? =some T.ae[i]:=dI cY;have hk:=agm hc;generalize T.ae[i]=c at hc hk;have ih:=azh n0 md T r hr hl xs (i+1) m g2 (by omega) (by simp at hm;omega)
  rw[g2] at ih;have key:∀b:Bool,MJ (Hi (QO n0) m) m md (i:Int) b r (r.length:Int) (i:Int) T x=if x.ay=c.ay\/b=true\/(¬(i:Int)<T.aw/\x.ay=1/\md=3) then some (jF md T.aw (i+1) ((eA T).drop (i+1)) xs) else some false:=by
   intro b;unfold MJ QP;simp only[bM,hc,au,cf g3 hl,ih];by_cases he:x.ay=c.ay
   ·simp[he]
   ·by_cases e1:x.ay=1
    ·by_cases m3:md=3
     ·by_cases hk:(i:Int)<T.aw<;>cases b<;>simp[he,e1,m3,hk]<;>(intro hh;exact absurd (e1.trans hh) he)
     ·cases b<;>simp[he,e1,m3]<;>(intro hh;exact absurd (e1.trans hh) he)
    ·cases b<;>simp[he,e1]
  simp only[Hi,Yd,hq,aU,aB,bM,g1,au,aju,key];rw[hd,hk];simp only[jF,vg];cases hv:mE x with
  |false=>simp
  |true=>
   simp only[du,aC,aA,gR];by_cases he:x.ay=c.ay
   ·by_cases h2:x.ay=2
    ·by_cases m1:md=1<;>simp[he,h2,m1]
    ·by_cases h1:x.ay=1<;>simp[he,h1,h2]
   ·by_cases h2:x.ay=2
    ·have f2:¬(2:Int)=c.ay:=λh=>he (h2.trans h)
     by_cases m1:md=1
     ·subst m1;simp[he,h2,f2]
     ·by_cases hk:(i:Int)<T.aw<;>simp[he,h2,m1,hk,f2]
    ·by_cases h1:x.ay=1
     ·have f1:¬(1:Int)=c.ay:=λh=>he (h1.trans h)
      by_cases m3:md=3<;>by_cases hk:(i:Int)<T.aw<;>simp[he,h1,m3,hk,f1]
     ·simp[he,h1,h2]
 |_,_,0,_,_,hm=>by simp at hm
section
variable {s:ag} {t md:Int} {T:aj} {n:Nat}
def Hc (md:Int):Prop:=md=1\/md=2\/md=3
def aNi (hm:Hc md) (hT:idx s.ai t=some T) (ht:lI T) (r:cC) (hn:1000<n):F66 n s t r md=some (jF md T.aw 0 (eA T) r):=by
 have hc:=ht.cols;have hl:=oh T;have e0:F66 n s t r md=Hz n t r md false s:=by
  rcases hm with rfl|rfl|rfl<;>simp[F66,anx,ajx hT]
 rw[e0];simp only[Hz,aC,aA,hT,au];by_cases h:r.length=T.ae.length
 ·have e:((r.length:Int) !=(T.ae.length:Int))=false:=by simp[h]
  rw[e];simp only[aC,aA];have:=azh n md T r h (by omega) r 0 n rfl (by omega) (by omega)
  simp only[rR] at this;exact this
 ·have e:((r.length:Int) !=(T.ae.length:Int))=true:=by simp;omega
  rw[e,aBN (by omega)]
  rfl
end
def auH {md key k:Int} (h1:md≠1) (h2:¬(i:Int)<key):vg md key i k ⟨2,0,ByteArray.empty⟩=true:=by
 have:mE ⟨2,0,ByteArray.empty⟩=true:=by simp[mE]
 simp[vg,this,h1,h2]
def atP {md key k:Int} (h1:md=3) (h2:¬(i:Int)<key):vg md key i k ⟨1,0,ByteArray.empty⟩=true:=by
 have:mE ⟨1,0,ByteArray.empty⟩=true:=by simp[mE]
 simp[vg,this,h1,h2]
def azi (md:Int) (ks:aK) (hk:kP ks=true) (hl:ks.length<=100) (key:Int) (n0:Nat):∀(xs:aK) (i m:Nat) (out:cC) (c:aM),ks.drop i=xs->300+xs.length<m->dk c->jF md key 0 (ks.take i) out=true->
  Ok (Db (ML n0) m key md ks (ks.length:Int) (i:Int) c out) λr=>dk r.2/\jF md key 0 ks r.1=true
 | [],i,m+1,out,c,hd,hm,hc,ho=>by
  have:ks.length<=i:=by simpa using hd
  have hq:¬((i:Int)<(ks.length:Int)):=by omega
  simp only[Db,Yl,ML,hq,aX,aC,aA];exact Ok.pure ⟨hc,by rwa[kq this] at ho⟩
 |x::xs,i,m+1,out,c,hd,hm,hc,ho=>by
  obtain ⟨g1,g2,g3⟩:=bE hd;have hq:((i:Int)<(ks.length:Int)):=by omega
  have hx:=NK hk g1;have hkr:=yP hx;have hlen:=Gd ho;rw[dR] at hlen;have htl:(ks.take i).length=i:=by rw[dR];omega
  simp only[Db,Yl,hq,aU,aB,bM,g1,au];simp at hm;have next:∀v c',dk c'->vg md key i x v=true->Ok (yz (Db (ML n0) m) m key md ks (ks.length:Int) (i:Int) c' (out++ [v])) λr=>dk r.2/\jF md key 0 ks r.1=true:=by
   intro v c' sZ hv;unfold yz;rw[cf g3 (by omega)]
   refine azi md ks hk hl key n0 xs (i+1) m _ _ g2 (by omega) sZ ?_
   rw[DW,g1];exact Wp ho (by rw[htl,cA];exact hv)
  have cell:∀c' b,dk c'->(b=true->md=3/\¬(i:Int)<key)->Ok (Dg (yz (Db (ML n0) m) m) m key md x ks (ks.length:Int) (i:Int) b c' out) λr=>dk r.2/\jF md key 0 ks r.1=true:=by
   intro c' b sZ hb;unfold Dg;refine Ok.ite (λh=> ?_) λ_=> ?_
   ·rw[dL _ _ (by simp;omega),au]
    exact next _ _ sZ (atP (hb h).1 (hb h).2)
   ·refine Ok.bind (Ce m (by omega) c' x sZ hkr.1 hkr.2) λr ⟨hr,r1,r2⟩=> ?_
    rw[dL _ _ (by simp;omega),au]
    exact next _ _ hr (WJ r1 r2)
  refine Ok.ite (λhge=> ?_) λ_=>cell _ _ hc (λh=>by cases h)
  have hge:¬(i:Int)<key:=by simpa using hge
  refine Ok.ite (λh1=> ?_) λ_=> ?_
  ·have h1:md≠1:=by simpa using h1
   refine Ok.bind (tL m c 5 hc) λb hb=> ?_
   refine Ok.ite (λ_=> ?_) λ_=> ?_
   ·rw[dL _ _ (by simp;omega),au]
    exact next _ _ hb (auH h1 hge)
   ·refine Ok.ite (λh3=> ?_) λ_=>cell _ _ hb (λh=>by cases h)
    refine Ok.bind (tL m b.2 5 hb) λd hd=> ?_
    exact cell _ _ hd λ_=>⟨by simpa using h3,hge⟩
  ·refine Ok.ite (λh3=> ?_) λ_=>cell _ _ hc (λh=>by cases h)
   refine Ok.bind (tL m c 5 hc) λd hd=> ?_
   exact cell _ _ hd λ_=>⟨by simpa using h3,hge⟩
 |_,_,0,_,_,_,hm,_,_=>by simp at hm
def aNl (n:Nat) (md:Int) (hn:1000<=n) (c:aM) (ks:aK) (key:Int) (hk:kP ks=true) (hl:ks.length<=100) (hc:dk c):Ok (F49 n c ks key md) λr=>dk r.2/\jF md key 0 ks r.1=true:=
 azi md ks hk hl key n ks 0 n [] c rfl (by omega) hc rfl
end
section
def Cs {md key:Int} {T:aj} {r:cC} (h:jF md key 0 (eA T) r=true):r.length=T.ae.length:=by rw[Gd h,oh]
def yl (md:Int) (T:aj):Option cC->bU->Bool
 |_,[]=>true
 |p,r::rs=>jF md T.aw 0 (eA T) r&&(behind T p r&&yl md T (some r) rs)
def zZ (md:Int):bn->ey->Bool
 |T::Ts,rs::rss=>yl md T none rs&&zZ md Ts rss
 |_,_=>true
def OP (md:Int) (s:ag) (e:Int) (ts:ey):Int:=
 if e=0 then (if 512<total ts then 2 else if ts.length=s.ai.length then (if zZ md s.ai ts then 0 else 80) else 80) else e
variable {s:ag} {t n:Nat} {T:aj} {md:Int}
def aNj (hmd:Hc md) (he:F15 n s=some e):F64 n s md=some e:=by
 unfold F64 anA;rw[he,au];rcases hmd with rfl|rfl|rfl<;>simp<;>omega
def aiQ (hmd:Hc md) (hT:idx s.ai (t:Int)=some T) (ht:lI T) (rows:bU) (hl:rows.length<=2000000) (k:Int->ey->Int->Int->ag->Option Int) (a:ey) (a1 a2:Int):
  ∀(x:bU) (i m:Nat),rows.drop i=x->x.length+1100<m->(i=0\/∃q,rows[i-1]? =some q/\q.length=T.ae.length)->
   Ms k m md (t:Int) rows a a1 a2 rows (rows.length:Int) (i:Int) s=if yl md T (if i=0 then none else rows[i-1]?) x then k md a a1 a2 s else some 80
 | [],i,m+1,hd,hm,_=>by
  have o6:rows.length<=i:=by simpa using hd
  have hq:¬((i:Int)<(rows.length:Int)):=by omega
  simp only[Ms,YC,hq,aX,aC,aA,yl,aB]
 |r::x,i,m+1,hd,hm,hp=>by
  let ⟨g1,g2,g3,hq⟩:=gdr hd
  simp at hm;simp only[Ms,YC,hq,aU,aB,bM,g1,au,aNi hmd hT ht r (by omega:1000<m),yl]
  rcases kf (jF md T.aw 0 (eA T) r) with hr|hr
  rotate_left
  ·simp[hr]
  ·have hc:=Cs hr;have h8:=ht.cols;have ih:=aiQ hmd hT ht rows hl k a a1 a2 x (i+1) m g2 (by omega) (.inr ⟨r,by rw[Nat.add_sub_cancel];exact g1,hc⟩)
   rw[aL (by omega:¬i+1=0),Nat.add_sub_cancel,g1] at ih
   simp only[hr,du,aC,aA,gR,cf g3 (by omega:rows.length<4294967296),ih]
   by_cases h0:i=0
   ·subst h0;simp[behind]
   ·obtain ⟨q,hg,hql⟩:=hp.resolve_left h0;have h0':0<(i:Int):=by omega
    have hw:bl ((i:Int)-1)=((i-1:Nat):Int):=by rw[dw (by omega) (by omega)];omega
    simp only[h0',aU,aB,hw,bM,hg,au,h0,aA,asv hT ht q hql,asv hT ht r hc,ady m (q.take T.aw.toNat) (r.take T.aw.toNat) (by simp;omega) (by simp;omega),behind]
    by_cases h5:eZ (q.take T.aw.toNat) (r.take T.aw.toNat)<0
    ·simp[h5]
    ·simp[h5]
 |_,_,0,_,hm,_=>by simp at hm
def aiP (hmd:Hc md) (hs:SOK s) (n0:Nat) (ts:ey) (hlen:ts.length=s.ai.length) (hl:total ts<=512):
  ∀(x:ey) (i m:Nat),ts.drop i=x->x.length+2000<m->
   Ho (Q0 n0) m md ts (ts.length:Int) (i:Int) s=some (if zZ md (s.ai.drop i) x then 0 else 80)
 | [],i,m+1,hd,hm=>by
  have o6:ts.length<=i:=by simpa using hd
  have hq:¬((i:Int)<(ts.length:Int)):=by omega
  simp only[Ho,YA,Q0,hq,aX,aC,aA];cases s.ai.drop i<;>simp[zZ]
 |rs::x,i,m+1,hd,hm=>by
  let ⟨g1,g2,g3,hq⟩:=gdr hd
  have h8:=hs.len;have EH:=aoh (cT g1);simp at hm;have hi:i<s.ai.length:=by omega
  have hT:idx s.ai (i:Int)=some (s.ai[i]):=by rw[bM];exact dI _
  have ih:=aiP hmd hs n0 ts hlen hl x (i+1) m g2 (by omega)
  simp only[Ho,YA,hq,aU,aB,bM,g1,au];have e:=aiQ hmd hT (hs.cy _ _ hT) rs (by omega) (YB (Ho (Q0 n0) m) m) ts (ts.length:Int) (i:Int) rs 0 m rfl (by omega) (.inl rfl)
  rw[aH rfl,show ((0:Nat):Int)=0 from rfl] at e;rw[e,qJ hi];simp only[YB,cf g3 (by omega:ts.length<4294967296),ih,zZ]
  rcases kf (yl md s.ai[i] none rs) with hb|hb<;>simp[hb]
 |_,_,0,_,hm=>by simp at hm
def asg (k:Int->Option Int) (ts:ey) (hl:ts.length+total ts<=2000000):∀(x:ey) (i m a:Nat),ts.drop i=x->x.length<m->a+total x<=2000000->Ml k m (a:Int) ts (ts.length:Int) (i:Int)=k ((a+total x:Nat):Int)
 | [],i,m+1,a,hd,hm,ha=>by
  have o6:ts.length<=i:=by simpa using hd
  have hq:¬((i:Int)<(ts.length:Int)):=by omega
  simp only[Ml,Yf,hq,aX,aC,aA,total,ng]
 |rs::x,i,m+1,a,hd,hm,ha=>by
  let ⟨g1,g2,g3,hq⟩:=gdr hd
  simp at hm;simp only[total] at ha;have hw:bl ((a:Int)+(rs.length:Int))=((a+rs.length:Nat):Int):=by rw[dw (by omega) (by omega)];omega
  simp only[Ml,Yf,hq,aU,aB,bM,g1,au,cf g3 (by omega:ts.length<4294967296),hw]
  rw[asg k ts hl x (i+1) m (a+rs.length) g2 (by omega) (by omega)]
  simp only[total,fU]
 |_,_,0,_,_,hm,_=>by simp at hm
def azk (hmd:Hc md) (n:Nat) (s:ag) (e:Int) (he:F15 n s=some e) (hs:e=0->SOK s) (st:aW) (hl:st.ai.length+total st.ai<=2000000) (hn:2000100<=n):F26 n s md st=some (OP md s e st.ai):=by
 unfold F26 anO OP;rw[aNj hmd he,au];by_cases h0:e=0
 ·subst h0;have h57:=asg (Ye n) st.ai hl st.ai 0 n 0 rfl (by omega) (by omega)
  simp only[jg,aC,aA,aB,au,F65,anz,show ((0:Nat):Int)=0 from rfl,cA] at h57 ⊢;rw[h57];simp only[Ye,au];by_cases h1:512<total st.ai
  ·have ta:(512:Int)<(total st.ai:Int):=by omega
   simp only[h1,ta,aU,aB]
  ·have ta:¬(512:Int)<(total st.ai:Int):=by omega
   simp only[h1,ta,aX,aC,aA];by_cases h2:st.ai.length=s.ai.length
   ·have ER:((st.ai.length:Int) !=(s.ai.length:Int))=false:=by simp[h2]
    rw[ER,aH h2,aL (by simp)]
    have h8:=(hs rfl).len;have:=aiP hmd (hs rfl) n st.ai h2 (by omega) st.ai 0 n rfl (by omega)
    rw[rR,show ((0:Nat):Int)=0 from rfl] at this;exact this
   ·have ER:((st.ai.length:Int) !=(s.ai.length:Int))=true:=by simp;omega
    simp only[ER,aB,h2,aA]
 ·have:(e !=0)=true:=by simpa using h0
  simp[this,h0]
end
section
def jk (T:aj) (key row:cC):Bool->bU->bU
 |done,[]=>if done=true then [] else [row]
 |done,r::x=>if eZ (lC T r) key<0 then r::jk T key row done x else (if done=true then [] else [row])++(if eZ (lC T r) key=0 then [] else [r])++jk T key row true x
section
variable {s:ag} {t n:Nat} {T:aj} {md:Int} {ts:uC} {rows:bU} {key row:cC}
def ahG:∀{x:bU},(∀y∈x,lt key (lC T y))->jk T key row true x=x
 | [],_=>rfl
 |r::x,h=>by
  have h1:=h r (by simp)
  have h2:¬eZ (lC T r) key<0:=λh=>lt_asymm h1 (Lt.1 h)
  have h3:¬eZ (lC T r) key=0:=λe=>by rw[Em e] at h1;exact lt_irrefl _ h1
  have ih:=ahG (x:=x) λy hy=>h y (by simp[hy])
  simp only[jk,h2,h3,aA,aB,jW,SL,ih]
def ahH:∀{done:Bool} {x:bU},Ord T x->jk T key row done x=wm T key (if done=true then [] else [row]) x
 |done,[],_=>by simp[jk,wm]
 |done,r::x,h=>by
  obtain ⟨h1,h2⟩:=wc.1 h;by_cases hl:eZ (lC T r) key<0
  ·have xi:=Lt.1 hl;have e1:decide (lt (lC T r) key)=true:=by simpa using xi
   have e2:decide (lt key (lC T r))=false:=by simpa using lt_asymm xi
   have ih:=ahH (done:=done) h2;simp only[jk,hl,aB,ih,wm,mD,e1,e2,aC,aA,yB]
  ·have xi:¬lt (lC T r) key:=λh=>hl (Lt.2 h)
   have gt:∀y∈x,lt key (lC T y):=λy hy=>by
    rcases abg (lC T r) key with h|h|h
    ·exact absurd h xi
    ·rw[<-h];exact h1 y hy
    ·exact lt_trans h (h1 y hy)
   have e1:decide (lt (lC T r) key)=false:=by simpa using xi
   have e3:x.filter (λr=>decide (lt (lC T r) key))= []:=filter_none λy hy=>by simpa using lt_asymm (gt y hy)
   have e4:x.filter (λr=>decide (lt key (lC T r)))=x:=filter_all λy hy=>by simpa using gt y hy
   simp only[jk,hl,aA,ahG gt,wm,mD,e1,e3,e4,aC,jW];by_cases h0:eZ (lC T r) key=0
   ·have e5:decide (lt key (lC T r))=false:=by
     rw[Em h0];simpa using lt_irrefl key
    simp only[h0,aB,e5,aC,aA,tN]
   ·have e5:decide (lt key (lC T r))=true:=by
     rcases abg (lC T r) key with h|h|h
     ·exact absurd h xi
     ·exact absurd (aga.2 h) h0
     ·simpa using h
    simp only[h0,aA,e5,aB,lu,SL]
def Nb {T:aj} (k:cC):∀rows:bU,(rows.filter λr=>decide (lt (lC T r) k)).length+(rows.filter λr=>decide (lt k (lC T r))).length<=rows.length
 | []=>by simp
 |r::rows=>by
  have ih:=Nb (T:=T) k rows;rw[mD,mD];by_cases h1:lt (lC T r) k
  ·have h2:¬lt k (lC T r):=lt_asymm h1;simp only[h1,h2,aU,aX,aB,aC,aA,kr];omega
  ·by_cases h2:lt k (lC T r)
   ·simp only[h1,h2,aU,aX,aB,aC,aA,kr];omega
   ·simp only[h1,h2,aX,aC,aA,kr];omega
def atB {T:aj} (k:cC) (N rows:bU):(wm T k N rows).length<=rows.length+N.length:=by
 have:=Nb (T:=T) k rows;unfold wm;simp only[gO];omega
def VL (n0:Nat) (hT:s.ai[t]? =some T) (ht:lI T) (BA:key.length<=100) (Vp:row.length<=100) (hr:∀r∈rows,r.length=T.ae.length) (EH:rows.length<=1000) (mS:t<ts.length):∀(x:bU) (i m:Nat) (done:Bool) (out:bU) (z1 z2:aW),rows.drop i=x->x.length+1100<m->out.length+2*x.length<=100000->
  Hk (QS n0) m (t:Int) key row done rows (rows.length:Int) (i:Int) ts s z1 z2 out=some (⟨ts.set t (out++jk T key row done x)⟩,ts.set t (out++jk T key row done x))
 | [],i,m+1,done,out,z1,z2,hd,hm,ho=>by
  have o6:rows.length<=i:=by simpa using hd
  have hq:¬((i:Int)<(rows.length:Int)):=by omega
  have e1:eW ts.length (t:Int)=some t:=by unfold eW;rw[aH (by omega)];rfl
  have e2:ts[0+t]? =some ts[t]:=by rw[cA];exact dI mS
  have e3:∀o,setAt ts (0+t) o=some (ts.set t o):=λo=>by rw[cA];unfold setAt;rw[aH mS]
  simp only[Hk,Yi,QS,Yh,hq,aX,aC,aA,e1,e2,e3,au,VZ (n:=n0) row (by omega),jk]
  cases done with
  |true=>simp
  |false=>
   simp only[hZ,aB,aC,aA];rw[dL _ _ (by simp at ho ⊢;omega),au]
 |r::x,i,m+1,done,out,z1,z2,hd,hm,ho=>by
  let ⟨g1,g2,g3,hq⟩:=gdr hd
  have Bw:=hr r (cT g1);have eI:=ht.cols;have xk:=ht.jl;simp at hm ho;have hTi:idx s.ai (t:Int)=some T:=by rw[bM];exact hT
  have step:∀(dn:Bool) (c:Int) (aaP:bU),aaP.length<=out.length+1->MK (Hk (QS n0) m) m (t:Int) key row dn r c rows (rows.length:Int) (i:Int) ts s ⟨ts⟩ ⟨[]⟩ aaP=some (⟨ts.set t (aaP++(if c=0 then [] else [r])++jk T key row dn x)⟩,ts.set t (aaP++(if c=0 then [] else [r])++jk T key row dn x)):=by
   intro dn c aaP h1;unfold MK;rw[cf g3 (by omega)]
   by_cases hc:c=0
   ·subst hc;simp only[jg,aC,aA,aB,tN];exact VL n0 hT ht BA Vp hr EH mS x (i+1) m dn _ _ _ g2 (by omega) (by omega)
   ·have sZ:(c !=0)=true:=by simpa using hc
    simp only[sZ,aB,hc,aA];rw[dL _ _ (by simp;omega),au]
    exact VL n0 hT ht BA Vp hr EH mS x (i+1) m dn _ _ _ g2 (by omega) (by simp;omega)
  simp only[Hk,Yi,hq,aU,aB,bM,g1,au,asx (n:=m) hTi ht r Bw,asA m (r.take T.aw.toNat) key (by simp;omega) (by simp;omega),VZ (n:=m) row (by omega),jk]
  by_cases hl:eZ (lC T r) key<0
  ·have h0:¬eZ (lC T r) key=0:=by omega
   simp only[hl,aU,du,aC,aA,aB];rw[step done _ out (by omega)]
   simp only[h0,aA,lu,SL]
  ·simp only[hl,aX,hZ,aB,aA];cases done with
   |true=>
    simp only[du,aC,aA,aB,jW];rw[step true _ out (by omega)]
    simp only[lu]
   |false=>
    simp only[hZ,aB,aC,aA];rw[dL _ _ (by simp;omega),au,step true _ _ (by simp)]
    simp only[lu]
 |_,_,0,_,_,_,_,_,hm,_=>by simp at hm
def IT (row:cC):bU:=if row= [] then [] else [row]
def aCM (hT:s.ai[t]? =some T) (ht:lI T) (BA:key.length<=100) (Vp:row.length<=100) (l8:ts[t]? =some rows) (hr:∀r∈rows,r.length=T.ae.length) (EH:rows.length<=1000) (hO:Ord T rows) (hn:3000<n):
  F51 n s ⟨ts⟩ (t:Int) key row=some (⟨ts.set t (wm T key (IT row) rows)⟩,ts.set t (wm T key (IT row) rows)):=by
 have mS:t<ts.length:=(bY.1 l8).1;have e1:eW ts.length (t:Int)=some t:=by unfold eW;rw[aH (by omega)];rfl
 unfold F51 anF;simp only[e1,au,cA,l8];have h:=VL (key:=key) n hT ht BA Vp hr EH mS rows 0 n ((row.length:Int)==0) [] ⟨ts⟩ ⟨[]⟩ rfl (by omega) (by simp;omega)
 rw[show ((0:Nat):Int)=0 from rfl,jW,ahH hO] at h;rw[h,len0];have:(if row.isEmpty=true then [] else [row])=IT row:=by unfold IT;cases row<;>simp
 rw[this]
end
structure StM (md:Int) (s:ag) (ts:uC):Prop where
 len:ts.length=s.ai.length
 row:∀(t:Nat) T rows,s.ai[t]? =some T->ts[t]? =some rows->(∀r∈rows,jF md T.aw 0 (eA T) r=true)/\Ord T rows
structure H6 (md:Int) (s:ag) (ts:uC):Prop where
 len:ts.length=s.ai.length
 row:∀(t:Nat) T rows,s.ai[t]? =some T->ts[t]? =some rows->rows.length<=8/\∀r∈rows,jF md T.aw 0 (eA T) r=true
 ord:∀(t:Nat) T rows,s.ai[t]? =some T->ts[t]? =some rows->Ord T rows
def H6.m {md:Int} {s:ag} {ts:uC} (h:H6 md s ts):StM md s ts:=⟨h.len,λt T rows hT hr=>⟨(h.row t T rows hT hr).2,h.ord t T rows hT hr⟩⟩
def aiU (md:Int) (k:Int->Int->Int->aM->ag->aW->aW->ey->Option (aW×aM)) (s:ag) (t:Nat) (T:aj) (hT:s.ai[t]? =some T) (ht:lI T) (a1 a2:Int) (Q:aW×aM->Prop):∀(j m:Nat) (c:aM) (z1 z2:aW) (ts:ey) (rows:bU),4000+j<m->dk c->ts[t]? =some rows->rows.length+j<=8->(∀r∈rows,jF md T.aw 0 (eA T) r=true)->Ord T rows->
  (∀c' z1' z2' Cr,dk c'->Cr.length<=8->(∀r∈Cr,jF md T.aw 0 (eA T) r=true)->Ord T Cr->Ok (k md a1 a2 c' s z1' z2' (ts.set t Cr)) Q)->
  Ok (Mv k m md (t:Int) (j:Int) a1 a2 c s z1 z2 ts) Q
 |0,m+1,c,z1,z2,ts,rows,hm,hc,hg,hl,hr,hO,hk=>by
  have hq:¬(0:Int)<((0:Nat):Int):=by omega
  simp only[Mv,YH,hq,aX,aC,aA];have:=hk c ⟨[]⟩ ⟨ts⟩ rows hc (by omega) hr hO
  have e:ts.set t rows=ts:=by
   obtain ⟨h1,h2⟩:=bY.1 hg;rw[<-h2];exact List.set_getElem_self h1
  rwa[e] at this
 |j+1,m+1,c,z1,z2,ts,rows,hm,hc,hg,hl,hr,hO,hk=>by
  have hq:(0:Int)<((j+1:Nat):Int):=by omega
  have hTi:idx s.ai (t:Int)=some T:=by rw[bM];exact hT
  have eI:=ht.cols;have BA:=oh T;simp only[Mv,YH,hq,aU,aB,adA hTi (by omega) (by omega:1000<m),au,hTi]
  refine Ok.bind (aNl m md (by omega) c (eA T) T.aw ht.ks (by omega) hc) λr ⟨h1,h2⟩=> ?_
  have Bw:=Cs h2;have k1:=ht.zq;have k2:=ht.jl;rw[asx (n:=m) hTi ht r.1 Bw,au];rw[aCM (n:=m) hT ht (by simp;omega) (by omega) hg (λy hy=>Cs (hr y hy)) (by omega) hO (by omega),au]
  have cZ:r.1≠ []:=λe=>by rw[e] at Bw;simp at Bw;omega
  have e1:IT r.1= [r.1]:=by unfold IT;rw[aL cZ]
  rw[e1];have q2:=atB (T:=T) (lC T r.1) [r.1] rows;have q4:=atz (T:=T) hO (.inr ⟨r.1,rfl,rfl⟩: [r.1]= []\/∃y,[r.1]= [y]/\lC T y=lC T r.1);have q3:∀y∈wm T (lC T r.1) [r.1] rows,jF md T.aw 0 (eA T) y=true:=λy hy=>by
   rcases atA.1 hy with h|h
   ·exact hr y h.1
   ·rw[ez.1 h];exact h2
  generalize wm T (lC T r.1) [r.1] rows=Cr at q2 q3 q4;simp at q2;have hw:bl (((j+1:Nat):Int)-1)=(j:Int):=by rw[dw (by omega) (by omega)];omega
  rw[hw];have mS:t<ts.length:=(bY.1 hg).1;refine aiU md k s t T hT ht a1 a2 Q j m r.2 _ _ (ts.set t Cr) Cr (by omega) h1 (by rw[pw mS]) (by omega) q3 q4 λc' z1' z2' aEP k1 k2 k3 k4=> ?_
  rw[vD];exact hk c' z1' z2' aEP k1 k2 k3 k4
 |_,0,_,_,_,_,_,hm,_,_,_,_,_,_=>by omega
def aiT (md:Int) (n0:Nat) (s:ag) (hs:SOK s):∀(x:bn) (i m:Nat) (c:aM) (z1 z2:aW) (ts:ey),s.ai.drop i=x->4100+x.length<m->dk c->H6 md s ts->(∀t,i<=t->t<ts.length->ts[t]? =some [])->
  Ok (Hq (Ra n0) m md (s.ai.length:Int) (i:Int) c s z1 z2 ts) λr=>dk r.2/\H6 md s r.1.ai
 | [],i,m+1,c,z1,z2,ts,hd,hm,hc,mS,h0=>by
  have:s.ai.length<=i:=by simpa using hd
  have hq:¬((i:Int)<(s.ai.length:Int)):=by omega
  simp only[Hq,YF,Ra,hq,aX,aC,aA];exact Ok.pure ⟨hc,mS⟩
 |T::x,i,m+1,c,z1,z2,ts,hd,hm,hc,mS,h0=>by
  let ⟨g1,g2,g3,hq⟩:=gdr hd
  have hl8:=hs.len;have ht:=hs.cy (i:Int) T (by rw[bM];exact g1)
  simp at hm;simp only[Hq,YF,hq,aU,aB];refine Ok.bind (ka m c 5 hc) λr ⟨hr,r0,r1,_⟩=> ?_
  have r1:=r1 (by omega)
  have e:r.1=((r.1.toNat:Nat):Int):=by omega
  rw[e];refine aiU md (YG (Hq (Ra n0) m) m) s i T g1 ht _ _ _ r.1.toNat m r.2 _ _ ts [] (by omega) hr (h0 i (dg _) (by rw[mS.len];omega)) (by simp;omega) (by simp) (by simp[Ord]) λc' z1' z2' Cr k1 k2 k3 k4=> ?_
  unfold YG;rw[cf g3 (by omega)]
  refine aiT md n0 s hs x (i+1) m c' _ _ _ g2 (by omega) k1 ⟨by rw[nc];exact mS.len,λt T' rows EP l8=> ?_,λt T' rows EP l8=> ?_⟩ λt h1 h2=> ?_
  ·by_cases hti:t=i
   ·subst hti;rw[g1] at EP;cases EP;rw[pw (by rw[mS.len];omega)] at l8
    cases l8;exact ⟨k2,k3⟩
   ·rw[xt (λe=>hti e.symm)] at l8
    exact mS.row t T' rows EP l8
  ·by_cases hti:t=i
   ·subst hti;rw[g1] at EP;cases EP;rw[pw (by rw[mS.len];omega)] at l8
    cases l8;exact k4
   ·rw[xt (λe=>hti e.symm)] at l8
    exact mS.ord t T' rows EP l8
  ·rw[xt (by omega)]
   rw[nc] at h2;exact h0 t (by omega) h2
 |_,_,0,_,_,_,_,_,hm,_,_,_=>by omega
def aNn (md:Int) (n:Nat) (hn:5000<=n) (s:ag) (hs:SOK s) (c:aM) (hc:dk c):Ok (F19 n c s md) λr=>dk r.2/\H6 md s r.1.ai:=by
 have hl8:=hs.len;have e:rA (s.ai.length:Int) ([]:bU)=some (List.replicate s.ai.length []):=by
  unfold rA;rw[aH (by omega)];rfl
 unfold F19 anR;rw[e,au];refine aiT md n s hs s.ai 0 n c _ _ _ rfl (by omega) hc ⟨by simp,λt T rows hT l8=> ?_,λt T rows hT l8=> ?_⟩ λt _ h=> ?_
 ·obtain ⟨h1,h2⟩:=bY.1 l8;simp at h2;subst h2;simp
 ·obtain ⟨h1,h2⟩:=bY.1 l8;simp at h2;subst h2;simp[Ord]
 ·rw[tR] at h;simp[h]
end
def uB (m:aE) (t:Int):Int:=if m.bh=7 then (if t=m.aG then -1 else if m.aG<t then t-1 else t) else t
def HP (i a b:Int):Int:=if i=a then b else if a<i/\i<=b then i-1 else if b<=i/\i<a then i+1 else i
def tz (m:aE) (t c:Int):Int:=
 if m.bh=7 then (if t=m.aG then -1 else c)
 else if m.bh=2 then (if t=m.aG/\0<=c then (if c=m.aN then -1 else if m.aN<c then c-1 else c) else c)
 else if m.bh=3 then (if t=m.aG/\0<=c then HP c m.aN m.eL else c) else c
def wE (m:aE) (t c:Int):Bool:= !(decide (m.bh=7/\t=m.aG)||decide (m.bh=2/\t=m.aG/\0<=c/\c=m.aN))
def aDi (n:Nat) (m:aE) (hm:l6 m.aN) (t c:Int) (h0:0<=t) (h1:t<=1000) (h2: -1<=c) (h3:c<=1000):VY n m t c=some (uB m t,tz m t c,wE m t c):=by
 have w:∀x:Int,0<=x->x<=1000->bl (x-1)=x-1:=λx a b=>dw (by omega) (by omega)
 unfold VY Ss uB tz wE;by_cases e7:m.bh=7
 ·simp only[e7,hY,aB];by_cases et:t=m.aG
  ·simp[et]
  ·have et':(t==m.aG)=false:=by simpa using et
   simp only[et',aC,aA,et];by_cases hl:m.aG<t
   ·simp[hl,w t h0 h1]
   ·simp[hl]
 ·have e7':(m.bh==7)=false:=by simpa using e7
  simp only[e7',aC,aA,e7];by_cases e2:m.bh=2
  ·simp only[e2,hY,aB];by_cases et:t=m.aG
   ·have et':(t==m.aG)=true:=by simpa using et
    simp only[et',aB];by_cases hc:c<0
    ·have:¬0<=c:=by omega
     simp[hc,et,this]
    ·have hc0:0<=c:=by omega
     simp only[hc,aX,hZ,aB];by_cases ec:c=m.aN
     ·have:0<=m.aN:=by omega
      simp[et,ec,this]
     ·have ec':(c==m.aN)=false:=by simpa using ec
      simp only[ec',aC,aA];by_cases hl:m.aN<c
      ·simp[hl,et,hc0,ec,w c hc0 h3]
      ·simp[hl,et,hc0,ec]
   ·have et':(t==m.aG)=false:=by simpa using et
    simp[et',et]
  ·have JH:(m.bh==2)=false:=by simpa using e2
   simp only[JH,aC,aA,e2];by_cases e3:m.bh=3
   ·simp only[e3,hY,aB];by_cases et:t=m.aG
    ·have et':(t==m.aG)=true:=by simpa using et
     simp only[et',aB];by_cases hc:c<0
     ·have:¬0<=c:=by omega
      simp[hc,et,this]
     ·have hc0:0<=c:=by omega
      simp only[hc,aX,hZ,aB];rw[ajp n c m.aN m.eL ⟨by omega,by omega⟩ hm,au]
      simp[et,hc0,HP]
    ·have et':(t==m.aG)=false:=by simpa using et
     simp[et',et]
   ·have e3':(m.bh==3)=false:=by simpa using e3
    simp[e3',e3]
def apa {l:List J} {j a:Nat} {U T:J} (h:l[a]? =some T):(l.set j U)[a]? =some (if a=j then U else T):=by
 have hl:=(bY.1 h).1;by_cases e:a=j
 ·subst e;rw[pw hl,aH rfl]
 ·rw[xt (DQ e),h,aL e]
def KndP (l:gu):Prop:=l.length<=1000/\∀p∈l,p.f0.ay=p.f1.ay
def mr:cJ->Int->Int
 | [],t=>t
 |m::ms,t=>if uB m t<0 then -1 else mr ms (uB m t)
def kz.knd {k:Int} (h:kz l) (hp:uH k l=true):KndP l:=by
 have hm:=Gn hp;rcases h with ⟨a,rfl⟩|⟨a,b,_,rfl⟩
 ·exact ⟨by simp,λp hp=>by rw[ez.1 hp]⟩
 ·have h1:=(hm ⟨a,b⟩ (by simp)).2
  have h2:=(hm ⟨b,a⟩ (by simp)).2
  refine ⟨by simp,λp hp=> ?_⟩
  rcases cH.1 hp with rfl|hp
  ·exact h1.trans h2.symm
  ·rw[ez.1 hp];exact h2.trans h1.symm
section
def ew.drop:∀{k:Nat} {s:ag} {ms:cJ} {ts:fL},gA s=0->ew s ms ts->k<=ts.length->∃u,(s::ts)[k]? =some u/\(s::ts).drop k=u::ts.drop k/\ew u (ms.drop k) (ts.drop k)/\gA u=0/\(u::ts.drop k).getLast (by simp)=(s::ts).getLast (by simp)
 |0,s,ms,ts,hs,hc,_=>⟨s,rfl,rfl,by simpa using hc,hs,by simp⟩
 |k+1,s,m::ms,t::ts,hs,hc,hk=>by
  obtain ⟨u,h1,h2,h3,h4,h5⟩:=ew.drop (k:=k) hc.2.2.1 hc.2.2.2 (by simpa using hk)
  refine ⟨u,by simpa using h1,?_,by simpa using h3,h4,?_⟩
  ·simpa using h2
  ·rw[List.getLast_cons (by simp:t::ts≠ [])]
   simpa using h5
 |k+1,_,[],[],_,_,hk=>by simp at hk
 |k+1,_,[],_::_,_,h,_=>by cases h
 |k+1,_,_::_,[],_,h,_=>by cases h
section
variable {n:Nat} {s:ag} {ms:cJ} {ts:fL} {k:Nat}
def asw (hn:1800000<n) (fN:n<4294967296) (hs:gA s=0) (hm:∀m∈ms,MB m/\(m.bh=8->kz m.bf)) (hl:ms.length<=8) (hv:s.ax+(ms.length:Int)<=1000) (hc:ew s ms ts) (hk:k<=ts.length):
  F54 n s ms (s.ax+(k:Int))=some (⟨(s::ts).drop k,ms.drop k⟩,0):=by
 have hlen:=hc.len;have hv0:=(SG.of hs).v0;have w:bl (s.ax+(k:Int)-s.ax)=(k:Int):=by rw[dw (by omega) (by omega)];omega
 have q1:¬(s.ax+(k:Int)<s.ax):=by omega
 have q2:(k:Int)<((s::ts).length:Int):=by rw[kr];omega
 unfold F54 anD;rw[aJz n hn fN s hs ms hm hl hv ts hc,au];simp only[jg,aC,aA,q1,aX,w,q2,aU,du];rw[N6 (by simp;omega),au,N6 (by omega),au]
def aJn {u:ag} {r:fL} (hr:r.length<=1000):F55 n ⟨u::r,ms⟩=some ((u::r).getLast (by simp)):=by
 have hL:(u::r).length=r.length+1:=rfl;have w:bl (((u::r).length:Int)-1)=(((u::r).length-1:Nat):Int):=by rw[dw (by rw[hL];omega) (by rw[hL];omega),hL];omega
 unfold F55 anC;show (idx (u::r) (bl (((u::r).length:Int)-1))).bind _=_;rw[w,bM,Nk];rfl
def adz {u:ag} {r:fL}:F56 n ⟨u::r,ms⟩=some u:=rfl
end
section
variable {s:ag} {ms:cJ} {ts:fL} {a:Nat} {T:aj}
end
section
variable {N:ag} {ms:cJ} {a:Int} {w:Nat} {T:aj} {row:cC} {ps:mK}
end
end
section
section
variable {s:ag} {T:aj} {md:Int} {ts:uC}
def aas:∀{rs:bU} {p:Option cC},(∀r∈rs,jF md T.aw 0 (eA T) r=true)->(∀q,p=some q->∀r∈rs,lt (lC T q) (lC T r))->Ord T rs->yl md T p rs=true
 | [],p,_,_,_=>by simp[yl]
 |r::rs,p,h1,h2,h3=>by
  obtain ⟨h4,h5⟩:=wc.1 h3;simp only[yl,bF];refine ⟨h1 r (by simp),?_,aas (λy hy=>h1 y (by simp[hy])) (λq hq y hy=> ?_) h5⟩
  ·cases p with
   |none=>rfl
   |some q=>simp only[behind,jX];exact Lt.2 (h2 q rfl r (by simp))
  ·cases hq;exact h4 y hy
def Y4:∀{Ts:bn} {rss:uC},(∀(t:Nat) T rows,Ts[t]? =some T->rss[t]? =some rows->yl md T none rows=true)->zZ md Ts rss=true
 | [],_,_=>by simp[zZ]
 |_::_,[],_=>by simp[zZ]
 |T::Ts,rs::rss,h=>by
  simp only[zZ,bF];exact ⟨h 0 T rs rfl rfl,Y4 λt U rows h1 h2=>h (t+1) U rows (by simpa using h1) (by simpa using h2)⟩
def StM.jD (h:StM md s ts) (ht:total ts<=512):OP md s 0 ts=0:=by
 unfold OP;rw[aH rfl,aL (by omega),aH h.len,Y4 λt T rows h1 h2=>by
  obtain ⟨r1,r2⟩:=h.row t T rows h1 h2;exact aas r1 (by simp) r2,aH rfl]
end
def Nn:∀{ts:uC},(∀rs∈ts,rs.length<=8)->total ts<=8*ts.length
 | [],_=>by simp[total]
 |rs::ts,h=>by
  have h1:=h rs (by simp)
  have h2:=Nn (ts:=ts) λr hr=>h r (by simp[hr])
  simp only[total,kr];omega
def H6.tot {md:Int} {s:ag} {ts:uC} (h:H6 md s ts):total ts<=8*ts.length:=Nn λrs EH=>by
 obtain ⟨t,ht⟩:=SP EH;have htl:=(bY.1 ht).1;have hT:t<s.ai.length:=by rw[<-h.len];exact htl
 exact (h.row t s.ai[t] rs (dI hT) ht).1
end
def yi (m:aE) (a:Nat) (T T':aj):Prop:=T'.aw=T.aw/\∀(c:Nat) x,T.ae[c]? =some x->
 (wE m a c=true/\∃(d:Nat) (y:cG),tz m a c=(d:Int)/\T'.ae[d]? =some y/\y.ay=x.ay/\((c:Int)<T.aw->d=c))\/
 (wE m a c=false/\gB m.aD=true/\tz m a c= -1/\m.aD.ay=x.ay/\T.aw<=(c:Int))
def yi.same {m:aE} {a:Nat} {T U:aj} (h7:¬(m.bh=7/\(a:Int)=m.aG)) (h2:¬(m.bh=2/\(a:Int)=m.aG)) (h3:¬(m.bh=3/\(a:Int)=m.aG)) (hk:U.aw=T.aw) (hc:∀(c:Nat) x,T.ae[c]? =some x->∃y,U.ae[c]? =some y/\y.ay=x.ay):yi m a T U:=⟨hk,λc x hx=>by
 obtain ⟨y,y1,y2⟩:=hc c x hx;refine .inl ⟨?_,c,y,?_,y1,y2,λ_=>rfl⟩
 ·simp only[wE];rw[AX h7,AX λe=>h2 ⟨e.1,e.2.1⟩];rfl
 ·unfold tz;split
  ·rw[aL λe=>h7 ⟨‹_›,e⟩]
  ·split
   ·rw[aL λe=>h2 ⟨‹_›,e.1⟩]
   ·split
    ·rw[aL λe=>h3 ⟨‹_›,e.1⟩]
    ·rfl⟩
def acg (m:aE) (t:Int):tz m t (-1)= -1:=by
 unfold tz;split
 ·split<;>rfl
 ·split
  ·rw[aL λe=>absurd e.2 (by omega)]
  ·split
   ·rw[aL λe=>absurd e.2 (by omega)]
   ·rfl
def acf {m:aE} {t:Int} (h:m.bh=7->t≠m.aG):wE m t (-1)=true:=by
 simp only[wE];rw[AX λe=>h e.1 e.2,AX λe=>absurd e.2.2.1 (by omega)];rfl
def la.folK {s t':ag} {m:aE} (h:la s m t') {a:Nat} {T:aj} (hT:s.ai[a]? =some T):(m.bh=7/\(a:Int)=m.aG)\/
  ((m.bh=7->(a:Int)≠m.aG)/\∃(a':Nat) (T':aj),uB m (a:Int)=(a':Int)/\t'.ai[a']? =some T'/\yi m a T T'):=by
 have keep:∀(U:aj) (j:Nat) (ts:bn),m.bh≠7->m.aG=(j:Int)->(a=j->yi m a T U)->ts=s.ai.set j U->(m.bh=7->(a:Int)≠m.aG)/\∃(a':Nat) (T':aj),uB m (a:Int)=(a':Int)/\ts[a']? =some T'/\yi m a T T':=by
  intro U j ts n7 hj hU e;subst e;refine ⟨λh=>absurd h n7,a,_,by simp[uB,n7],apa hT,?_⟩
  split
  ·exact hU ‹_›
  ·rename_i ne;have et:¬(a:Int)=m.aG:=by omega
   exact yi.same (λh=>et h.2) (λh=>et h.2) (λh=>et h.2) rfl λc x hx=>⟨x,hx,rfl⟩
 cases h with
 |amo j T0 h hj vX hv hk=>
  refine .inr (keep _ j _ (by omega) hj (λe=> ?_) rfl)
  subst e;rw[hT] at vX;cases vX;exact yi.same (by omega) (by omega) (by omega) rfl λc x hx=>⟨x,by
   show (T.ae++_)[c]? =_;rw[nR (bY.1 hx).1];exact hx,rfl⟩
 |aks j c0 T0 x0 h hj vX hc hx0=>
  refine .inr (keep _ j _ (by omega) hj (λe=> ?_) rfl)
  subst e;rw[hT] at vX;cases vX;exact yi.same (by omega) (by omega) (by omega) rfl λc x hx=>⟨_,apa hx,by
   split
   ·rename_i e;subst e;rw[hx0] at hx;cases hx;rfl
   ·rfl⟩
 |akp j T0 h hj vX=>
  refine .inr (keep _ j _ (by omega) hj (λe=> ?_) rfl)
  subst e;rw[hT] at vX;cases vX;exact yi.same (by omega) (by omega) (by omega) rfl λc x hx=>⟨x,hx,rfl⟩
 |El j c0 T0 x0 h hj vX hc hx hk hp hu=>
  exact .inr ⟨λe=>by omega,a,T,by simp[uB,h],hT,yi.same (by omega) (by omega) (by omega) rfl λc x hx=>⟨x,hx,rfl⟩⟩
 |amn h=>
  exact .inr ⟨λe=>by omega,a,T,by simp[uB,h],by
   show (s.ai++ [m.ar])[a]? =some T;rw[nR (bY.1 hT).1,hT],yi.same (by omega) (by omega) (by omega) rfl λc x hx=>⟨x,hx,rfl⟩⟩
 |XK j T0 h hj vX hr=>
  by_cases e:(a:Int)=m.aG
  ·exact .inl ⟨h,e⟩
  ·have ne:a≠j:=λh=>e (by rw[h,hj])
   have vW:=(bY.1 vX).1;have fin:∀a':Nat,(s.ai.take j++s.ai.drop (j+1))[a']? =some T->uB m (a:Int)=(a':Int)->((m.bh=7->(a:Int)≠m.aG)/\∃(a':Nat) (T':aj),uB m (a:Int)=(a':Int)/\((s.ai.take j++s.ai.drop (j+1)).map (ma (j:Int)))[a']? =some T'/\yi m a T T'):=λa' ha' hf=>
    ⟨λ_=>e,a',ma (j:Int) T,hf,by rw[lz,ha'];rfl,yi.same (λq=>e q.2) (λq=>e q.2) (λq=>e q.2) rfl λc x hx=>⟨x,hx,rfl⟩⟩
   right;by_cases hl:j<a
   ·refine fin (a-1) ?_ ?_
    ·rw[nf (by rw[dR];omega),dR,fB (by omega),fa,show j+1+(a-1-j)=a by omega,hT]
    ·have:m.aG<(a:Int):=by omega
     simp only[uB,h,e,this,aB,aA];omega
   ·refine fin a ?_ ?_
    ·rw[nR (by rw[dR];omega),eN,aH (by omega),hT]
    ·have:¬m.aG<(a:Int):=by omega
     simp[uB,h,e,this]
 |XL j c0 T0 x0 h hj vX hc hx0 hk hv xj hu=>
  refine .inr (keep _ j _ (by omega) hj (λe=> ?_) rfl)
  subst e;rw[hT] at vX;cases vX;have hl:c0<T.ae.length:=(bY.1 hx0).1;have et:(a:Int)=m.aG:=hj.symm;refine ⟨rfl,λc x hx=> ?_⟩
  have eI:=(bY.1 hx).1;have ec:tz m a c=if (c:Int)=m.aN then -1 else if m.aN<(c:Int) then (c:Int)-1 else (c:Int):=by simp[tz,h,et]
  have es:wE m a c= !decide ((c:Int)=m.aN):=by simp[wE,h,et]
  rw[ec,es,hc];by_cases q:c=c0
  ·subst q;rw[hx0] at hx;cases hx;exact .inr ⟨by simp,hv,by simp,xj,hk⟩
  ·have q':¬(c:Int)=(c0:Int):=by omega
   refine .inl ⟨by simp[q'],if c0<c then c-1 else c,x,?_,?_,rfl,λhq=> ?_⟩
   ·rw[aL q'];split<;>split<;>omega
   ·show (T.ae.take c0++T.ae.drop (c0+1))[_]? =_;split
    ·rw[nf (by rw[dR];omega),dR,fB (by omega),fa,show c0+1+(c-1-c0)=c by omega,hx]
    ·rw[nR (by rw[dR];omega),eN,aH (by omega),hx]
   ·rw[aL (by omega)]
 |move j c0 d T0 h hj vX hc hd k1 k2 hk xk=>
  refine .inr (keep _ j _ (by omega) hj (λe=> ?_) rfl)
  subst e;rw[hT] at vX;cases vX;have et:(a:Int)=m.aG:=hj.symm;refine ⟨rfl,λc x hx=> ?_⟩
  have eI:=(bY.1 hx).1;have ec:tz m a c=HP c c0 d:=by simp[tz,h,et,hc,hd]
  have es:wE m a c=true:=by simp[wE,h]
  rw[ec,es];have hm:0<=HP (c:Int) c0 d/\HP (c:Int) c0 d<(T.ae.length:Int)/\((c:Int)<T.aw->HP (c:Int) c0 d=c):=by
   unfold HP;split
   ·exact ⟨by omega,by omega,by omega⟩
   ·split
    ·exact ⟨by omega,by omega,by omega⟩
    ·split<;>exact ⟨by omega,by omega,by omega⟩
  have hq:((HP (c:Int) c0 d).toNat:Int)=HP (c:Int) c0 d:=SN hm.1;refine .inl ⟨rfl,(HP (c:Int) c0 d).toNat,x,hq.symm,?_,rfl,λjC=>by have:=hm.2.2 jC;omega⟩
  show (uJ T.ae c0 d)[_]? =_;rw[aib k1 k2 (by omega),hq]
  have:fw (d:Int) (c0:Int) (HP (c:Int) c0 d)=(c:Int):=by
   unfold fw HP;repeat' split
   all_goals omega
  rw[this];exact hx
def Ht (l:gu):Prop:=l.length<=1000/\∀p∈l,p.f0.ay=p.f1.ay/\gB p.f0=true
def XW (v r:aP):Prop:=r.ay=v.ay/\(gB v=true->gB r=true)
def aso (n0:Nat) (l:gu) (hl:Ht l) (v z:aP):∀(x:gu) (i k:Nat),l.drop i=x->x.length<k->Ok (Fk (RD n0) k 1 l (l.length:Int) (i:Int) v z) (XW v)
 | [],i,k+1,hd,hk=>by
  have hq:¬((i:Int)<(l.length:Int)):=by
   have:l.length<=i:=by simpa using hd
   omega
  simp only[Fk,RE,hq,aX,aC,aA,RD];exact Ok.pure ⟨rfl,id⟩
 |p::x,i,k+1,hd,hk=>by
  let ⟨g1,g2,g3,hq⟩:=gdr hd
  have xi:=hl.1;simp at hk;simp only[Fk,RE,hq,aU,aB,bM,g1,au];have e10:((1:Int)==0)=false:=rfl;have e11:((1:Int)==1)=true:=rfl;simp only[e10,e11,aC,aA,aB];unfold RF;have w0:bl (1-1)=0:=dw (by omega) (by omega)
  rw[w0,cf g3 (by omega)]
  refine Ok.ite (λhe=> ?_) λ_=>aso n0 l hl v z x (i+1) k g2 (by omega)
  have e00:((0:Int)==0)=true:=rfl;simp only[e00,aB];obtain ⟨p1,p2⟩:=hl.2 p (cT g1);simp only[bF,qI] at he;exact Ok.pure ⟨p1.trans he.1,λ_=>p2⟩
 |_,_,0,_,hk=>by omega
def aJy (n:Nat) (l:gu) (hl:Ht l) (v:aP) (hn:2000<n):Ok (awk n l v 1) (XW v):=
 aso n l hl v _ l 0 n rfl (by have:=hl.1;omega)
def asq (n0:Nat) (p:ep) (hp:∀l∈p.gb,Ht l) (hl:p.gb.length<=1000) (z:aP):∀(i k:Nat) (v:aP),i<=p.gb.length->i+2100<k->Ok (FD (Su n0) k ((i:Int)-1) p v z) λr=>XW v r/\(i=0->r=v)
 |0,k+1,v,_,_=>by
  have hq:(((0:Nat):Int)-1)<0:=by omega
  simp only[FD,Sv,hq,aU,du,aC,aA,Su];exact Ok.pure ⟨⟨rfl,id⟩,λ_=>rfl⟩
 |i+1,k+1,v,hi,hk=>by
  have e:(((i+1:Nat):Int)-1)=(i:Int):=by omega
  rw[e];have hq:¬((i:Int)<0):=by omega
  have hg:p.gb[i]? =some p.gb[i]:=dI (by omega)
  simp only[FD,Sv,hq,aX,hZ,aB,bM,hg,au];refine Ok.bind (aJy k _ (hp _ (rS _)) v (by omega)) λr hr=> ?_
  rw[dw (by omega) (by omega)]
  exact (asq n0 p hp hl z i k r (by omega) (by omega)).mono λq hq=>⟨⟨hq.1.1.trans hr.1,λh=>hq.1.2 (hr.2 h)⟩,λh=>by omega⟩
 |_,0,_,_,hk=>by omega
def asB (n:Nat) (p:ep) (hp:∀l∈p.gb,Ht l) (hl:p.gb.length<=1000) (v:aP) (hn:4000<n):Ok (aec n p v) λr=>XW v r/\(p.gb= []->r=v):=by
 unfold aec afs;rw[dw (by omega) (by omega)]
 exact (asq n p hp hl _ p.gb.length n v (dg _) (by omega)).mono λr hr=>⟨hr.1,λh=>hr.2 (by rw[h];rfl)⟩
section
def zW (T:aj) (c:Int) (sv:Bool) (fx:aP) (k0 c0:Int):Prop:=(c0<0/\c= -1/\sv=true)\/(0<=c0/\sv=true/\∃(d:Nat) (y:cG),c=(d:Int)/\T.ae[d]? =some y/\y.ay=k0/\(c0<T.aw->c=c0))\/(0<=c0/\sv=false/\c= -1/\gB fx=true/\fx.ay=k0/\T.aw<=c0)
def zW.rng {T:aj} {c0:Int} {fx:aP} (h:zW T c sv fx k0 c0): -1<=c/\c<(T.ae.length:Int):=by
 rcases h with ⟨_,h,_⟩|⟨_,_,d,y,h1,h2,_⟩|⟨_,_,h,_⟩
 ·omega
 ·have:=(bY.1 h2).1;omega
 ·omega
structure acW (sN:ag) (w zr k0 c0:Int) (p:ep):Prop where
 cy:p.gF=w
 recs:∀l∈p.gb,Ht l
 few:p.gb.length<=1000
 off:w<0->p.dN=false
 on:0<=w->∃(a:Nat) (T:aj),w=(a:Int)/\sN.ai[a]? =some T/\T.aw=zr/\zW T p.fD p.dN p.fC k0 c0/\(0<=c0->c0<zr->p.gb= [])
def kz.kndR {k:Int} (h:kz l) (hp:uH k l=true):Ht l:=by
 obtain ⟨h1,h2⟩:=h.knd hp;exact ⟨h1,λp hm=>⟨h2 p hm,(Gn hp p hm).1⟩⟩
def amH (n0:Nat) (all:cJ) (hl:all.length<=8) (zr k0 c0:Int) (gV:∀m∈all,MB m/\(m.bh=8->kz m.bf)) (b6:ep):∀(x:cJ) (i k:Nat) (s:ag) (ts:fL) (a:Nat) (T:aj) (c:Int) (p:ep),all.drop i=x->x.length+5000<k->k<4294967296->gA s=0->ew s x ts->s.ai[a]? =some T->T.aw=zr->zW T c p.dN p.fC k0 c0->
  p.gF=(a:Int)->p.fD=c->(∀l∈p.gb,Ht l)->p.gb.length<=100+i->i<=8->(0<=c0->c0<zr->p.gb= [])->
  Ok (Hj (QQ n0) k all (all.length:Int) (i:Int) b6 p p.gb) (acW ((s::ts).getLast (by simp)) (mr x (a:Int)) zr k0 c0)
 | [],i,k+1,s,ts,a,T,c,p,hd,hk,jC,hs,hc,hT,hK,hA,e1,e2,hr,Bw,hi,h0=>by
  obtain rfl:ts= []:=by cases ts with|nil=>rfl|cons=>cases hc
  have hq:¬((i:Int)<(all.length:Int)):=by
   have:all.length<=i:=by simpa using hd
   omega
  simp only[Hj,Yg,hq,aX,aC,aA,QQ];exact Ok.pure ⟨e1,hr,by show p.gb.length<=_;omega,λh=>by simp only[mr] at h;omega,λ_=>⟨a,T,rfl,hT,hK,by show zW T p.fD _ _ _ _;rw[e2];exact hA,h0⟩⟩
 |m::x,i,k+1,s,ts,a,T,c,p,hd,hk,jC,hs,hc,hT,hK,hA,e1,e2,hr,Bw,hi,h0=>by
  obtain ⟨g1,g2,g3⟩:=bE hd;have hm:=gV m (cT g1);obtain ⟨t',ts',rfl⟩:∃t' ts',ts=t'::ts':=by cases ts with|nil=>cases hc|cons t' ts'=>exact ⟨t',ts',rfl⟩
  obtain ⟨hb,mT,hs',sZ⟩:=hc;have hG:=SG.of hs;have hTG:=hG.cy T (cT hT);have eI:T.ae.length<=8:=hTG.cols;have HW:a<8:=by have:=(bY.1 hT).1;have:=hG.len;omega
  obtain ⟨c1,c2⟩:=hA.rng;have hq:(i:Int)<(all.length:Int):=by omega
  have CI:((s::t'::ts').getLast (by simp))=((t'::ts').getLast (by simp)):=by simp
  rw[CI];simp at hk;simp only[Hj,Yg,hq,aU,aB,bM,g1,au];have rest:∀(rs:yg) (b6':ep),(∀l∈rs,Ht l)->rs.length<=101+i->(0<=c0->c0<zr->rs= [])->Ok (HA (Hj (QQ n0) k) k all (all.length:Int) (i:Int) b6' ⟨p.gF,p.fD,p.dN,p.fC,rs⟩ m rs) (acW ((t'::ts').getLast (by simp)) (mr (m::x) (a:Int)) zr k0 c0):=λrs b6' EH hrl' HT=>by
   unfold HA;simp only[e1,e2];rw[aDi k m hm.1.CU (a:Int) c (by omega) (by omega) c1 (by omega),au]
   rcases mT.folK hT with ⟨h7,ha⟩|⟨hn7,a',T',f1,f2,f3,f4⟩
   ·have:uB m (a:Int)= -1:=by simp[uB,h7,ha]
    simp only[this,show ((-1:Int)<0) from by omega,aU,aB]
    refine Ok.pure ⟨by simp[mr,this],λl hl=>by simp at hl,by simp,λ_=>rfl,λh=> ?_⟩
    simp[mr,this] at h
   ·have cY:¬(uB m (a:Int)<0):=by omega
    have hw:mr (m::x) (a:Int)=mr x (a':Int):=by simp only[mr];rw[aL cY,f1]
    simp only[cY,aX,aC,aA];rw[hw,f1];have stay:wE m a c=true->zW T' (tz m a c) p.dN p.fC k0 c0:=λuk=>by
     rcases hA with ⟨a1,a2,a3⟩|⟨a1,a2,d,y,a3,a4,a5,a6⟩|⟨a1,a2,a3,a4,a5,a6⟩
     ·exact .inl ⟨a1,by rw[a2,acg],a3⟩
     ·rcases f4 d y a4 with ⟨_,d',y',b1,b2,b3,b4⟩|⟨b1,_⟩
      ·exact .inr (.inl ⟨a1,a2,d',y',by rw[a3,b1],b2,b3.trans a5,λh=>by
        have h6:=a6 (by omega)
        have:=b4 (by omega)
        rw[a3,b1];omega⟩)
      ·rw[a3,b1] at uk;cases uk
     ·exact .inr (.inr ⟨a1,a2,by rw[a3,acg],a4,a5,by omega⟩)
    refine Ok.ite (λuk=> ?_) λuk=> ?_
    ·have uk:wE m a c=false:=by simpa using uk
     obtain ⟨a1,d,y,a3,a4,a5,a6⟩:0<=c0/\∃(d:Nat) (y:cG),c=(d:Int)/\T.ae[d]? =some y/\y.ay=k0/\(c0<T.aw->c=c0):=by
      rcases hA with ⟨_,a2,_⟩|⟨a1,_,h⟩|⟨_,_,a2,_⟩
      ·rw[a2,acf hn7] at uk;cases uk
      ·exact ⟨a1,h⟩
      ·rw[a2,acf hn7] at uk;cases uk
     obtain ⟨hv,hcm,xj,Jh⟩:gB m.aD=true/\tz m a c= -1/\m.aD.ay=y.ay/\T.aw<=c:=by
      rcases f4 d y a4 with ⟨b1,_⟩|⟨_,b⟩
      ·rw[a3,b1] at uk;cases uk
      ·rw[a3];exact b
     refine Ok.bind (asB k ⟨(a:Int),c,p.dN,p.fC,rs⟩ EH (by show rs.length<=_;omega) m.aD (by omega)) λy' hy=> ?_
     unfold QR;rw[cf g3 (by omega)]
     exact amH n0 all hl zr k0 c0 gV _ x (i+1) k t' ts' a' T' (tz m a c) ⟨(a':Int),tz m a c,false,y',rs⟩ g2 (by omega) (by omega) hs' sZ f2 (by omega) (.inr (.inr ⟨a1,rfl,hcm,hy.1.2 hv,hy.1.1.trans (xj.trans a5),by
      by_cases h:c0<T.aw
      ·have:=a6 h;omega
      ·omega⟩)) rfl rfl EH (by show rs.length<=_;omega) (by omega) HT
    ·have uk:wE m a c=true:=by simpa using uk
     unfold QR;rw[cf g3 (by omega)]
     exact amH n0 all hl zr k0 c0 gV _ x (i+1) k t' ts' a' T' (tz m a c) ⟨(a':Int),tz m a c,p.dN,p.fC,rs⟩ g2 (by omega) (by omega) hs' sZ f2 (by omega) (stay uk) rfl rfl EH (by show rs.length<=_;omega) (by omega) HT
  refine Ok.ite (λh8=>Ok.ite (λht=>Ok.ite (λhc=> ?_) λ_=>rest _ _ hr (by omega) h0) λ_=>rest _ _ hr (by omega) h0) λ_=>rest _ _ hr (by omega) h0
  have h8:m.bh=8:=by simpa using h8
  have ht:m.aG=p.gF:=by simpa using ht
  have hc:m.aN=p.fD:=by simpa using hc
  rw[dL _ _ (by simp;omega),au]
  obtain ⟨hk,Jh⟩:Ht m.bf/\T.aw<=c:=by
   cases mT with
   |El j c1 T0 x0 h hj vX sY hx hk hp hu=>
    have:j=a:=by omega
    rw[this,hT] at vX;cases vX;exact ⟨(hm.2 h8).kndR hp,by omega⟩
   |_=>omega
  refine rest _ _ (λl hl=>(eR.1 hl).elim (hr l) λh=>by rw[ez.1 h];exact hk) (by simp;omega) λz1 z2=> ?_
  rcases hA with ⟨a1,_⟩|⟨_,_,d,y,_,_,_,a6⟩|⟨_,_,a3,_⟩
  ·omega
  ·have:=a6 (by omega);omega
  ·have:=hTG.zq;omega
 |_,_,0,_,_,_,_,_,_,_,hk,_,_,_,_,_,_,_,_,_,_,_,_=>by omega
def amK (n:Nat) (hn:6000<n) (fN:n<4294967296) (s:ag) (ms:cJ) (ts:fL) (hl:ms.length<=8) (gV:∀m∈ms,MB m/\(m.bh=8->kz m.bf)) (hs:gA s=0) (hc:ew s ms ts) {a:Nat} {T:aj} (hT:s.ai[a]? =some T) (hA:∀fx,zW T c true fx k0 c):
  Ok (F63 n ms (a:Int) c) (acW ((s::ts).getLast (by simp)) (mr ms (a:Int)) T.aw k0 c):=
 amH n ms hl T.aw k0 c gV _ ms 0 n s ts a T c ⟨(a:Int),c,true,_,[]⟩ rfl (by omega) fN hs hc hT rfl (hA _) rfl rfl (λl hl=>by simp at hl) (by simp) (by omega) (λ_ _=>rfl)
def zW.CU {T:aj} {c:Nat} {x:cG} (h:T.ae[c]? =some x) (fx:aP):zW T (c:Int) true fx x.ay (c:Int):=.inr (.inl ⟨by omega,rfl,c,x,rfl,h,rfl,λ_=>rfl⟩)
def zW.none (T:aj) (fx:aP):zW T (-1) true fx 0 (-1):=.inl ⟨by omega,rfl,rfl⟩
def Ha (N:ag) (w zr:Int) (ks:aK) (ps:mK):Prop:=∀(i:Nat) p,ps[i]? =some p->∃k0,ks[i]? =some k0/\acW N w zr k0 (i:Int) p
section
variable {s:ag} {ms:cJ} {ts:fL} {a:Nat} {T:aj}
def ass (n0:Nat) (hl:ms.length<=8) (gV:∀m∈ms,MB m/\(m.bh=8->kz m.bf)) (hs:gA s=0) (hc:ew s ms ts) (hT:s.ai[a]? =some T) (r:fL):∀(j i k:Nat) (acc:mK),i+j=T.ae.length->j+7000<k->k<4294967296->acc.length=i->Ha ((s::ts).getLast (by simp)) (mr ms (a:Int)) T.aw (eA T) acc->
  Ok (FE (Sx n0) k (a:Int) (T.ae.length:Int) (i:Int) ⟨r,ms⟩ acc) λps=>ps.length=T.ae.length/\Ha ((s::ts).getLast (by simp)) (mr ms (a:Int)) T.aw (eA T) ps
 |0,i,k+1,acc,hi,hk,jC,HW,hw=>by
  have hq:¬((i:Int)<(T.ae.length:Int)):=by omega
  simp only[FE,Sy,hq,aX,aC,aA,Sx];exact Ok.pure ⟨by omega,hw⟩
 |j+1,i,k+1,acc,hi,hk,jC,HW,hw=>by
  have eI:=((SG.of hs).cy T (cT hT)).cols;have hq:(i:Int)<(T.ae.length:Int):=by omega
  have uP:i<T.ae.length:=by omega
  have hx:T.ae[i]? =some T.ae[i]:=dI uP;simp only[FE,Sy,hq,aU,aB];refine Ok.bind (amK k (by omega) (by omega) s ms ts hl gV hs hc hT (zW.CU hx)) λp hp=> ?_
  rw[dL _ _ (by simp;omega),au,cf (L:=T.ae.length) (by omega) (by omega)]
  refine ass n0 hl gV hs hc hT r j (i+1) k (acc++ [p]) (by omega) (by omega) (by omega) (by simp;omega) λq y o6=> ?_
  by_cases he:q<acc.length
  ·rw[nR he] at o6;exact hw q y o6
  ·have hqi:q=i:=by
    have:=(bY.1 o6).1;simp at this;omega
   subst hqi;rw[nf (by omega),HW,nT] at o6
   simp at o6;subst o6;exact ⟨_,Gy hx,hp⟩
 |_,_,0,_,_,hk,_,_,_=>by omega
def aNk (n:Nat) (hn:8000<n) (fN:n<4294967296) (hl:ms.length<=8) (gV:∀m∈ms,MB m/\(m.bh=8->kz m.bf)) (hs:gA s=0) (hc:ew s ms ts) (hT:s.ai[a]? =some T) (r:fL):
  Ok (F57 n ⟨s::r,ms⟩ (a:Int)) λq=>q.1=mr ms (a:Int)/\q.2.length=T.ae.length/\Ha ((s::ts).getLast (by simp)) (mr ms (a:Int)) T.aw (eA T) q.2:=by
 have eI:=((SG.of hs).cy T (cT hT)).cols;unfold F57 anB;refine Ok.bind (P:=λps=>ps.length=T.ae.length/\Ha ((s::ts).getLast (by simp)) (mr ms (a:Int)) T.aw (eA T) ps) ?_ λps ⟨h1,h2⟩=> ?_
 ·unfold awn afu;rw[adz,au,bM,hT,au];exact ass n hl gV hs hc hT (s::r) T.ae.length 0 n [] (by omega) (by omega) fN rfl λi p h=>by simp at h
 ·refine Ok.bind (amK n (by omega) fN s ms ts hl gV hs hc hT (zW.none T)) λp hp=> ?_
  exact Ok.pure ⟨hp.cy,h1,h2⟩
end
end
section
def Od (key:Int) (ks:aK) (row low:cC):Prop:=∀(q:Nat) v,low[q]? =some v->∃k,ks[q]? =some k/\v.ay=k/\gB v=true/\((q:Int)<key->row[q]? =some v)
def aaw:∀{ks:aK} {vs:cC} {q:Nat} {k:Int},qc ks vs=true->ks[q]? =some k->∃v,vs[q]? =some v/\v.ay=k/\gB v=true
 |k::ks,v::vs,0,k',h,hk=>by
  simp only[qc,bF,qI] at h;simp at hk;subst hk;exact ⟨v,rfl,h.1.2,h.1.1⟩
 |k::ks,v::vs,q+1,k',h,hk=>by
  simp only[qc,bF] at h;exact aaw (q:=q) h.2 (by simpa using hk)
 | [],_,_,_,_,hk=>by simp at hk
 |_::_,[],_,_,h,_=>by simp[qc] at h
def ahB:∀{ks:aK} {vs:cC},vs.length=ks.length->(∀(q:Nat) v,vs[q]? =some v->∃k,ks[q]? =some k/\v.ay=k/\gB v=true)->qc ks vs=true
 | [],[],_,_=>rfl
 |k::ks,v::vs,hl,h=>by
  obtain ⟨k',h1,h2,h3⟩:=h 0 v rfl;simp at h1;subst h1;simp only[qc,h3,h2,hY,ny,gR];exact ahB (by simpa using hl) λq w hw=>by simpa using h (q+1) w (by simpa using hw)
 | [],_::_,hl,_=>by simp at hl
 |_::_,[],hl,_=>by simp at hl
def Od.take {key:Int} {ks:aK} {row low:cC} (h:Od key ks row low) (h1:key.toNat<=low.length):low.take key.toNat=row.take key.toNat:=xv λq=>by
 rw[eN,eN];split
 ·have hq:low[q]? =some low[q]:=dI (by omega)
  obtain ⟨_,_,_,_,e⟩:=h q _ hq;rw[hq,e (by omega)]
 ·rfl
section
variable {N:ag} {w:Nat} {T':aj} {key:Int} {ks:aK} {row:cC} {ps:mK}
def asr (n0:Nat) (hT:N.ai[w]? =some T') (hr:qc (eA T') row=true) (hp:Ha N (w:Int) key ks ps) (Je:ps.length<=1000):∀(x:mK) (i k:Nat) (acc:cC),ps.drop i=x->i<=ps.length->x.length+5000<k->acc.length=i->Od key ks row acc->
  Ok (Cd (Kr n0) k row ps (ps.length:Int) (i:Int) acc) λlow=>low.length=ps.length/\Od key ks row low
 | [],i,k+1,acc,hd,sW,hk,HW,NV=>by
  have hi:ps.length<=i:=by simpa using hd
  have hq:¬((i:Int)<(ps.length:Int)):=by omega
  simp only[Cd,Sw,hq,aX,aC,aA,Kr];exact Ok.pure ⟨by omega,NV⟩
 |p::x,i,k+1,acc,hd,sW,hk,HW,NV=>by
  let ⟨g1,g2,g3,hq⟩:=gdr hd
  obtain ⟨k0,hk0,hpi⟩:=hp i p g1;obtain ⟨w',T2,e1,e2,e3,hA,h0⟩:=hpi.on (by omega)
  have hww:w'=w:=by omega
  rw[hww,hT] at e2;have e2:=kV e2;subst e2;simp at hk;have step:∀v,v.ay=k0->gB v=true->((i:Int)<key->row[i]? =some v)->Ok (Ks (Cd (Kr n0) k) k row ps (ps.length:Int) (i:Int) acc v) λlow=>low.length=ps.length/\Od key ks row low:=λv h1 h2 h3=>by
   unfold Ks;rw[dL _ _ (by simp;omega),au,cf g3 (by omega)]
   refine asr n0 hT hr hp Je x (i+1) k (acc++ [v]) g2 (by omega) (by omega) (by simp;omega) λq y o6=> ?_
   by_cases he:q<acc.length
   ·rw[nR he] at o6;exact NV q y o6
   ·have hqi:q=i:=by
     have:=(bY.1 o6).1;simp at this;omega
    subst hqi;rw[nf (by omega),HW,nT] at o6
    simp at o6;subst o6;exact ⟨k0,hk0,h1,h2,h3⟩
  simp only[Cd,Sw,hq,aU,aB,bM,g1,au];rcases hA with ⟨a1,_⟩|⟨a1,a2,d,y,a3,a4,a5,a6⟩|⟨a1,a2,a3,a4,a5,a6⟩
  ·omega
  ·obtain ⟨v0,v1,v2,v3⟩:=aaw hr (Gy a4);rw[a2,aH rfl,a3,bM,v1,au];refine Ok.bind (asB k p hpi.recs hpi.few v0 (by omega)) λv hv=> ?_
   refine step v (hv.1.1.trans (v2.trans a5)) (hv.1.2 v3) λJh=> ?_
   have:=a6 (by omega)
   rw[hv.2 (h0 a1 Jh),<-v1];congr 1;omega
  ·rw[a2,aL OF];exact step p.fC a5 a4 λh=>by omega
 |_,_,0,_,_,_,hk,_,_=>by omega
def aJC (n:Nat) (hn:7000<n) (hT:N.ai[w]? =some T') (hr:qc (eA T') row=true) (HT:row≠ []) (hp:Ha N (w:Int) key ks ps) (Je:ps.length<=1000):
  Ok (anf n row ps) λlow=>low.length=ps.length/\Od key ks row low:=by
 unfold anf aft;have h0:((row.length:Int)==0)=false:=by cases row with
  |nil=>exact absurd rfl HT
  |cons=>exact SR (by simp;omega)
 rw[h0,aL OF];exact asr n hT hr hp Je ps 0 n [] rfl (by omega) (by omega) rfl λi v h=>by simp at h
end
def JX (T:aj) (rows tb:bU):Prop:=∀(i:Nat) low,tb[i]? =some low->∃row,rows[i]? =some row/\low.length=T.ae.length/\Od T.aw (eA T) row low
def zL (N:ag) (w:Int) (st:uC) (T:aj) (tb:bU):Prop:=(w<0->tb= [])/\(0<=w->∃(a:Nat) (T':aj) (rows:bU),w=(a:Int)/\N.ai[a]? =some T'/\T'.aw=T.aw/\st[a]? =some rows/\tb.length=rows.length/\JX T rows tb)
section
variable {u N:ag} {ms:cJ} {ts r:fL} {st:uC} {a w:Nat} {T T':aj} {ps:mK} {rows:bU}
def aiS {Q:aW×Int->Prop} (k:Int->Int->aW->aW->jV->aW->ey->Option (aW×Int)) (t49 t50:Int) (b9:aW) (bR:jV)
  (hT:N.ai[w]? =some T') (hr:∀r∈rows,qc (eA T') r=true/\r≠ []) (hp:Ha N (w:Int) T.aw (eA T) ps) (Je:ps.length=T.ae.length) (hpl2:ps.length<=1000) (Bw:rows.length<=1000):
  ∀(x:bU) (i m:Nat) (gG qu:aW) (b:uC) (acc:bU),rows.drop i=x->i<=rows.length->x.length+8000<m->b[a]? =some acc->acc.length=i->JX T rows acc->
  (∀b' BW,b'.length=b.length->(∀q,q≠a->b'[q]? =b[q]?)->b'[a]? =some BW->BW.length=rows.length->JX T rows BW->Ok (k t49 t50 b9 ⟨[]⟩ bR ⟨b'⟩ b') Q)->
  Ok (Mu k m (a:Int) ps t49 t50 rows (rows.length:Int) (i:Int) b9 gG bR qu b) Q
 | [],i,m+1,gG,qu,b,acc,hd,sW,hm,hb,HW,NV,hk=>by
  have hi:rows.length<=i:=by simpa using hd
  have hq:¬((i:Int)<(rows.length:Int)):=by omega
  simp only[Mu,YE,hq,aX,aC,aA];exact hk b acc rfl (λ_ _=>rfl) hb (by omega) NV
 |row::x,i,m+1,gG,qu,b,acc,hd,sW,hm,hb,HW,NV,hk=>by
  let ⟨g1,g2,g3,hq⟩:=gdr hd
  have ur:=(bY.1 hb).1;obtain ⟨r1,r2⟩:=hr row (cT g1);simp at hm;simp only[Mu,YE,hq,aU,aB,bM,g1,au,gC ur,cA,hb];refine Ok.bind (aJC m (by omega) hT r1 r2 hp hpl2) λlow ⟨l1,l2⟩=> ?_
  rw[dL _ _ (by simp;omega),au,dx _ ur,au,cf g3 (by omega)]
  refine aiS k t49 t50 b9 bR hT hr hp Je hpl2 Bw x (i+1) m _ _ (b.set a (acc++ [low])) (acc++ [low]) g2 (by omega) (by omega) (by rw[pw ur]) (by simp;omega) (λq y o6=> ?_) λb' BW h1 h2 h3 h4=>hk b' BW (by rw[h1,nc]) (λq hq=>by rw[h2 q hq,xt (DQ hq)]) h3 h4
  by_cases he:q<acc.length
  ·rw[nR he] at o6;exact NV q y o6
  ·have hqi:q=i:=by
    have:=(bY.1 o6).1;simp at this;omega
   rw[nf (by omega),HW,hqi,nT] at o6
   simp at o6;subst o6;exact ⟨row,by rw[hqi];exact g1,by omega,l2⟩
 |_,_,0,_,_,_,_,_,_,hm,_,_,_,_=>by omega
def aiR (n0:Nat) (hl:ms.length<=8) (gV:∀m∈ms,MB m/\(m.bh=8->kz m.bf)) (hs:gA u=0) (hc:ew u ms ts) (Bv:gA ((u::ts).getLast (by simp))=0) (mT:H6 1 ((u::ts).getLast (by simp)) st):
  ∀(j i m:Nat) (gG qu:aW) (b:uC),i+j=u.ai.length->j+10000<m->m<4294967296->b.length=u.ai.length->(∀(q:Nat) (T:aj) tb,q<i->u.ai[q]? =some T->b[q]? =some tb->zL ((u::ts).getLast (by simp)) (mr ms (q:Int)) st T tb)->(∀q,i<=q->q<b.length->b[q]? =some [])->
  Ok (Dd (MP n0) m (u.ai.length:Int) (i:Int) ⟨st⟩ gG ⟨u::r,ms⟩ qu b) λz=>z.2=0/\z.1.ai.length=u.ai.length/\∀(q:Nat) (T:aj) tb,u.ai[q]? =some T->z.1.ai[q]? =some tb->zL ((u::ts).getLast (by simp)) (mr ms (q:Int)) st T tb
 |0,i,m+1,gG,qu,b,hi,hm,sU,hb,h1,h2=>by
  have hq:¬((i:Int)<(u.ai.length:Int)):=by omega
  simp only[Dd,YD,hq,aX,aC,aA,MP];exact Ok.pure ⟨rfl,hb,λq T tb hT o6=>h1 q T tb (by have:=(bY.1 hT).1;omega) hT o6⟩
 |j+1,i,m+1,gG,qu,b,hi,hm,sU,hb,h1,h2=>by
  have hq:(i:Int)<(u.ai.length:Int):=by omega
  have hul:=(SG.of hs).len;have uP:i<u.ai.length:=by omega
  have hu:u.ai[i]? =some u.ai[i]:=dI uP;have eI:=((SG.of hs).cy _ (rS uP)).cols;have hbi:=h2 i (dg _) (by omega)
  have nx:∀(b':uC) BW,b'.length=b.length->(∀q,q≠i->b'[q]? =b[q]?)->b'[i]? =some BW->zL ((u::ts).getLast (by simp)) (mr ms (i:Int)) st u.ai[i] BW->Ok (MQ (Dd (MP n0) m) m (u.ai.length:Int) (i:Int) ⟨st⟩ ⟨[]⟩ ⟨u::r,ms⟩ ⟨b'⟩ b') λz=>z.2=0/\z.1.ai.length=u.ai.length/\∀(q:Nat) (T:aj) tb,u.ai[q]? =some T->z.1.ai[q]? =some tb->zL ((u::ts).getLast (by simp)) (mr ms (q:Int)) st T tb:=λb' BW e1 e2 e3 e4=>by
   unfold MQ;rw[cf uP (by omega)]
   refine aiR n0 hl gV hs hc Bv mT j (i+1) m _ _ b' (by omega) (by omega) (by omega) (by omega) (λq T tb hq hT hqb=> ?_) λq hq hqb=> ?_
   ·by_cases he:q=i
    ·subst he;rw[e3] at hqb;rw[hu] at hT;cases hqb;cases hT;exact e4
    ·rw[e2 q he] at hqb;exact h1 q T tb (by omega) hT hqb
   ·rw[e2 q (by omega)]
    exact h2 q (by omega) (by omega)
  simp only[Dd,YD,hq,aU,aB];refine Ok.bind (aNk m (by omega) (by omega) hl gV hs hc hu r) λz ⟨z1,z2,z3⟩=> ?_
  refine Ok.ite (λhw=>nx b [] rfl (λ_ _=>rfl) hbi ⟨λ_=>rfl,λh=>absurd (qv hw) (by omega)⟩) λhw=> ?_
  have hw:=F0 hw;obtain ⟨w,hww⟩:∃w:Nat,z.1=(w:Int):=⟨z.1.toNat,by omega⟩
  have hw':mr ms (i:Int)=(w:Int):=by omega
  rw[hw'] at z3 nx;obtain ⟨T',EP,hkT⟩:∃T',((u::ts).getLast (by simp)).ai[w]? =some T'/\T'.aw=u.ai[i].aw:=by
   have h0:0<z.2.length:=by have:=((SG.of hs).cy _ (rS uP)).zq;have:=((SG.of hs).cy _ (rS uP)).jl;omega
   obtain ⟨_,_,z4⟩:=z3 0 z.2[0] (dI h0);obtain ⟨w',T',e1,e2,e3,_⟩:=z4.on (by omega)
   have:w'=w:=by omega
   rw[this] at e2;exact ⟨T',e2,e3⟩
  have hwl:w<st.length:=by rw[mT.len];exact (bY.1 EP).1
  have l8:st[w]? =some st[w]:=dI hwl;obtain ⟨rw1,rw2⟩:=mT.row w T' st[w] EP l8;have hT2:lI T':=(qb Bv).cy (w:Int) T' (by rw[bM];exact EP)
  have hk1:=hT2.zq;have xk:=hT2.jl;rw[hww,bM,l8,au];exact aiS (MQ (Dd (MP n0) m) m) (u.ai.length:Int) (i:Int) ⟨st⟩ ⟨u::r,ms⟩ EP (λy hy=>by
   have h:=rw2 y hy;rw[aau hT2.ks] at h;have:=apf h;exact ⟨h,λe=>by rw[e] at this;simp at this;omega⟩) z3 z2 (by omega) (by omega) st[w] 0 m _ _ b [] rfl (by omega) (by omega) hbi rfl (λi low h=>by simp at h) λb' BW h1 h2 h3 h4 h5=>nx b' BW h1 h2 h3 ⟨λh=>by omega,λ_=>⟨w,T',_,rfl,EP,hkT,l8,h4,h5⟩⟩
 |_,_,0,_,_,_,_,hm,_,_,_,_=>by omega
end
section
variable {n:Nat} {s u:ag} {ms:cJ} {ts:fL} {k:Nat} {st:uC}
def aNm (hn:3000000<n) (fN:n<4294967296) (hs:gA s=0) (hm:∀m∈ms,MB m/\(m.bh=8->kz m.bf)) (hl:ms.length<=8) (hv:s.ax+(ms.length:Int)<=1000) (hc:ew s ms ts) (hk:k<=ts.length) (hu:(s::ts)[k]? =some u) (mT:H6 1 ((s::ts).getLast (by simp)) st):
  Ok (F21 n s ms (s.ax+(k:Int)) 1 ⟨st⟩) λz=>z.2=0/\z.1.ai.length=u.ai.length/\∀(q:Nat) (T:aj) tb,u.ai[q]? =some T->z.1.ai[q]? =some tb->zL ((s::ts).getLast (by simp)) (mr (ms.drop k) (q:Int)) st T tb:=by
 have hlen:=hc.len;obtain ⟨u',e1,e2,e3,e4,e5⟩:=ew.drop hs hc hk;rw[hu] at e1;have e1:=kV e1;rw[<-e1] at e2 e3 e4;have e5:(u::ts.drop k).getLast (by simp)=(s::ts).getLast (by simp):=by
  rw[<-e5];congr 1;rw[e1]
 have Bv:gA ((s::ts).getLast (by simp))=0:=by
  rcases cH.1 (SM (l:=s::ts) (by simp)) with h|h
  ·rw[h];exact hs
  ·exact hc.jD _ h
 have hGN:=SG.of Bv;have hul:=(SG.of e4).len;have hNl:=hGN.len;have htot:=mT.tot;have EG:=mT.len;have abQ:rA (u.ai.length:Int) ([]:bU)=some (List.replicate u.ai.length []):=by
  unfold rA;rw[aH ⟨by omega,by omega⟩];rfl
 have Jw:=QI n ((s::ts).getLast (by simp)) (λT hT=>(hGN.cy T hT).vH) (by omega) fN
 rw[Bv] at Jw;have h26:=azk (.inl rfl:Hc 1) n _ 0 Jw (λ_=>qb Bv) ⟨st⟩ (by show st.length+total st<=2000000;omega) (by omega)
 rw[StM.jD mT.m (by omega)] at h26
 unfold F21 anQ;rw[asw (by omega) fN hs hm hl hv hc hk,au,e2]
 simp only[jg,aC,aA];rw[aJn (by simp;omega),au,e5,h26,au]
 simp only[jg,aC,aA];rw[adz,au,abQ,au,tR];rw[<-e5] at mT Bv ⊢;exact aiR n (by simp;omega) (λm sU=>hm m (oE sU)) e4 e3 Bv mT u.ai.length 0 n _ _ _ (by omega) (by omega) fN (by simp) (λq T tb h=>by omega) λq _ hq=>by
  rw[tR] at hq;simp[hq]
def azl (hn:3000000<n) (fN:n<4294967296) (hs:gA s=0) (hm:∀m∈ms,MB m/\(m.bh=8->kz m.bf)) (hl:ms.length<=8) (hv:s.ax+(ms.length:Int)<=1000) (hc:ew s ms ts) (hk:k<=ts.length) (hu:(s::ts)[k]? =some u) {t:Nat} {T:aj} (hT:u.ai[t]? =some T) (hA:∀fx,zW T c true fx k0 c):
  Ok (F24 n s ms (s.ax+(k:Int)) (t:Int) c) λz=>∃p,acW ((s::ts).getLast (by simp)) (mr (ms.drop k) (t:Int)) T.aw k0 c p/\z.2.2=p.dN/\(p.dN=true->z.1=p.gF/\z.2.1=p.fD):=by
 have hlen:=hc.len;obtain ⟨u',e1,e2,e3,e4,e5⟩:=ew.drop hs hc hk;rw[hu] at e1;have e1:=kV e1;rw[<-e1] at e2 e3 e4;have e5:(u::ts.drop k).getLast (by simp)=(s::ts).getLast (by simp):=by
  rw[<-e5];congr 1;rw[e1]
 have htl:=(bY.1 hT).1;obtain ⟨c1,c2⟩:=(hA zv).rng;have q1:¬((t:Int)<0):=by omega
 have q2:(t:Int)<(u.ai.length:Int):=by omega
 have q3:¬(c< -1):=by omega
 have q4:c<(T.ae.length:Int):=by omega
 unfold F24 anP;rw[asw (by omega) fN hs hm hl hv hc hk,au,e2]
 simp only[jg,aC,aA,q1,q2,q3,q4,aU,aX,du,adz,au,bM,hT];have h:=amK n (by omega) fN u (ms.drop k) (ts.drop k) (by simp;omega) (λm sU=>hm m (oE sU)) e4 e3 hT hA
 rw[e5] at h;refine Ok.bind h λp hp=> ?_
 refine Ok.ite (λh=>Ok.pure ⟨p,hp,?_,λhh=> ?_⟩) λh=>Ok.pure ⟨p,hp,?_,λ_=>⟨rfl,rfl⟩⟩
 ·simpa using h.symm
 ·rw[hh] at h;cases h
 ·simpa using h.symm
end
section
variable {N u:ag} {ms:cJ} {st lo:uC}
def JX.m {T:aj} {rows:bU} (h:JX T rows tb):∀r∈tb,jF 1 T.aw 0 (eA T) r=true:=λr hr=>by
 obtain ⟨i,hi⟩:=SP hr;obtain ⟨row,h1,h2,h3⟩:=h i r hi;exact ahA (ahB (by rw[oh];exact h2) λq v hv=>by
  obtain ⟨k,k1,k2,k3,_⟩:=h3 q v hv;exact ⟨k,k1,k2,k3⟩)
def JX.ord {T T':aj} {rows:bU} (h:JX T rows tb) (hl:tb.length=rows.length) (hk:T'.aw=T.aw) (xk:T.aw.toNat<=T.ae.length) (hO:Ord T' rows):Ord T tb:=by
 have e:tb.map (λr=>r.take T.aw.toNat)=rows.map (λr=>r.take T.aw.toNat):=xv λi=>by
  rw[lz,lz];by_cases hi:i<tb.length
  ·have hg:tb[i]? =some tb[i]:=dI hi;obtain ⟨row,h1,h2,h3⟩:=h i _ hg;rw[hg,h1];exact bN some (h3.take (by omega))
  ·rw[tQ (by omega),tQ (by omega)]
 have h1:(rows.map (λr=>r.take T.aw.toNat)).Pairwise lt:=List.pairwise_map.2 (by
  rw[<-hk];exact hO)
 rw[<-e] at h1;exact List.pairwise_map.1 h1
end
end
section
section
variable {s u N:ag} {ms:cJ} {ts:fL} {k:Nat} {st lo:uC}
def zL.len {w:Int} {T:aj} (h:zL N w st T tb) (mT:H6 1 N st):tb.length<=8:=by
 by_cases hw:w<0
 ·rw[h.1 hw];simp
 ·obtain ⟨a,T',rows,e1,e2,e3,e4,e5,_⟩:=h.2 (by omega)
  have:=(mT.row a T' rows e2 e4).1;omega
def zL.Ey (hN:gA N=0) (hu:gA u=0) (mT:H6 1 N st) (hl:lo.length=u.ai.length) (h:∀(q:Nat) (T:aj) tb,u.ai[q]? =some T->lo[q]? =some tb->zL N (mr ms (q:Int)) st T tb):StM 1 u lo:=⟨hl,λt T tb hT htb=>by
 have hw:=h t T tb hT htb;by_cases h0:mr ms (t:Int)<0
 ·rw[hw.1 h0];exact ⟨λr hr=>by simp at hr,List.Pairwise.nil⟩
 ·obtain ⟨a,T',rows,e1,e2,e3,e4,e5,e6⟩:=hw.2 (by omega)
  have ht:lI T:=(qb hu).cy (t:Int) T (by rw[bM];exact hT)
  have:=ht.jl;exact ⟨e6.m,e6.ord e5 e3 (by omega) (mT.ord a T' rows e2 e4)⟩⟩
def aiO (K:cJ->Int->Int->Int->bn->Int->Int->ag->fL->ag->aW->aW->aj->Option Bool) (us:bn) (t82 t83:Int) {t a:Nat} {T:aj} {rows tb:bU} (h1:1<=T.aw) (h2:T.aw<=(T.ae.length:Int)) (h8:T.ae.length<=8) (l8:st[a]? =some rows) (hr:∀r∈rows,T.aw<=(r.length:Int)) (hD:JX T rows tb) (htl:tb.length<=1000)
  (hK:K ms (k:Int) (t:Int) (a:Int) us t82 t83 s (s::ts) N ⟨st⟩ ⟨lo⟩ T=some true):
  ∀(x:bU) (i m:Nat),tb.drop i=x->x.length+100<m->VK K m ms (k:Int) (t:Int) (a:Int) us t82 t83 tb (tb.length:Int) (i:Int) s (s::ts) N ⟨st⟩ ⟨lo⟩ T=some true
 | [],i,m+1,hd,hm1=>by
  have hi:tb.length<=i:=by simpa using hd
  have hq:¬((i:Int)<(tb.length:Int)):=by omega
  simp only[VK,anu,hq,aX,aC,aA];exact hK
 |low::x,i,m+1,hd,hm1=>by
  let ⟨g1,g2,g3,hq⟩:=gdr hd
  simp at hm1;obtain ⟨row,r1,r2,r3⟩:=hD i low g1;have r4:=hr row (cT r1);have e:=r3.take (by omega)
  have c1:cut low none (some T.aw)=some (low.take T.aw.toNat):=Ql (by omega) (by omega)
  have c2:cut row none (some T.aw)=some (row.take T.aw.toNat):=Ql (by omega) (by omega)
  have ih:=aiO K us t82 t83 h1 h2 h8 l8 hr hD htl hK x (i+1) m g2 (by omega)
  simp only[VK,anu,hq,aU,aB,bM,g1,au,c1,l8,r1,c2,<-e,asA m (low.take T.aw.toNat) (low.take T.aw.toNat) (by simp;omega) (by simp;omega),IL,jg,aC,aA,cf g3 (by omega:tb.length<4294967296)]
  exact ih
 |_,_,0,_,h=>by omega
def aiN (hs:gA s=0) (hm:∀m∈ms,MB m/\(m.bh=8->kz m.bf)) (hl:ms.length<=8) (hv:s.ax+(ms.length:Int)<=1000) (hc:ew s ms ts) (hk:k<=ts.length) (hu:(s::ts)[k]? =some u) (hN:(s::ts).getLast (by simp)=N) {t a:Nat} {T:aj} (hT:u.ai[t]? =some T) (hw:mr (ms.drop k) (t:Int)=(a:Int)) (K:cJ->Int->bn->Int->Int->ag->fL->ag->aW->aW->Option Bool) (us:bn) (t82 t83:Int) (h8:T.ae.length<=8)
  (hK:K ms (k:Int) us t82 t83 s (s::ts) N ⟨st⟩ ⟨lo⟩=some true):
  ∀(x:cN) (c m:Nat),T.ae.drop c=x->x.length+3000001<m->m<4294967296->VJ K m ms (k:Int) (t:Int) (a:Int) us t82 t83 T.ae (T.ae.length:Int) (c:Int) s (s::ts) N ⟨st⟩ ⟨lo⟩=some true
 | [],c,m+1,hd,hm1,hm2=>by
  have hi:T.ae.length<=c:=by simpa using hd
  have hq:¬((c:Int)<(T.ae.length:Int)):=by omega
  simp only[VJ,ant,hq,aX,aC,aA];exact hK
 |y::x,c,m+1,hd,hm1,hm2=>by
  let ⟨g1,g2,g3,hq⟩:=gdr hd
  simp at hm1;obtain ⟨⟨z1,z2,z3⟩,e,p,hp,q1,q2⟩:=azl (n:=m) (by omega) (by omega) hs hm hl hv hc hk hu hT (zW.CU g1)
  have BA:k<(s::ts).length:=by simp;omega
  have abN:=hc.ver k u hu;have ih:=aiN hs hm hl hv hc hk hu hN hT hw K us t82 t83 h8 hK x (c+1) m g2 (by omega) (by omega)
  simp only[VJ,ant,hq,aU,aB,bM,g1,au,gC BA,cA,hu,abN,e,cf g3 (by omega:T.ae.length<4294967296)]
  have q1:z3=p.dN:=q1;cases hz:p.dN with
  |false=>simp only[q1,hz,aC,aA];exact ih
  |true=>
   obtain ⟨e1,e2⟩:z1=p.gF/\z2=p.fD:=q2 hz;obtain ⟨a',T',f1,f2,f3,hA,_⟩:=hp.on (by omega)
   have haa:a'=a:=by omega
   rw[haa,hN] at f2;have e1:z1=(a:Int):=by rw[e1,hp.cy,hw]
   rw[hz] at hA;rcases hA with ⟨b1,_⟩|⟨_,_,d,y',b1,b2,b3,_⟩|⟨_,b,_⟩
   ·omega
   ·have rp:=(bY.1 b2).1;have n1:¬((d:Int)<0):=by omega
    have n2:(d:Int)<(T'.ae.length:Int):=by omega
    simp only[q1,hz,aB,e1,e2,b1,jg,aC,aA,n1,aX,bM,f2,au,n2,aU,du,b2,b3];exact ih
   ·cases b
 |_,_,0,_,h,_=>by omega
def aiM (hs:gA s=0) (hm:∀m∈ms,MB m/\(m.bh=8->kz m.bf)) (hl:ms.length<=8) (hv:s.ax+(ms.length:Int)<=1000) (hc:ew s ms ts) (hk:k<=ts.length) (hu:(s::ts)[k]? =some u) (hsu:gA u=0) (hN:(s::ts).getLast (by simp)=N) (Bv:gA N=0) (mT:H6 1 N st) (hll:lo.length=u.ai.length) (hD:∀(q:Nat) (T:aj) tb,u.ai[q]? =some T->lo[q]? =some tb->zL N (mr (ms.drop k) (q:Int)) st T tb) (n0:Nat):
  ∀(x:bn) (t m:Nat),u.ai.drop t=x->x.length+3020001<m->m<4294967296->Hh (V4 n0) m ms (k:Int) u.ai (u.ai.length:Int) (t:Int) s (s::ts) N ⟨st⟩ ⟨lo⟩=some true
 | [],t,m+1,hd,hm1,hm2=>by
  have hi:u.ai.length<=t:=by simpa using hd
  have hq:¬((t:Int)<(u.ai.length:Int)):=by omega
  simp only[Hh,anr,hq,aX,aC,aA];rfl
 |T::x,t,m+1,hd,hm1,hm2=>by
  let ⟨g1,g2,g3,hq⟩:=gdr hd
  simp at hm1;have hul:=(SG.of hsu).len;have ht:lI T:=(qb hsu).cy (t:Int) T (by rw[bM];exact g1)
  have BA:k<(s::ts).length:=by simp;omega
  have abN:=hc.ver k u hu;have htl:t<lo.length:=by omega
  have htb:lo[t]? =some lo[t]:=dI htl;have hW:=hD t T _ g1 htb;have hWl:=hW.len mT;have ih:=aiM hs hm hl hv hc hk hu hsu hN Bv mT hll hD n0 x (t+1) m g2 (by omega) (by omega)
  have ih':Oq (Hh (V4 n0) m) m ms (k:Int) u.ai (u.ai.length:Int) (t:Int) s (s::ts) N ⟨st⟩ ⟨lo⟩=some true:=by
   unfold Oq;rw[cf g3 (by omega)]
   exact ih
  obtain ⟨⟨z1,z2,z3⟩,e,p,hp,q1,q2⟩:=azl (n:=m) (by omega) (by omega) hs hm hl hv hc hk hu g1 (zW.none T)
  have q1:z3=p.dN:=q1;simp only[Hh,anr,hq,aU,aB,bM,g1,au,gC BA,cA,hu,abN,e,htb];by_cases hw:mr (ms.drop k) (t:Int)<0
  ·have h0:lo[t]= []:=hW.1 hw;have hz:=hp.off hw;have n0:¬((0:Int)<((([]:bU).length:Nat):Int)):=by simp
   simp only[q1,hz,hZ,aB,h0,n0,aX,aC,aA];exact ih'
  ·obtain ⟨a,T',rows,e1,e2,e3,e4,e5,e6⟩:=hW.2 (by omega)
   obtain ⟨_,_,_,_,_,hA,_⟩:=hp.on (by omega)
   have hz:p.dN=true:=by
    rcases hA with ⟨_,_,b⟩|⟨b,_⟩|⟨b,_⟩
    ·exact b
    ·omega
    ·omega
   obtain ⟨f1,f2⟩:z1=p.gF/\z2=p.fD:=q2 hz;have f1:z1=(a:Int):=by rw[f1,hp.cy,e1]
   have n1:¬((a:Int)<0):=by omega
   have n2:(a:Int)<(N.ai.length:Int):=by have:=(bY.1 e2).1;omega
   have k1:=ht.zq;have k2:=ht.jl;have k3:=ht.cols;simp only[q1,hz,du,aC,aA,f1,n1,aX,n2,aU,bM,e4,au,e5,jg,e2,e3];rw[<-e5];refine aiO (ans (Oq (Hh (V4 n0) m) m) m) u.ai (u.ai.length:Int) (t:Int) k1 k2 k3 e4 (λr hr=> ?_) e6 (by omega) ?_ lo[t] 0 m rfl (by omega)
   ·have:=Cs ((mT.row a T' rows e2 e4).2 r hr);have:=((qb Bv).cy (a:Int) T' (by rw[bM];exact e2)).jl
    omega
   ·unfold ans;exact aiN hs hm hl hv hc hk hu hN g1 e1 (Oq (Hh (V4 n0) m) m) u.ai (u.ai.length:Int) (t:Int) k3 ih' T.ae 0 m rfl (by omega) (by omega)
 |_,_,0,_,h,_=>by omega
end
def law6 (n:Nat) (hn:4000000<n) (fN:n<4294967296) (db:aK) (hb:∀x∈db,0<=x/\x<=255):F6 n db=some true:=by
 obtain ⟨c,e1,hc⟩:=aJA n db 400 hb (by omega) (by omega)
 obtain ⟨x5,e2,h1,h2,h3,h4,ts,k,sf,ea,ek,hk⟩:=aJB n (by omega) fN c hc
 have hG:=SG.of h2.jD;have pO:x5.1.ax<=2:=by
  obtain ⟨v,id,k,r1,r2,r3,ch,hp,e⟩:=h2;rw[e];exact hp.v1
 have hlen:=sf.len;obtain ⟨u,u1,u2,u3,u4,u5⟩:=ew.drop h2.jD sf hk;have Bv:gA ((x5.1::ts).getLast (by simp))=0:=by
  rcases cH.1 (SM (l:=x5.1::ts) (by simp)) with h|h
  ·rw[h];exact h2.jD
  ·exact sf.jD _ h
 have hul:=(SG.of u4).len;unfold F6 awq;rw[e1,au,e2,au,ea,ek];have hL:(x5.1::ts).length=ts.length+1:=rfl;have w:bl (((x5.1::ts).length:Int)-1)=(((x5.1::ts).length-1:Nat):Int):=by rw[dw (by rw[hL];omega) (by rw[hL];omega),hL];omega
 rw[w,gC (by rw[hL];omega),au,cA,Nk,au]
 obtain ⟨⟨⟨st⟩,z3⟩,e3,z1,z2⟩:=aNn 1 n (by omega) _ (qb Bv) x5.2.2.2.2 h1
 obtain ⟨⟨⟨lo⟩,y2⟩,e4,y3,y4,y5⟩:=aNm (n:=n) (by omega) fN h2.jD h3.mem (by omega) (by omega) sf hk u1 z2
 have BA:k<(x5.1::ts).length:=by rw[hL];omega
 have abN:=sf.ver k u u1;have y3:y2=0:=y3;have y4:lo.length=u.ai.length:=y4;have y5:∀(q:Nat) (T:aj) tb,u.ai[q]? =some T->lo[q]? =some tb->zL ((x5.1::ts).getLast (by simp)) (mr (x5.2.1.drop k) (q:Int)) st T tb:=y5
 have htot:total lo<=8*lo.length:=Nn λrs EH=>by
  obtain ⟨t,ht⟩:=SP EH;have htl:=(bY.1 ht).1;have hT:t<u.ai.length:=by omega
  exact (y5 t _ rs (dI hT) ht).len z2
 have Jw:=QI n u (λT hT=>((SG.of u4).cy T hT).vH) (by omega) fN
 rw[u4] at Jw;have h26:=azk (.inl rfl:Hc 1) n u 0 Jw (λ_=>qb u4) ⟨lo⟩ (by show lo.length+total lo<=2000000;omega) (by omega)
 rw[StM.jD (zL.Ey Bv u4 z2 y4 y5) (by omega)] at h26
 subst y3;simp only[e3,au,gC BA,cA,u1,abN,e4,jg,aC,aA,y4,h26];exact aiM h2.jD h3.mem (by omega) (by omega) sf hk u1 u4 rfl Bv z2 y4 y5 n u.ai 0 n rfl (by omega) fN
end
def aue {k:IntKind} {n:Int} (h:Qa (.int k n)):k.min<=n/\n<=k.max:=by
 simpa[Qa,Lit.wf] using h
def JD:∀{rows:List (List AV)},BL rows->∀r∈rows,wF r
 | [],_,_,h=>by simp at h
 |r::rs,h,x,hx=>by
  rcases cH.1 hx with rfl|hx
  ·exact h.1
  ·exact JD h.2 x hx
def alY (h:Qa (.qp 5 1 db.length (ym db))):∀x∈db,0<=x/\x<=255:=by
 intro x hx;have h1:=JD (show BL (ym db) from h) (acq x) (cO.2 ⟨x,hx,rfl⟩);have h2:=aue (show Qa (.int .u8 x) from h1.1);simpa[IntKind.min,IntKind.max,IntKind.signed,IntKind.bits] using h2
def aEZ (y0:aK) (h0:wF [.qp 5 1 y0.length (ym y0)]) (hb:mA [.qp 5 1 y0.length (ym y0)]<=1048576):∃n,F6 n y0=some true:=⟨5000000,law6 5000000 (by omega) (by omega) y0 (alY h0.1)⟩
end Go.Proofs.YtbnkhmoelnfjoaaGreat
end
