/- Part. -/
import Derived.Test.YtbnkhmoelnfjoaaGreatP8
import Derived.Test.YtbnkhmoelnfjoaaGreatP7
set_option linter.all false
set_option maxRecDepth 100000
noncomputable section
namespace Go.Proofs.YtbnkhmoelnfjoaaGreat
open Go.bZ
variable {J:Type} {i:Nat} {c:cJ} {x:ey} {rs tb:bS} {ks db:aK} {v:aR} {e:Int} {l:gz}
section
def CJ (i:Int):(Utf8.encode i).size<=4:=by
 unfold Utf8.encode;simp only;repeat' split
 all_goals simp[ByteArray.size]
def arq {a b:ByteArray} (h:a.size+b.size<=1000000):cat a b=some (a++b):=by unfold cat;rw[aH h]
structure amQ (m:aF):Prop where
 mb:MB m
 prs:m.bh=8->kV m.bc\/m.bc= []
def ld.prs {s t:ag} {m:aF} (h:ld s m t) (h8:m.bh=8):m.bc≠ []:=by
 cases h with
 |Ed j c T x eP hj hT hc hx hk hp hu=>
  intro e;rw[e] at hp;simp[wj] at hp
 |_=>omega
structure Lst (s:ag) (l:cG):Prop where
 mem:∀m∈l,MB m/\(m.bh=8->kV m.bc)
 chain:∃ts,eu s l ts
def eu.ahI:∀{s:ag} {ms:cG} {ts:fO},eu s ms ts->∀m∈ms,m.bh=8->m.bc≠ []
 |_,[],[],_,m,hm,_=>by cases hm
 |_,_::_,_::_,h,m,hm,h8=>by
  rcases cH.1 hm with rfl|hm
  ·exact h.2.1.prs h8
  ·exact eu.ahI h.2.2.2 m hm h8
 |_,[],_::_,h,_,_,_=>by cases h
 |_,_::_,[],h,_,_,_=>by cases h
def BQ (s:ag) (r:cG×aL):Prop:=dk r.2/\Lst s r.1/\r.1.length<=5
section
variable {s:ag} {n:Nat}
def adR (hs:gy s=0) (hn:1800000<n) (fN:n<4294967296) (k:Int->aL->ag->cG->Option (cG×aL)) (n8:Int) (c:aL) (hc:dk c) (l:cG) (hl:Lst s l) (hl5:l.length<=100) (m:aF) (hm:amQ m) (hk:∀l',Lst s l'->l'.length<=l.length+1->Ok (k n8 c s l') (BQ s)):
  Ok (QH k n n8 c s l m) (BQ s):=by
 unfold QH;rw[dI _ _ (by simp;omega),au,jV,dI _ _ (by simp;omega),au]
 refine Ok.bind (ase n hn fN s hs (l++ [m]) (λx hx=> ?_) (by simp;omega)) λr hr=> ?_
 ·rcases eO.1 hx with h|h
  ·exact (hl.mem x h).1
  ·rw[ez.1 h];exact hm.mb
 refine Ok.ite (λh0=> ?_) λ_=>hk l hl (by omega)
 obtain ⟨_,_,ts,_,si⟩:=hr (by simpa using h0)
 rw[au];refine hk (l++ [m]) ⟨λx hx=> ?_,ts,si⟩ (by simp)
 rcases eO.1 hx with h|h
 ·exact hl.mem x h
 ·rw[ez.1 h];refine ⟨hm.mb,λh8=> ?_⟩
  rcases hm.prs h8 with h|h
  ·exact h
  ·exact absurd h (si.ahI m (by simp) h8)
def avU (hs:gy s=0) (hn:1800000<n) (fN:n<4294967296) (k:Int->aL->ag->cG->Option (cG×aL)) (n8:Int) (hn8:0<n8) (hn88:n8<=100) (c:aL) (hc:dk c) (l:cG) (hl:Lst s l) (hl5:l.length<=100) (gE:ag) (m:aF) (hm:amQ m) (hk:∀l',Lst s l'->l'.length<=l.length+1->Ok (k (n8-1) c s l') (BQ s)):
  Ok (rR k n n8 c s l gE m) (BQ s):=by
 have e:∀l',Db k n n8 c s l'=k (n8-1) c s l':=λl'=>by unfold Db;rw[dv (by omega) (by omega)]
 unfold rR;refine Ok.ite (λ_=>Ok.ite (λ_=> ?_) λ_=> ?_) λ_=> ?_
 ·rw[e];exact hk l hl (by omega)
 ·exact adR hs hn fN (Db k n) n8 c hc l hl hl5 m hm λl' h1 h2=>by rw[e];exact hk l' h1 h2
 ·exact adR hs hn fN (Db k n) n8 c hc l hl hl5 m hm λl' h1 h2=>by rw[e];exact hk l' h1 h2
def aie (a:ByteArray) (cs:cO) (k:Int) (h:cs.length<=10):DG ⟨a,cs,k,[],[]⟩:=⟨⟨by show cs.length<=1000;omega,by simp,by simp⟩,λr hr=>by simp at hr,λp hp=>by simp at hp⟩
def TabZ (b:aj):Prop:=0<=b.ay/\b.ay<=(b.ae.length:Int)/\b.ae.length<=8/\∀x∈b.ae,3<=x.ax/\x.ax<=5
def adQ (hs:gy s=0) (hn:1800000<n) (fN:n<4294967296) (k:Int->aL->ag->cG->Option (cG×aL)) (n8:Int) (hn8:0<n8) (hn88:n8<=100) (c:aL) (hc:dk c) (l:cG) (hl:Lst s l) (hl5:l.length<=100) (gE:ag) (op tb:Int) (ka:aj) (hT:TabZ ka) (hk:∀l' c',dk c'->Lst s l'->l'.length<=l.length+1->Ok (k (n8-1) c' s l') (BQ s)):
  Ok (QG k n n8 c s l gE (aF.mk op tb 0 0 ByteArray.empty 0 (aR.mk 0 0 ByteArray.empty) [] (aj.mk ByteArray.empty [] 0 [] [])) ka) (BQ s):=by
 obtain ⟨t1,t2,t3,t4⟩:=hT;have fin:∀(c':aL) (m:aF),dk c'->amQ m->Ok (rR k n n8 c' s l gE m) (BQ s):=λc' m h1 h2=>avU hs hn fN k n8 hn8 hn88 c' h1 l hl hl5 gE m h2 λl' h3 h4=>hk l' c' h1 h3 h4
 have cz:∀(op tb CM to:Int) (nm:ByteArray) (kd:Int) (v:aR) (ps:gz) (d:aj),lZ CM->lZ to->DG d->(op=8->kV ps\/ps= [])->amQ (aF.mk op tb CM to nm kd v ps d):=λop tb CM to nm kd v ps d h1 h2 h3 h4=>⟨⟨h1,h2,h3⟩,h4⟩
 have z0:lZ 0:=⟨by omega,by omega⟩
 have d0:DG (aj.mk ByteArray.empty [] 0 [] []):=aie _ _ _ (by simp)
 unfold QG;have w1:bl ((ka.ae.length:Int)-ka.ay)=(ka.ae.length:Int)-ka.ay:=dv (by omega) (by omega)
 rw[w1];refine Ok.bind (j7 n c _ hc) λdA ⟨c11,a0,_,_,a1⟩=> ?_
 have w2:bl (ka.ay+dA.1)=ka.ay+dA.1:=dv (by omega) (by omega)
 have Je:lZ (ka.ay+dA.1):=⟨by omega,by omega⟩
 rw[w2];have s1:(ByteArray.mk #[110]).size=1:=rfl;have e1:=CJ (IntKind.wrap .i32 (bl (97+(l.length:Int))));rw[arq (by omega),au]
 refine Ok.bind (j7 n dA.2 26 c11) λiF ⟨c23,_,_,_,_⟩=> ?_
 have e2:=CJ (IntKind.wrap .i32 (bl (97+iF.1)));rw[arq (by rw[Sx];omega),au]
 refine Ok.ite (λq=> ?_) λq1=> ?_
 ·refine Ok.bind (j7 n iF.2 3 c23) λyC ⟨c37,p0,p1,_,_⟩=> ?_
  have p1:=p1 (by omega)
  rw[dv (x:=3+yC.1) (by omega) (by omega)]
  refine Ok.bind (B5 n (by omega) yC.2 (3+yC.1) c37 (by omega) (by omega)) λx47 hx=> ?_
  exact fin _ _ hx.1 (cz _ _ _ _ _ _ _ _ _ z0 z0 d0 λh=>.inr rfl)
 refine Ok.ite (λq=> ?_) λq2=> ?_
 ·refine Ok.ite (λh=> ?_) λ_=>fin _ _ c23 (cz _ _ _ _ _ _ _ _ _ Je z0 d0 λh=>.inr rfl)
  have h:=ru h;obtain ⟨i,hi⟩:∃i:Nat,ka.ay+dA.1=(i:Int):=⟨(ka.ay+dA.1).toNat,by omega⟩
  have wB:i<ka.ae.length:=by omega
  rw[hi,bO,dJ wB,au];have Bs:=t4 _ (rT wB);refine Ok.bind (B5 n (by omega) iF.2 _ c23 Bs.1 Bs.2) λx53 hx=> ?_
  exact fin _ _ hx.1 (cz _ _ _ _ _ _ _ _ _ (hi ▸ Je) z0 d0 λh=>.inr rfl)
 refine Ok.ite (λq=> ?_) λq3=> ?_
 ·refine Ok.bind (j7 n iF.2 _ c23) λx50 ⟨c50,p0,_,_,p1⟩=> ?_
  rw[dv (x:=ka.ay+x50.1) (by omega) (by omega)]
  exact fin _ _ c50 (cz _ _ _ _ _ _ _ _ _ Je ⟨by omega,by omega⟩ d0 λh=>.inr rfl)
 refine Ok.ite (λq=> ?_) λq4=> ?_
 ·refine Ok.bind (j7 n iF.2 _ c23) λAQ ⟨c46,p0,_,_,p1⟩=> ?_
  exact fin _ _ c46 (cz _ _ _ _ _ _ _ _ _ ⟨by omega,by omega⟩ z0 d0 λh=>.inr rfl)
 refine Ok.ite (λq=> ?_) λq5=> ?_
 ·exact fin _ _ c23 (cz _ _ _ _ _ _ _ _ _ z0 z0 d0 λh=>.inr rfl)
 refine Ok.ite (λq=> ?_) λq6=> ?_
 ·rw[show ∀a k,B6 n a k=some (cJ.mk a k) from λ_ _=>rfl,au,show ∀a k,B6 n a k=some (cJ.mk a k) from λ_ _=>rfl,au]
  exact fin _ _ c23 (cz _ _ _ _ _ _ _ _ _ z0 z0 (aie _ _ _ (by simp)) λh=>.inr rfl)
 refine Ok.ite (λq=> ?_) λq8=> ?_
 ·refine Ok.ite (λh=> ?_) λ_=>fin _ _ c23 (cz _ _ _ _ _ _ _ _ _ Je z0 d0 λh=>.inr rfl)
  have h:=ru h;obtain ⟨i,hi⟩:∃i:Nat,ka.ay+dA.1=(i:Int):=⟨(ka.ay+dA.1).toNat,by omega⟩
  have wB:i<ka.ae.length:=by omega
  rw[hi,bO,dJ wB,au];have Bs:=t4 _ (rT wB);refine Ok.bind (B5 n (by omega) iF.2 _ c23 Bs.1 Bs.2) λpF hx=> ?_
  refine Ok.bind (B5 n (by omega) pF.2 _ hx.1 Bs.1 Bs.2) λql hy=> ?_
  have axH:lZ ((i:Nat):Int):=hi ▸ Je;refine Ok.ite (λhe=> ?_) λhe=> ?_
  ·have he:pF.1=ql.1:=Kt.1 he;have ct:tD 2 1=some 1:=rfl;rw[ct,au];refine fin _ _ hy.1 (cz _ _ _ _ _ _ _ _ _ axH z0 d0 λh=>.inl (.inl ⟨pF.1,?_⟩))
   rw[he];rfl
  ·exact fin _ _ hy.1 (cz _ _ _ _ _ _ _ _ _ axH z0 d0 λh=>.inl (.inr ⟨pF.1,ql.1,he,rfl⟩))
 ·exact fin _ _ c23 (cz _ _ _ _ _ _ _ _ _ z0 z0 d0 λh=>.inr rfl)
end
def M6 {s:J} {ts:List J}:(s::ts)[(s::ts).length-1]? =some ((s::ts).getLast (by simp)):=by
 rw[<-agc,List.getLast?_eq_some_getLast]
def acT (s:ag) (hs:gy s=0) (n0:Nat):∀(k:Nat) (i:Nat) (c:aL) (l:cG),i+1900000<k->k<4294967296->dk c->Lst s l->l.length+i<=5->Ok (C6 (MA n0) k (i:Int) c s l) (BQ s)
 |0,_,_,_,hk,_,_,_,_=>by omega
 |k+1,0,c,l,hk,jP,hc,hl,h5=>by
  have hq:¬((0:Int)<((0:Nat):Int)):=by omega
  simp only[C6,Yf,hq,aX,aC,aA,MA];exact Ok.pure ⟨hc,hl,by omega⟩
 |k+1,i+1,c,l,hk,jP,hc,hl,h5=>by
  have hq:((0:Int)<((i+1:Nat):Int)):=by omega
  simp only[C6,Yf,hq,aU,aB];refine Ok.bind (ase k (by omega) (by omega) s hs l (λm hm=>(hl.mem m hm).1) (by omega)) λr hr=> ?_
  refine Ok.ite (λ_=>Ok.pure ⟨hc,⟨λm hm=>by simp at hm,[],trivial⟩,by simp⟩) λh0=> ?_
  obtain ⟨_,_,ts,e,si⟩:=hr (by simpa using h0)
  have hchk:∀t∈s::ts,gy t=0:=λt ht=>by
   rcases cH.1 ht with rfl|ht
   ·exact hs
   ·exact si.jH t ht
  have hlen:=si.len;rw[e];have hL:(s::ts).length=ts.length+1:=rfl;have w:bl (((s::ts).length:Int)-1)=(((s::ts).length-1:Nat):Int):=by rw[dv (by rw[hL];omega) (by rw[hL];omega),hL];omega
  rw[w,gG (by rw[hL];omega),au,cC,M6,au]
  have auf:=hchk _ (Ss (l:=s::ts) (by simp))
  generalize (s::ts).getLast (by simp)=now at auf
  have hG:=SG.of auf;have hS:=A5 auf;have h8:=hG.len;refine Ok.bind (j7 k c 10 hc) λgC ⟨c25,p0,p1,_,_⟩=> ?_
  have p1:=p1 (by omega)
  rw[dv (x:=1+gC.1) (by omega) (by omega)]
  refine Ok.bind (j7 k gC.2 _ c25) λmO ⟨c33,u0,u1,_,_⟩=> ?_
  have rest:∀(c':aL) (op:Int),dk c'->Ok (QF (C6 (MA n0) k) k ((i+1:Nat):Int) c' s l now (aF.mk op mO.1 0 0 ByteArray.empty 0 (aR.mk 0 0 ByteArray.empty) [] (aj.mk ByteArray.empty [] 0 [] []))) (BQ s):=λc' op s8=>by
   have back:∀l' c'',dk c''->Lst s l'->l'.length<=l.length+1->Ok (C6 (MA n0) k (((i+1:Nat):Int)-1) c'' s l') (BQ s):=λl' c'' h1 h2 h3=>by
    rw[show (((i+1:Nat):Int)-1)=(i:Int) by omega]
    exact acT s hs n0 k i c'' l' (by omega) (by omega) h1 h2 (by omega)
   unfold QF;refine Ok.ite (λht=> ?_) λht=> ?_
   ·have ht:=ru ht;have cV:mO.1<(now.ai.length:Int):=by
     by_cases h1:(1:Int)<(now.ai.length:Int)
     ·rw[aH h1] at u1;exact u1 (by omega)
     ·rw[aM h1] at u1;have:=u1 (by omega)
      omega
    obtain ⟨j,hj⟩:∃j:Nat,mO.1=(j:Int):=⟨mO.1.toNat,by omega⟩
    have fS:j<now.ai.length:=by omega
    have hT:now.ai[j]? =some now.ai[j]:=dJ fS;show Ok ((idx now.ai mO.1).bind _) _;rw[hj,bO,hT,au];have tg:=hG.cy _ (rT fS);have tk:=hS.cy (j:Int) now.ai[j] (by rw[bO];exact hT)
    have a1:=tg.Dn;refine adQ hs (by omega) (by omega) _ ((i+1:Nat):Int) (by omega) (by omega) c' s8 l hl (by omega) now op (j:Int) now.ai[j] ⟨by omega,tg.jL,tg.cols,λx hx=> ?_⟩ back
    have EE:=tk.ks;unfold fL mJ at EE;rw[iT] at EE;exact Cw (EE x.ax (cP.2 ⟨x,hx,rfl⟩))
   ·exact adQ hs (by omega) (by omega) _ ((i+1:Nat):Int) (by omega) (by omega) c' s8 l hl (by omega) now op mO.1 _ ⟨by simp,by simp,by simp,λx hx=>by simp at hx⟩ back
  refine Ok.ite (λ_=> ?_) λ_=>rest _ _ c33
  refine Ok.bind (j7 k mO.2 2 c33) λzI ⟨c42,_,_,_,_⟩=>rest _ _ c42
def aJa (n:Nat) (hn:2000000<n) (fN:n<4294967296) (c:aL) (hc:dk c) (s:ag) (hs:gy s=0):Ok (F39 n c s 5) (BQ s):=by
 unfold F39 anx;rw[show bl (5+1)=6 from dv (by omega) (by omega)]
 refine Ok.bind (j7 n c 6 hc) λx7 ⟨c7,p0,p1,_,_⟩=> ?_
 have p1:=p1 (by omega)
 obtain ⟨i,hi⟩:∃i:Nat,x7.1=(i:Int):=⟨x7.1.toNat,by omega⟩
 rw[hi];exact acT s hs n n i x7.2 [] (by omega) fN c7 ⟨λm hm=>by simp at hm,[],trivial⟩ (by simp;omega)
def aJj (n:Nat) (hn:2000000<n) (fN:n<4294967296) (c:aL) (hc:dk c):Ok (F12 n c) λr=>dk r.2.2.2.2/\wW r.1/\Lst r.1 r.2.1/\r.2.1.length<=5/\∃(ts:fO) (k:Nat),eu r.1 r.2.1 ts/\r.2.2.1=r.1::ts/\r.2.2.2.1=(k:Int)/\k<=ts.length:=by
 unfold F12 anI;refine Ok.bind (aJb n (by omega) fN c hc) λx6 ⟨h1,h2⟩=> ?_
 refine Ok.bind (aJa n hn fN x6.2 h1 x6.1 h2.jH) λgP ⟨g1,g2,g3⟩=> ?_
 obtain ⟨ts,si⟩:=g2.chain;have pO:x6.1.aw<=2:=by
  obtain ⟨v,id,k,r1,r2,r3,ch,hp,e⟩:=h2;rw[e];exact hp.v1
 rw[aIZ n (by omega) fN x6.1 h2.jH gP.1 (λm hm=>(g2.mem m hm).1) (by omega) (by omega) ts si,au]
 refine Ok.bind (j7 n gP.2 _ g1) λsM ⟨k1,k2,k3,_⟩=> ?_
 have k3:=k3 (by simp;omega)
 obtain ⟨k,hk⟩:∃k:Nat,sM.1=(k:Int):=⟨sM.1.toNat,by omega⟩
 exact Ok.pure ⟨k1,h2,g2,g3,ts,k,si,rfl,hk,by simp at k3;omega⟩
def eu.ver:∀{s:ag} {ms:cG} {ts:fO},eu s ms ts->∀(i:Nat) t,(s::ts)[i]? =some t->t.aw=s.aw+(i:Int)
 |s,ms,ts,h,0,t,ht=>by simp at ht;subst ht;simp
 |s,[],[],_,i+1,t,ht=>by simp at ht
 |s,m::ms,u::ts,h,i+1,t,ht=>by
  have:=eu.ver h.2.2.2 i t (by simpa using ht)
  rw[this,h.2.1.ver];omega
 |_,[],_::_,h,_+1,_,_=>by cases h
 |_,_::_,[],h,_+1,_,_=>by cases h
end
section
def aIR (n:Nat) (a b:aR):F69 n a b=some (ll a b):=by
 unfold F69 anh ll;by_cases h1:a.ax<b.ax
 ·simp[h1]
 ·by_cases h2:b.ax<a.ax
  ·simp[h1,h2]
  ·by_cases h3:a.bX<b.bX
   ·simp[h1,h2,h3]
   ·by_cases h4:b.bX<a.bX
    ·simp[h1,h2,h3,h4]
    ·by_cases h5:Op.bytesLess a.bB.toList b.bB.toList=true
     ·simp[h1,h2,h3,h4,h5]
     ·by_cases h6:a.bB=b.bB
      ·simp[h1,h2,h3,h4,h6,oS]
      ·have h7:¬a.bB.toList=b.bB.toList:=λe=>h6 (zx (by rw[vU,vU] at e;exact e))
       simp[h1,h2,h3,h4,h5,h6,h7]
def arU (n0:Nat) (a b:cE) (ha:a.length<4294967296):∀(x:cE) (i m:Nat),a.drop i=x->i<=a.length->i<=b.length->x.length<m->Me (QJ n0) m a b (i:Int)=some (eT (a.drop i) (b.drop i))
 | [],i,m+1,hd,h1,h2,hm=>by
  have hl:a.length<=i:=by simpa using hd
  have hq:¬((i:Int)<(a.length:Int)):=by omega
  simp only[Me,Yg,QJ,hq,aX,aC,aA];rw[hd];cases hb:b.drop i with
  |nil=>
   have:b.length<=i:=by simpa using hb
   have e1:¬(a.length:Int)<b.length:=by omega
   have e2:¬(b.length:Int)<a.length:=by omega
   simp[e1,e2,eT]
  |cons y l=>
   obtain ⟨_,_,g3⟩:=bC hb;have e1:(a.length:Int)<b.length:=by omega
   simp[e1,eT]
 |x::xs,i,m+1,hd,h1,h2,hm=>by
  obtain ⟨g1,g2,g3⟩:=bC hd;have hq:(i:Int)<(a.length:Int):=by omega
  simp only[Me,Yg,hq,aU,aB];cases hb:b.drop i with
  |nil=>
   have hl:b.length<=i:=by simpa using hb
   have e0:¬(i:Int)<b.length:=by omega
   have e1:¬(a.length:Int)<b.length:=by omega
   have e2:(b.length:Int)<a.length:=by omega
   simp[e0,e1,e2,QJ,hd,eT]
  |cons y l=>
   obtain ⟨k1,k2,k3⟩:=bC hb;have e0:(i:Int)<b.length:=by omega
   simp only[e0,aU,aB,bO,g1,k1,au,aIR];rw[hd,bY g3 ha];simp only[eT];by_cases h:ll x y=0
   ·simp only[h,jN,aC,aA,aB];rw[arU n0 a b ha xs (i+1) m g2 (by omega) (by omega) (by simp at hm;omega),g2,k2]
   ·have:(ll x y !=0)=true:=by simpa using h
    simp only[this,h,aB,aA]
 |_,_,0,_,_,_,hm=>by simp at hm
def aJc (n:Nat) (a b:cE) (ha:a.length<4294967296) (hn:a.length<n):F27 n a b=some (eT a b):=by
 have:=arU n a b ha a 0 n rfl (by omega) (by omega) hn
 simp only[rS] at this;exact this
variable {s:ag} {t:Int} {T:aj} {n:Nat}
def VG (r:cE) (h:r.length<=1000000):VH n r=some r:=by
 simp only[VH,afd];rw[dI _ _ (by simpa using h)]
 rfl
def asc (hT:idx s.ai t=some T) (ht:np T) (r:cE) (hr:r.length=T.ae.length):F52 n s t r=some (r.take T.ay.toNat):=by
 obtain ⟨h0,h1,_⟩:=yN hT;have:=ht.cols;have k1:=ht.Dn;have k2:=ht.jL;have e1:¬t<0:=by omega
 have e2:t<(s.ai.length:Int):=by omega
 have e3:¬(r.length:Int)<T.ay:=by omega
 have e4:0<T.ay:=by omega
 simp only[F52,anp,e1,e2,aX,aU,dw,aC,aA,hT,au,e3,e4,aB];rw[arn (by omega) (by omega),au,VG _ (by simp;omega)]
 rfl
end

section
def aky {T:aj} (h:T.ae[i]? =some c):(fL T)[i]? =some c.ax:=by simp[fL,h]
def afT {T:aj} (h:T.ae[i]? =some c):(fL T).drop i=c.ax::(fL T).drop (i+1):=by
 have h1:i<(fL T).length:=by rw[rG];exact (cf.1 h).1
 have h2:=aky h;rw[qE h1];rw[dJ h1] at h2;rw[kW h2]
def len0 (l:List J):((l.length:Int)==0)=l.isEmpty:=by cases l<;>simp;omega
def behind (T:aj):Option cE->cE->Bool
 |none,_=>true
 |some q,r=>decide (eT (q.take T.ay.toNat) (r.take T.ay.toNat)<0)
def total:ey->Nat
 | []=>0
 |rs::rss=>rs.length+total rss
def anT (h:rs∈x):rs.length<=total x:=by
 induction x with
 |nil=>simp at h
 |cons y x ih=>
  simp only[total];rcases cH.1 h with rfl|h
  ·omega
  ·have:=ih h;omega
section
variable {s:ag} {t n:Nat} {T:aj}
def asa (hT:idx s.ai t=some T) (ht:np T) (r:cE) (hr:r.length=T.ae.length):F68 n s t r=some (r.take T.ay.toNat):=by
 obtain ⟨h0,h1,_⟩:=yN hT;have:=ht.cols;have k1:=ht.Dn;have k2:=ht.jL;have e1:¬(t:Int)<0:=by omega
 have e2:(t:Int)<(s.ai.length:Int):=by omega
 have e3:¬(r.length:Int)<T.ay:=by omega
 have e4:0<T.ay:=by omega
 simp only[F68,ani,e1,e2,aX,aU,dw,aC,aA,hT,au,e3,e4,aB];rw[arn (by omega) (by omega),au]
end
abbrev rQ:=ey
def yq (md key:Int) (i:Nat) (k:Int) (v:aR):Bool:=nf v&&decide (v.ax=k\/(¬(i:Int)<key/\((v.ax=2/\md≠1)\/(v.ax=1/\md=3))))
def kN (md key:Int):Nat->aK->cE->Bool
 |_,[],[]=>true
 |i,k::ks,v::vs=>yq md key i k v&&kN md key (i+1) ks vs
 |_,_,_=>false
section
variable {md key:Int}
def F6:∀{i:Nat} {ks:aK} {vs:cE},kN md key i ks vs=true->vs.length=ks.length
 |_,[],[],_=>rfl
 |_,k::ks,v::vs,h=>by simp[kN] at h;simp[F6 h.2]
 |_,[],_::_,h=>by simp[kN] at h
 |_,_::_,[],h=>by simp[kN] at h
def aBp {r:cE} (h:¬r.length=ks.length):kN md key i ks r=false:=by
 cases hr:kN md key i ks r with
 |false=>rfl
 |true=>exact absurd (F6 hr) h
def V6:∀{i:Nat} {ks:aK} {vs:cE} {k:Int} {v:aR},kN md key i ks vs=true->yq md key (i+ks.length) k v=true->kN md key i (ks++ [k]) (vs++ [v])=true
 |i,[],[],k,v,_,h1=>by simpa[kN] using h1
 |i,k'::ks,v'::vs,k,v,h,h1=>by
  simp only[kN,bF] at h;simp only[yy,kN,bF];exact ⟨h.1,V6 h.2 (by rw[show i+1+ks.length=i+(k'::ks).length by simp;omega];exact h1)⟩
 |_,[],_::_,_,_,h,_=>by simp[kN] at h
 |_,_::_,[],_,_,h,_=>by simp[kN] at h
def arp {k:Int} (h1:v.ax=k) (h2:jw v=true):yq md key i k v=true:=by
 unfold jw at h2;rw[bF] at h2;unfold yq;rw[bF];exact ⟨h2.1,by simp[h1]⟩
end
def ayL (n0:Nat) (md:Int) (T:aj) (r:cE) (hr:r.length=T.ae.length) (hl:r.length<4294967296):∀(x:cE) (i m:Nat),r.drop i=x->i<=r.length->x.length<m->G9 (Qy n0) m md r (r.length:Int) (i:Int) T=some (kN md T.ay i ((fL T).drop i) (r.drop i))
 | [],i,m+1,hd,h1,hm=>by
  have oJ:r.length<=i:=by simpa using hd
  have hq:¬((i:Int)<(r.length:Int)):=by omega
  simp only[G9,XU,Qy,hq,aX,aC,aA];rw[hd,po (by rw[rG];omega)]
  rfl
 |x::xs,i,m+1,hd,h1,hm=>by
  obtain ⟨g1,g2,g3⟩:=bC hd;have hq:(i:Int)<(r.length:Int):=by omega
  have cV:i<T.ae.length:=by omega
  have hc:T.ae[i]? =some T.ae[i]:=dJ cV;have hk:=afT hc;generalize T.ae[i]=c at hc hk;have ih:=ayL n0 md T r hr hl xs (i+1) m g2 (by omega) (by simp at hm;omega)
  rw[g2] at ih;have key:∀b:Bool,Mv (G9 (Qy n0) m) m md (i:Int) b r (r.length:Int) (i:Int) T x=if x.ax=c.ax\/b=true\/(¬(i:Int)<T.ay/\x.ax=1/\md=3) then some (kN md T.ay (i+1) ((fL T).drop (i+1)) xs) else some false:=by
   intro b;unfold Mv Qz;simp only[bO,hc,au,bY g3 hl,ih];by_cases he:x.ax=c.ax
   ·simp[he]
   ·by_cases e1:x.ax=1
    ·by_cases m3:md=3
     ·by_cases hk:(i:Int)<T.ay<;>cases b<;>simp[he,e1,m3,hk]<;>(intro hh;exact absurd (e1.trans hh) he)
     ·cases b<;>simp[he,e1,m3]<;>(intro hh;exact absurd (e1.trans hh) he)
    ·cases b<;>simp[he,e1]
  simp only[G9,XU,hq,aU,aB,bO,g1,au,ajb,key];rw[hd,hk];simp only[kN,yq];cases hv:nf x with
  |false=>simp
  |true=>
   simp only[dw,aC,aA,hZ];by_cases he:x.ax=c.ax
   ·by_cases h2:x.ax=2
    ·by_cases m1:md=1<;>simp[he,h2,m1]
    ·by_cases h1:x.ax=1<;>simp[he,h1,h2]
   ·by_cases h2:x.ax=2
    ·have f2:¬(2:Int)=c.ax:=λh=>he (h2.trans h)
     by_cases m1:md=1
     ·subst m1;simp[he,h2,f2]
     ·by_cases hk:(i:Int)<T.ay<;>simp[he,h2,m1,hk,f2]
    ·by_cases h1:x.ax=1
     ·have f1:¬(1:Int)=c.ax:=λh=>he (h1.trans h)
      by_cases m3:md=3<;>by_cases hk:(i:Int)<T.ay<;>simp[he,h1,m3,hk,f1]
     ·simp[he,h1,h2]
 |_,_,0,_,_,hm=>by simp at hm
section
variable {s:ag} {t md:Int} {T:aj} {n:Nat}
def JO (md:Int):Prop:=md=1\/md=2\/md=3
def aMN (hm:JO md) (hT:idx s.ai t=some T) (ht:np T) (r:cE) (hn:1000<n):F66 n s t r md=some (kN md T.ay 0 (fL T) r):=by
 have hc:=ht.cols;have hl:=rG T;have e0:F66 n s t r md=Hq n t r md false s:=by
  rcases hm with rfl|rfl|rfl<;>simp[F66,anj,ajf hT]
 rw[e0];simp only[Hq,aC,aA,hT,au];by_cases h:r.length=T.ae.length
 ·have e:((r.length:Int) !=(T.ae.length:Int))=false:=by simp[h]
  rw[e];simp only[aC,aA];have:=ayL n md T r h (by omega) r 0 n rfl (by omega) (by omega)
  simp only[rS] at this;exact this
 ·have e:((r.length:Int) !=(T.ae.length:Int))=true:=by simp;omega
  rw[e,aBp (by omega)]
  rfl
end
def auj {md key k:Int} (h1:md≠1) (h2:¬(i:Int)<key):yq md key i k ⟨2,0,ByteArray.empty⟩=true:=by
 have:nf ⟨2,0,ByteArray.empty⟩=true:=by simp[nf]
 simp[yq,this,h1,h2]
def att {md key k:Int} (h1:md=3) (h2:¬(i:Int)<key):yq md key i k ⟨1,0,ByteArray.empty⟩=true:=by
 have:nf ⟨1,0,ByteArray.empty⟩=true:=by simp[nf]
 simp[yq,this,h1,h2]
def ayM (md:Int) (ks:aK) (hk:mJ ks=true) (hl:ks.length<=100) (key:Int) (n0:Nat):∀(xs:aK) (i m:Nat) (out:cE) (c:aL),ks.drop i=xs->300+xs.length<m->dk c->kN md key 0 (ks.take i) out=true->
  Ok (C5 (Mx n0) m key md ks (ks.length:Int) (i:Int) c out) λr=>dk r.2/\kN md key 0 ks r.1=true
 | [],i,m+1,out,c,hd,hm,hc,ho=>by
  have:ks.length<=i:=by simpa using hd
  have hq:¬((i:Int)<(ks.length:Int)):=by omega
  simp only[C5,X2,Mx,hq,aX,aC,aA];exact Ok.pure ⟨hc,by rwa[kn this] at ho⟩
 |x::xs,i,m+1,out,c,hd,hm,hc,ho=>by
  obtain ⟨g1,g2,g3⟩:=bC hd;have hq:((i:Int)<(ks.length:Int)):=by omega
  have hx:=aaV hk g1;have hkr:=Cw hx;have hlen:=F6 ho;rw[dZ] at hlen;have htl:(ks.take i).length=i:=by rw[dZ];omega
  simp only[C5,X2,hq,aU,aB,bO,g1,au];simp at hm;have next:∀v c',dk c'->yq md key i x v=true->Ok (yw (C5 (Mx n0) m) m key md ks (ks.length:Int) (i:Int) c' (out++ [v])) λr=>dk r.2/\kN md key 0 ks r.1=true:=by
   intro v c' s8 hv;unfold yw;rw[bY g3 (by omega)]
   refine ayM md ks hk hl key n0 xs (i+1) m _ _ g2 (by omega) s8 ?_
   rw[DO,g1];exact V6 ho (by rw[htl,cC];exact hv)
  have cell:∀c' b,dk c'->(b=true->md=3/\¬(i:Int)<key)->Ok (Da (yw (C5 (Mx n0) m) m) m key md x ks (ks.length:Int) (i:Int) b c' out) λr=>dk r.2/\kN md key 0 ks r.1=true:=by
   intro c' b s8 hb;unfold Da;refine Ok.ite (λh=> ?_) λ_=> ?_
   ·rw[dI _ _ (by simp;omega),au]
    exact next _ _ s8 (att (hb h).1 (hb h).2)
   ·refine Ok.bind (B5 m (by omega) c' x s8 hkr.1 hkr.2) λr ⟨hr,r1,r2⟩=> ?_
    rw[dI _ _ (by simp;omega),au]
    exact next _ _ hr (arp r1 r2)
  refine Ok.ite (λhge=> ?_) λ_=>cell _ _ hc (λh=>by cases h)
  have hge:¬(i:Int)<key:=by simpa using hge
  refine Ok.ite (λh1=> ?_) λ_=> ?_
  ·have h1:md≠1:=by simpa using h1
   refine Ok.bind (tK m c 5 hc) λb hb=> ?_
   refine Ok.ite (λ_=> ?_) λ_=> ?_
   ·rw[dI _ _ (by simp;omega),au]
    exact next _ _ hb (auj h1 hge)
   ·refine Ok.ite (λh3=> ?_) λ_=>cell _ _ hb (λh=>by cases h)
    refine Ok.bind (tK m b.2 5 hb) λd hd=> ?_
    exact cell _ _ hd λ_=>⟨by simpa using h3,hge⟩
  ·refine Ok.ite (λh3=> ?_) λ_=>cell _ _ hc (λh=>by cases h)
   refine Ok.bind (tK m c 5 hc) λd hd=> ?_
   exact cell _ _ hd λ_=>⟨by simpa using h3,hge⟩
 |_,_,0,_,_,_,hm,_,_=>by simp at hm
def aMP (n:Nat) (md:Int) (hn:1000<=n) (c:aL) (ks:aK) (key:Int) (hk:mJ ks=true) (hl:ks.length<=100) (hc:dk c):Ok (F49 n c ks key md) λr=>dk r.2/\kN md key 0 ks r.1=true:=
 ayM md ks hk hl key n ks 0 n [] c rfl (by omega) hc rfl
end
section
def Ci {md key:Int} {T:aj} {r:cE} (h:kN md key 0 (fL T) r=true):r.length=T.ae.length:=by rw[F6 h,rG]
def yi (md:Int) (T:aj):Option cE->bS->Bool
 |_,[]=>true
 |p,r::rs=>kN md T.ay 0 (fL T) r&&(behind T p r&&yi md T (some r) rs)
def zV (md:Int):br->ey->Bool
 |T::Ts,rs::rss=>yi md T none rs&&zV md Ts rss
 |_,_=>true
def OA (md:Int) (s:ag) (e:Int) (ts:ey):Int:=
 if e=0 then (if 512<total ts then 2 else if ts.length=s.ai.length then (if zV md s.ai ts then 0 else 80) else 80) else e
variable {s:ag} {t n:Nat} {T:aj} {md:Int}
def aMO (hmd:JO md) (he:F15 n s=some e):F64 n s md=some e:=by
 unfold F64 anl;rw[he,au];rcases hmd with rfl|rfl|rfl<;>simp<;>omega
def aiv (hmd:JO md) (hT:idx s.ai (t:Int)=some T) (ht:np T) (rows:bS) (hl:rows.length<=2000000) (k:Int->ey->Int->Int->ag->Option Int) (a:ey) (a1 a2:Int):
  ∀(x:bS) (i m:Nat),rows.drop i=x->x.length+1100<m->(i=0\/∃q,rows[i-1]? =some q/\q.length=T.ae.length)->
   Mf k m md (t:Int) rows a a1 a2 rows (rows.length:Int) (i:Int) s=if yi md T (if i=0 then none else rows[i-1]?) x then k md a a1 a2 s else some 80
 | [],i,m+1,hd,hm,_=>by
  have oJ:rows.length<=i:=by simpa using hd
  have hq:¬((i:Int)<(rows.length:Int)):=by omega
  simp only[Mf,Yj,hq,aX,aC,aA,yi,aB]
 |r::x,i,m+1,hd,hm,hp=>by
  obtain ⟨g1,g2,g3⟩:=bC hd;have hq:(i:Int)<(rows.length:Int):=by omega
  simp at hm;simp only[Mf,Yj,hq,aU,aB,bO,g1,au,aMN hmd hT ht r (by omega:1000<m),yi]
  rcases ke (kN md T.ay 0 (fL T) r) with hr|hr
  rotate_left
  ·simp[hr]
  ·have hc:=Ci hr;have h8:=ht.cols;have ih:=aiv hmd hT ht rows hl k a a1 a2 x (i+1) m g2 (by omega) (.inr ⟨r,by rw[Nat.add_sub_cancel];exact g1,hc⟩)
   rw[aM (by omega:¬i+1=0),Nat.add_sub_cancel,g1] at ih
   simp only[hr,dw,aC,aA,hZ,bY g3 (by omega:rows.length<4294967296),ih]
   by_cases h0:i=0
   ·subst h0;simp[behind]
   ·obtain ⟨q,hg,hql⟩:=hp.resolve_left h0;have h0':0<(i:Int):=by omega
    have hw:bl ((i:Int)-1)=((i-1:Nat):Int):=by rw[dv (by omega) (by omega)];omega
    simp only[h0',aU,aB,hw,bO,hg,au,h0,aA,asa hT ht q hql,asa hT ht r hc,ade m (q.take T.ay.toNat) (r.take T.ay.toNat) (by simp;omega) (by simp;omega),behind]
    by_cases h5:eT (q.take T.ay.toNat) (r.take T.ay.toNat)<0
    ·simp[h5]
    ·simp[h5]
 |_,_,0,_,hm,_=>by simp at hm
def aiu (hmd:JO md) (hs:SOK s) (n0:Nat) (ts:ey) (hlen:ts.length=s.ai.length) (hl:total ts<=512):
  ∀(x:ey) (i m:Nat),ts.drop i=x->x.length+2000<m->
   Hg (QK n0) m md ts (ts.length:Int) (i:Int) s=some (if zV md (s.ai.drop i) x then 0 else 80)
 | [],i,m+1,hd,hm=>by
  have oJ:ts.length<=i:=by simpa using hd
  have hq:¬((i:Int)<(ts.length:Int)):=by omega
  simp only[Hg,Yh,QK,hq,aX,aC,aA];cases s.ai.drop i<;>simp[zV]
 |rs::x,i,m+1,hd,hm=>by
  obtain ⟨g1,g2,g3⟩:=bC hd;have hq:(i:Int)<(ts.length:Int):=by omega
  have h8:=hs.len;have I2:=anT (cN g1);simp at hm;have hi:i<s.ai.length:=by omega
  have hT:idx s.ai (i:Int)=some (s.ai[i]):=by rw[bO];exact dJ _
  have ih:=aiu hmd hs n0 ts hlen hl x (i+1) m g2 (by omega)
  simp only[Hg,Yh,hq,aU,aB,bO,g1,au];have e:=aiv hmd hT (hs.cy _ _ hT) rs (by omega) (Yi (Hg (QK n0) m) m) ts (ts.length:Int) (i:Int) rs 0 m rfl (by omega) (.inl rfl)
  rw[aH rfl,show ((0:Nat):Int)=0 from rfl] at e;rw[e,qE hi];simp only[Yi,bY g3 (by omega:ts.length<4294967296),ih,zV]
  rcases ke (yi md s.ai[i] none rs) with hb|hb<;>simp[hb]
 |_,_,0,_,hm=>by simp at hm
def arR (k:Int->Option Int) (ts:ey) (hl:ts.length+total ts<=2000000):∀(x:ey) (i m a:Nat),ts.drop i=x->x.length<m->a+total x<=2000000->L7 k m (a:Int) ts (ts.length:Int) (i:Int)=k ((a+total x:Nat):Int)
 | [],i,m+1,a,hd,hm,ha=>by
  have oJ:ts.length<=i:=by simpa using hd
  have hq:¬((i:Int)<(ts.length:Int)):=by omega
  simp only[L7,XW,hq,aX,aC,aA,total,mZ]
 |rs::x,i,m+1,a,hd,hm,ha=>by
  obtain ⟨g1,g2,g3⟩:=bC hd;have hq:(i:Int)<(ts.length:Int):=by omega
  simp at hm;simp only[total] at ha;have hw:bl ((a:Int)+(rs.length:Int))=((a+rs.length:Nat):Int):=by rw[dv (by omega) (by omega)];omega
  simp only[L7,XW,hq,aU,aB,bO,g1,au,bY g3 (by omega:ts.length<4294967296),hw]
  rw[arR k ts hl x (i+1) m (a+rs.length) g2 (by omega) (by omega)]
  simp only[total,fU]
 |_,_,0,_,_,hm,_=>by simp at hm
def aMQ (hmd:JO md) (n:Nat) (s:ag) (e:Int) (he:F15 n s=some e) (hs:e=0->SOK s) (st:aW) (hl:st.ai.length+total st.ai<=2000000) (hn:2000100<=n):F26 n s md st=some (OA md s e st.ai):=by
 unfold F26 anA OA;rw[aMO hmd he,au];by_cases h0:e=0
 ·subst h0;have h57:=arR (XV n) st.ai hl st.ai 0 n 0 rfl (by omega) (by omega)
  simp only[jN,aC,aA,aB,au,F65,ank,show ((0:Nat):Int)=0 from rfl,cC] at h57 ⊢;rw[h57];simp only[XV,au];by_cases h1:512<total st.ai
  ·have td:(512:Int)<(total st.ai:Int):=by omega
   simp only[h1,td,aU,aB]
  ·have td:¬(512:Int)<(total st.ai:Int):=by omega
   simp only[h1,td,aX,aC,aA];by_cases h2:st.ai.length=s.ai.length
   ·have EK:((st.ai.length:Int) !=(s.ai.length:Int))=false:=by simp[h2]
    rw[EK,aH h2,aM (by simp)]
    have h8:=(hs rfl).len;have:=aiu hmd (hs rfl) n st.ai h2 (by omega) st.ai 0 n rfl (by omega)
    rw[rS,show ((0:Nat):Int)=0 from rfl] at this;exact this
   ·have EK:((st.ai.length:Int) !=(s.ai.length:Int))=true:=by simp;omega
    simp only[EK,aB,h2,aA]
 ·have:(e !=0)=true:=by simpa using h0
  simp[this,h0]
end
section
def jg (T:aj) (key row:cE):Bool->bS->bS
 |done,[]=>if done=true then [] else [row]
 |done,r::x=>if eT (lB T r) key<0 then r::jg T key row done x else (if done=true then [] else [row])++(if eT (lB T r) key=0 then [] else [r])++jg T key row true x
section
variable {s:ag} {t n:Nat} {T:aj} {md:Int} {ts:rQ} {rows:bS} {key row:cE}
def ahm:∀{x:bS},(∀y∈x,lt key (lB T y))->jg T key row true x=x
 | [],_=>rfl
 |r::x,h=>by
  have h1:=h r (by simp)
  have h2:¬eT (lB T r) key<0:=λh=>lt_asymm h1 (Lh.1 h)
  have h3:¬eT (lB T r) key=0:=λe=>by rw[Ee e] at h1;exact lt_irrefl _ h1
  have ih:=ahm (x:=x) λy hy=>h y (by simp[hy])
  simp only[jg,h2,h3,aA,aB,jV,Sr,ih]
def ahn:∀{done:Bool} {x:bS},Ord T x->jg T key row done x=wh T key (if done=true then [] else [row]) x
 |done,[],_=>by simp[jg,wh]
 |done,r::x,h=>by
  obtain ⟨h1,h2⟩:=vY.1 h;by_cases hl:eT (lB T r) key<0
  ·have xg:=Lh.1 hl;have e1:decide (lt (lB T r) key)=true:=by simpa using xg
   have e2:decide (lt key (lB T r))=false:=by simpa using lt_asymm xg
   have ih:=ahn (done:=done) h2;simp only[jg,hl,aB,ih,wh,mz,e1,e2,aC,aA,yy]
  ·have xg:¬lt (lB T r) key:=λh=>hl (Lh.2 h)
   have gt:∀y∈x,lt key (lB T y):=λy hy=>by
    rcases aaO (lB T r) key with h|h|h
    ·exact absurd h xg
    ·rw[<-h];exact h1 y hy
    ·exact lt_trans h (h1 y hy)
   have e1:decide (lt (lB T r) key)=false:=by simpa using xg
   have e3:x.filter (λr=>decide (lt (lB T r) key))= []:=filter_none λy hy=>by simpa using lt_asymm (gt y hy)
   have e4:x.filter (λr=>decide (lt key (lB T r)))=x:=filter_all λy hy=>by simpa using gt y hy
   simp only[jg,hl,aA,ahm gt,wh,mz,e1,e3,e4,aC,jV];by_cases h0:eT (lB T r) key=0
   ·have e5:decide (lt key (lB T r))=false:=by
     rw[Ee h0];simpa using lt_irrefl key
    simp only[h0,aB,e5,aC,aA,tM]
   ·have e5:decide (lt key (lB T r))=true:=by
     rcases aaO (lB T r) key with h|h|h
     ·exact absurd h xg
     ·exact absurd (afI.2 h) h0
     ·simpa using h
    simp only[h0,aA,e5,aB,lu,Sr]
def MX {T:aj} (k:cE):∀rows:bS,(rows.filter λr=>decide (lt (lB T r) k)).length+(rows.filter λr=>decide (lt k (lB T r))).length<=rows.length
 | []=>by simp
 |r::rows=>by
  have ih:=MX (T:=T) k rows;rw[mz,mz];by_cases h1:lt (lB T r) k
  ·have h2:¬lt k (lB T r):=lt_asymm h1;simp only[h1,h2,aU,aX,aB,aC,aA,kq];omega
  ·by_cases h2:lt k (lB T r)
   ·simp only[h1,h2,aU,aX,aB,aC,aA,kq];omega
   ·simp only[h1,h2,aX,aC,aA,kq];omega
def atg {T:aj} (k:cE) (N rows:bS):(wh T k N rows).length<=rows.length+N.length:=by
 have:=MX (T:=T) k rows;unfold wh;simp only[gD];omega
def Vs (n0:Nat) (hT:s.ai[t]? =some T) (ht:np T) (EF:key.length<=100) (GA:row.length<=100) (hr:∀r∈rows,r.length=T.ae.length) (I2:rows.length<=1000) (mP:t<ts.length):∀(x:bS) (i m:Nat) (done:Bool) (out:bS) (z1 z2:aW),rows.drop i=x->x.length+1100<m->out.length+2*x.length<=100000->
  Hb (QC n0) m (t:Int) key row done rows (rows.length:Int) (i:Int) ts s z1 z2 out=some (⟨ts.set t (out++jg T key row done x)⟩,ts.set t (out++jg T key row done x))
 | [],i,m+1,done,out,z1,z2,hd,hm,ho=>by
  have oJ:rows.length<=i:=by simpa using hd
  have hq:¬((i:Int)<(rows.length:Int)):=by omega
  have e1:eZ ts.length (t:Int)=some t:=by unfold eZ;rw[aH (by omega)];rfl
  have e2:ts[0+t]? =some ts[t]:=by rw[cC];exact dJ mP
  have e3:∀o,setAt ts (0+t) o=some (ts.set t o):=λo=>by rw[cC];unfold setAt;rw[aH mP]
  simp only[Hb,XZ,QC,XY,hq,aX,aC,aA,e1,e2,e3,au,VG (n:=n0) row (by omega),jg]
  cases done with
  |true=>simp
  |false=>
   simp only[gM,aB,aC,aA];rw[dI _ _ (by simp at ho ⊢;omega),au]
 |r::x,i,m+1,done,out,z1,z2,hd,hm,ho=>by
  obtain ⟨g1,g2,g3⟩:=bC hd;have hq:(i:Int)<(rows.length:Int):=by omega
  have Bp:=hr r (cN g1);have eA:=ht.cols;have yT:=ht.jL;simp at hm ho;have hTi:idx s.ai (t:Int)=some T:=by rw[bO];exact hT
  have step:∀(dn:Bool) (c:Int) (aax:bS),aax.length<=out.length+1->Mw (Hb (QC n0) m) m (t:Int) key row dn r c rows (rows.length:Int) (i:Int) ts s ⟨ts⟩ ⟨[]⟩ aax=some (⟨ts.set t (aax++(if c=0 then [] else [r])++jg T key row dn x)⟩,ts.set t (aax++(if c=0 then [] else [r])++jg T key row dn x)):=by
   intro dn c aax h1;unfold Mw;rw[bY g3 (by omega)]
   by_cases hc:c=0
   ·subst hc;simp only[jN,aC,aA,aB,tM];exact Vs n0 hT ht EF GA hr I2 mP x (i+1) m dn _ _ _ g2 (by omega) (by omega)
   ·have s8:(c !=0)=true:=by simpa using hc
    simp only[s8,aB,hc,aA];rw[dI _ _ (by simp;omega),au]
    exact Vs n0 hT ht EF GA hr I2 mP x (i+1) m dn _ _ _ g2 (by omega) (by simp;omega)
  simp only[Hb,XZ,hq,aU,aB,bO,g1,au,asc (n:=m) hTi ht r Bp,aJc m (r.take T.ay.toNat) key (by simp;omega) (by simp;omega),VG (n:=m) row (by omega),jg]
  by_cases hl:eT (lB T r) key<0
  ·have h0:¬eT (lB T r) key=0:=by omega
   simp only[hl,aU,dw,aC,aA,aB];rw[step done _ out (by omega)]
   simp only[h0,aA,lu,Sr]
  ·simp only[hl,aX,gM,aB,aA];cases done with
   |true=>
    simp only[dw,aC,aA,aB,jV];rw[step true _ out (by omega)]
    simp only[lu]
   |false=>
    simp only[gM,aB,aC,aA];rw[dI _ _ (by simp;omega),au,step true _ _ (by simp)]
    simp only[lu]
 |_,_,0,_,_,_,_,_,hm,_=>by simp at hm
def IE (row:cE):bS:=if row= [] then [] else [row]
def aCp (hT:s.ai[t]? =some T) (ht:np T) (EF:key.length<=100) (GA:row.length<=100) (l5:ts[t]? =some rows) (hr:∀r∈rows,r.length=T.ae.length) (I2:rows.length<=1000) (hO:Ord T rows) (hn:3000<n):
  F51 n s ⟨ts⟩ (t:Int) key row=some (⟨ts.set t (wh T key (IE row) rows)⟩,ts.set t (wh T key (IE row) rows)):=by
 have mP:t<ts.length:=(cf.1 l5).1;have e1:eZ ts.length (t:Int)=some t:=by unfold eZ;rw[aH (by omega)];rfl
 unfold F51 anq;simp only[e1,au,cC,l5];have h:=Vs (key:=key) n hT ht EF GA hr I2 mP rows 0 n ((row.length:Int)==0) [] ⟨ts⟩ ⟨[]⟩ rfl (by omega) (by simp;omega)
 rw[show ((0:Nat):Int)=0 from rfl,jV,ahn hO] at h;rw[h,len0];have:(if row.isEmpty=true then [] else [row])=IE row:=by unfold IE;cases row<;>simp
 rw[this]
end
structure StM (md:Int) (s:ag) (ts:rQ):Prop where
 len:ts.length=s.ai.length
 row:∀(t:Nat) T rows,s.ai[t]? =some T->ts[t]? =some rows->(∀r∈rows,kN md T.ay 0 (fL T) r=true)/\Ord T rows
structure StG (md:Int) (s:ag) (ts:rQ):Prop where
 len:ts.length=s.ai.length
 row:∀(t:Nat) T rows,s.ai[t]? =some T->ts[t]? =some rows->rows.length<=8/\∀r∈rows,kN md T.ay 0 (fL T) r=true
 ord:∀(t:Nat) T rows,s.ai[t]? =some T->ts[t]? =some rows->Ord T rows
def StG.m {md:Int} {s:ag} {ts:rQ} (h:StG md s ts):StM md s ts:=⟨h.len,λt T rows hT hr=>⟨(h.row t T rows hT hr).2,h.ord t T rows hT hr⟩⟩
def aix (md:Int) (k:Int->Int->Int->aL->ag->aW->aW->ey->Option (aW×aL)) (s:ag) (t:Nat) (T:aj) (hT:s.ai[t]? =some T) (ht:np T) (a1 a2:Int) (Q:aW×aL->Prop):∀(j m:Nat) (c:aL) (z1 z2:aW) (ts:ey) (rows:bS),4000+j<m->dk c->ts[t]? =some rows->rows.length+j<=8->(∀r∈rows,kN md T.ay 0 (fL T) r=true)->Ord T rows->
  (∀c' z1' z2' Ch,dk c'->Ch.length<=8->(∀r∈Ch,kN md T.ay 0 (fL T) r=true)->Ord T Ch->Ok (k md a1 a2 c' s z1' z2' (ts.set t Ch)) Q)->
  Ok (Mh k m md (t:Int) (j:Int) a1 a2 c s z1 z2 ts) Q
 |0,m+1,c,z1,z2,ts,rows,hm,hc,hg,hl,hr,hO,hk=>by
  have hq:¬(0:Int)<((0:Nat):Int):=by omega
  simp only[Mh,Yo,hq,aX,aC,aA];have:=hk c ⟨[]⟩ ⟨ts⟩ rows hc (by omega) hr hO
  have e:ts.set t rows=ts:=by
   obtain ⟨h1,h2⟩:=cf.1 hg;rw[<-h2];exact Su h1
  rwa[e] at this
 |j+1,m+1,c,z1,z2,ts,rows,hm,hc,hg,hl,hr,hO,hk=>by
  have hq:(0:Int)<((j+1:Nat):Int):=by omega
  have hTi:idx s.ai (t:Int)=some T:=by rw[bO];exact hT
  have eA:=ht.cols;have EF:=rG T;simp only[Mh,Yo,hq,aU,aB,adh hTi (by omega) (by omega:1000<m),au,hTi]
  refine Ok.bind (aMP m md (by omega) c (fL T) T.ay ht.ks (by omega) hc) λr ⟨h1,h2⟩=> ?_
  have Bp:=Ci h2;have k1:=ht.Dn;have k2:=ht.jL;rw[asc (n:=m) hTi ht r.1 Bp,au];rw[aCp (n:=m) hT ht (by simp;omega) (by omega) hg (λy hy=>Ci (hr y hy)) (by omega) hO (by omega),au]
  have cY:r.1≠ []:=λe=>by rw[e] at Bp;simp at Bp;omega
  have e1:IE r.1= [r.1]:=by unfold IE;rw[aM cY]
  rw[e1];have q2:=atg (T:=T) (lB T r.1) [r.1] rows;have q4:=ate (T:=T) hO (.inr ⟨r.1,rfl,rfl⟩: [r.1]= []\/∃y,[r.1]= [y]/\lB T y=lB T r.1);have q3:∀y∈wh T (lB T r.1) [r.1] rows,kN md T.ay 0 (fL T) y=true:=λy hy=>by
   rcases atf.1 hy with h|h
   ·exact hr y h.1
   ·rw[ez.1 h];exact h2
  generalize wh T (lB T r.1) [r.1] rows=Ch at q2 q3 q4;simp at q2;have hw:bl (((j+1:Nat):Int)-1)=(j:Int):=by rw[dv (by omega) (by omega)];omega
  rw[hw];have mP:t<ts.length:=(cf.1 hg).1;refine aix md k s t T hT ht a1 a2 Q j m r.2 _ _ (ts.set t Ch) Ch (by omega) h1 (by rw[pr mP]) (by omega) q3 q4 λc' z1' z2' aEu k1 k2 k3 k4=> ?_
  rw[vz];exact hk c' z1' z2' aEu k1 k2 k3 k4
 |_,0,_,_,_,_,_,hm,_,_,_,_,_,_=>by omega
def aiw (md:Int) (n0:Nat) (s:ag) (hs:SOK s):∀(x:br) (i m:Nat) (c:aL) (z1 z2:aW) (ts:ey),s.ai.drop i=x->4100+x.length<m->dk c->StG md s ts->(∀t,i<=t->t<ts.length->ts[t]? =some [])->
  Ok (Hh (QT n0) m md (s.ai.length:Int) (i:Int) c s z1 z2 ts) λr=>dk r.2/\StG md s r.1.ai
 | [],i,m+1,c,z1,z2,ts,hd,hm,hc,mP,h0=>by
  have:s.ai.length<=i:=by simpa using hd
  have hq:¬((i:Int)<(s.ai.length:Int)):=by omega
  simp only[Hh,Ym,QT,hq,aX,aC,aA];exact Ok.pure ⟨hc,mP⟩
 |T::x,i,m+1,c,z1,z2,ts,hd,hm,hc,mP,h0=>by
  obtain ⟨g1,g2,g3⟩:=bC hd;have hq:(i:Int)<(s.ai.length:Int):=by omega
  have hl8:=hs.len;have ht:=hs.cy (i:Int) T (by rw[bO];exact g1)
  simp at hm;simp only[Hh,Ym,hq,aU,aB];refine Ok.bind (j7 m c 5 hc) λr ⟨hr,r0,r1,_⟩=> ?_
  have r1:=r1 (by omega)
  have e:r.1=((r.1.toNat:Nat):Int):=by omega
  rw[e];refine aix md (Yn (Hh (QT n0) m) m) s i T g1 ht _ _ _ r.1.toNat m r.2 _ _ ts [] (by omega) hr (h0 i (dg _) (by rw[mP.len];omega)) (by simp;omega) (by simp) (by simp[Ord]) λc' z1' z2' Ch k1 k2 k3 k4=> ?_
  unfold Yn;rw[bY g3 (by omega)]
  refine aiw md n0 s hs x (i+1) m c' _ _ _ g2 (by omega) k1 ⟨by rw[mY];exact mP.len,λt T' rows EJ l5=> ?_,λt T' rows EJ l5=> ?_⟩ λt h1 h2=> ?_
  ·by_cases hti:t=i
   ·subst hti;rw[g1] at EJ;cases EJ;rw[pr (by rw[mP.len];omega)] at l5
    cases l5;exact ⟨k2,k3⟩
   ·rw[xp (λe=>hti e.symm)] at l5
    exact mP.row t T' rows EJ l5
  ·by_cases hti:t=i
   ·subst hti;rw[g1] at EJ;cases EJ;rw[pr (by rw[mP.len];omega)] at l5
    cases l5;exact k4
   ·rw[xp (λe=>hti e.symm)] at l5
    exact mP.ord t T' rows EJ l5
  ·rw[xp (by omega)]
   rw[mY] at h2;exact h0 t (by omega) h2
 |_,_,0,_,_,_,_,_,hm,_,_,_=>by omega
def aMR (md:Int) (n:Nat) (hn:5000<=n) (s:ag) (hs:SOK s) (c:aL) (hc:dk c):Ok (F19 n c s md) λr=>dk r.2/\StG md s r.1.ai:=by
 have hl8:=hs.len;have e:rz (s.ai.length:Int) ([]:bS)=some (List.replicate s.ai.length []):=by
  unfold rz;rw[aH (by omega)];rfl
 unfold F19 anD;rw[e,au];refine aiw md n s hs s.ai 0 n c _ _ _ rfl (by omega) hc ⟨by simp,λt T rows hT l5=> ?_,λt T rows hT l5=> ?_⟩ λt _ h=> ?_
 ·obtain ⟨h1,h2⟩:=cf.1 l5;simp at h2;subst h2;simp
 ·obtain ⟨h1,h2⟩:=cf.1 l5;simp at h2;subst h2;simp[Ord]
 ·rw[tQ] at h;simp[h]
end
def rK (m:aF) (t:Int):Int:=if m.bh=7 then (if t=m.aG then -1 else if m.aG<t then t-1 else t) else t
def mvC (i a b:Int):Int:=if i=a then b else if a<i/\i<=b then i-1 else if b<=i/\i<a then i+1 else i
def iX (m:aF) (t c:Int):Int:=
 if m.bh=7 then (if t=m.aG then -1 else c)
 else if m.bh=2 then (if t=m.aG/\0<=c then (if c=m.aO then -1 else if m.aO<c then c-1 else c) else c)
 else if m.bh=3 then (if t=m.aG/\0<=c then mvC c m.aO m.eJ else c) else c
def oM (m:aF) (t c:Int):Bool:= !(decide (m.bh=7/\t=m.aG)||decide (m.bh=2/\t=m.aG/\0<=c/\c=m.aO))
def aCM (n:Nat) (m:aF) (hm:lZ m.aO) (t c:Int) (h0:0<=t) (h1:t<=1000) (h2: -1<=c) (h3:c<=1000):VF n m t c=some (rK m t,iX m t c,oM m t c):=by
 have w:∀x:Int,0<=x->x<=1000->bl (x-1)=x-1:=λx a b=>dv (by omega) (by omega)
 unfold VF R9 rK iX oM;by_cases e7:m.bh=7
 ·simp only[e7,im,aB];by_cases et:t=m.aG
  ·simp[et]
  ·have et':(t==m.aG)=false:=by simpa using et
   simp only[et',aC,aA,et];by_cases hl:m.aG<t
   ·simp[hl,w t h0 h1]
   ·simp[hl]
 ·have e7':(m.bh==7)=false:=by simpa using e7
  simp only[e7',aC,aA,e7];by_cases e2:m.bh=2
  ·simp only[e2,im,aB];by_cases et:t=m.aG
   ·have et':(t==m.aG)=true:=by simpa using et
    simp only[et',aB];by_cases hc:c<0
    ·have:¬0<=c:=by omega
     simp[hc,et,this]
    ·have vS:0<=c:=by omega
     simp only[hc,aX,gM,aB];by_cases ec:c=m.aO
     ·have:0<=m.aO:=by omega
      simp[et,ec,this]
     ·have ec':(c==m.aO)=false:=by simpa using ec
      simp only[ec',aC,aA];by_cases hl:m.aO<c
      ·simp[hl,et,vS,ec,w c vS h3]
      ·simp[hl,et,vS,ec]
   ·have et':(t==m.aG)=false:=by simpa using et
    simp[et',et]
  ·have Ju:(m.bh==2)=false:=by simpa using e2
   simp only[Ju,aC,aA,e2];by_cases e3:m.bh=3
   ·simp only[e3,im,aB];by_cases et:t=m.aG
    ·have et':(t==m.aG)=true:=by simpa using et
     simp only[et',aB];by_cases hc:c<0
     ·have:¬0<=c:=by omega
      simp[hc,et,this]
     ·have vS:0<=c:=by omega
      simp only[hc,aX,gM,aB];rw[aiW n c m.aO m.eJ ⟨by omega,by omega⟩ hm,au]
      simp[et,vS,mvC]
    ·have et':(t==m.aG)=false:=by simpa using et
     simp[et',et]
   ·have e3':(m.bh==3)=false:=by simpa using e3
    simp[e3',e3]
def Z9 {l:List J} {j a:Nat} {U T:J} (h:l[a]? =some T):(l.set j U)[a]? =some (if a=j then U else T):=by
 have hl:=(cf.1 h).1;by_cases e:a=j
 ·subst e;rw[pr hl,aH rfl]
 ·rw[xp (DK e),h,aM e]
def ld.fol {s t':ag} {m:aF} (h:ld s m t') {a:Nat} {c:Int} {T:aj} (hT:s.ai[a]? =some T) (h0: -1<=c) (h1:c<(T.ae.length:Int)):(m.bh=7/\(a:Int)=m.aG)\/
  ((m.bh=7->(a:Int)≠m.aG)/\∃(a':Nat) (T':aj),rK m (a:Int)=(a':Int)/\t'.ai[a']? =some T'/\ -1<=iX m a c/\iX m a c<(T'.ae.length:Int)/\(0<=c->oM m a c=true->0<=iX m a c)/\(oM m a c=false->jw m.aD=true/\iX m a c= -1)):=by
 have keep:∀(U:aj) (j:Nat) (ts:br),m.bh≠7->m.bh≠2->m.bh≠3->(a=j->T.ae.length<=U.ae.length)->ts=s.ai.set j U->(m.bh=7->(a:Int)≠m.aG)/\∃(a':Nat) (T':aj),rK m (a:Int)=(a':Int)/\ts[a']? =some T'/\ -1<=iX m a c/\iX m a c<(T'.ae.length:Int)/\(0<=c->oM m a c=true->0<=iX m a c)/\(oM m a c=false->jw m.aD=true/\iX m a c= -1):=by
  intro U j ts n7 n2 n3 hU e;subst e;refine ⟨λh=>absurd h n7,a,_,by simp[rK,n7],Z9 hT,by simpa[iX,n7,n2,n3] using h0,?_,λhc _=>by simpa[iX,n7,n2,n3] using hc,λh=>by simp[oM,n7,n2] at h⟩
  have e:iX m a c=c:=by simp[iX,n7,n2,n3]
  rw[e];split
  ·rename_i e;have:=hU e;omega
  ·exact h1
 cases h with
 |alY j T0 h hj xk hv hk=>
  refine .inr (keep _ j _ (by omega) (by omega) (by omega) (λe=> ?_) rfl)
  subst e;rw[hT] at xk;cases xk;simp
 |aka j c0 T0 x h hj xk hc hx=>
  refine .inr (keep _ j _ (by omega) (by omega) (by omega) (λe=> ?_) rfl)
  subst e;rw[hT] at xk;cases xk;simp
 |ajX j T0 h hj xk=>
  refine .inr (keep _ j _ (by omega) (by omega) (by omega) (λe=> ?_) rfl)
  subst e;rw[hT] at xk;cases xk;simp
 |Ed j c0 T0 x h hj xk hc hx hk hp hu=>
  refine .inr (keep T a _ (by omega) (by omega) (by omega) (λ_=>dg _) ?_)
  obtain ⟨q1,q2⟩:=cf.1 hT;show s.ai=s.ai.set a T;rw[<-q2];exact (Su q1).symm
 |alX h=>
  have n7:m.bh≠7:=by omega
  have n2:m.bh≠2:=by omega
  have n3:m.bh≠3:=by omega
  have e:iX m a c=c:=by simp[iX,n7,n2,n3]
  refine .inr ⟨λh=>absurd h n7,a,T,by simp[rK,n7],?_,by rw[e];exact h0,by rw[e];exact h1,λhc _=>by rw[e];exact hc,λh=>by simp[oM,n7,n2] at h⟩
  show (s.ai++ [m.ar])[a]? =some T;rw[pD (cf.1 hT).1,hT]
 |Xr j T0 h hj xk hr=>
  by_cases e:(a:Int)=m.aG
  ·exact .inl ⟨h,e⟩
  ·have ne:a≠j:=λh=>e (by rw[h,hj])
   have ec:iX m a c=c:=by simp[iX,h,e]
   have vR:=(cf.1 xk).1;have fin:∀a':Nat,(s.ai.take j++s.ai.drop (j+1))[a']? =some T->rK m (a:Int)=(a':Int)->((m.bh=7->(a:Int)≠m.aG)/\∃(a':Nat) (T':aj),rK m (a:Int)=(a':Int)/\((s.ai.take j++s.ai.drop (j+1)).map (l7 (j:Int)))[a']? =some T'/\ -1<=iX m a c/\iX m a c<(T'.ae.length:Int)/\(0<=c->oM m a c=true->0<=iX m a c)/\(oM m a c=false->jw m.aD=true/\iX m a c= -1)):=λa' ha' hf=>
    ⟨λ_=>e,a',l7 (j:Int) T,hf,by rw[mH,ha'];rfl,by rw[ec];exact h0,by rw[ec];exact h1,λhc _=>by rw[ec];exact hc,λhs=>by simp[oM,h,e] at hs⟩
   right;by_cases hl:j<a
   ·refine fin (a-1) ?_ ?_
    ·rw[nP (by rw[dZ];omega),dZ,fE (by omega),fc,show j+1+(a-1-j)=a by omega,hT]
    ·have:m.aG<(a:Int):=by omega
     simp only[rK,h,e,this,aB,aA];omega
   ·refine fin a ?_ ?_
    ·rw[pD (by rw[dZ];omega),fa,aH (by omega),hT]
    ·have:¬m.aG<(a:Int):=by omega
     simp[rK,h,e,this]
 |Xs j c0 T0 x h hj xk hc hx hk hv Bs hu=>
  have n7:m.bh≠7:=by omega
  refine .inr ⟨λh=>absurd h n7,a,_,by simp[rK,n7],Z9 hT,?_⟩
  by_cases e:a=j
  ·subst e;rw[hT] at xk;cases xk;have hl:c0<T.ae.length:=(cf.1 hx).1;have et:(a:Int)=m.aG:=hj.symm;rw[aH rfl];have hlen:((qT (fu (c0:Int) (-1)) ⟨T.av,T.ae.take c0++T.ae.drop (c0+1),T.ay,T.af,T.ak⟩).ae.length:Int)=(T.ae.length:Int)-1:=by
    show ((T.ae.take c0++T.ae.drop (c0+1)).length:Int)=_;rw[gD,dZ,iE];omega
   rw[hlen];by_cases vS:0<=c
   ·have ec:iX m a c=if c=m.aO then -1 else if m.aO<c then c-1 else c:=by simp[iX,h,et,vS]
    have es:oM m a c= !decide (c=m.aO):=by simp[oM,h,et,vS]
    rw[ec,es,hc];by_cases q:c=(c0:Int)
    ·simp[q,hv];omega
    ·simp only[q,aA,aX,gM];refine ⟨?_,?_,λ_ _=> ?_,λh=>by cases h⟩<;>split<;>omega
   ·have ec:iX m a c=c:=by simp[iX,h,et,vS]
    have es:oM m a c=true:=by simp[oM,h,vS]
    rw[ec,es];exact ⟨h0,by omega,λh=>absurd h vS,λh=>by cases h⟩
  ·rw[aM e];have et:¬(a:Int)=m.aG:=by omega
   have ec:iX m a c=c:=by simp[iX,h,et]
   have es:oM m a c=true:=by simp[oM,h,et]
   rw[ec,es];exact ⟨h0,h1,λh _=>h,λh=>by cases h⟩
 |move j c0 d T0 h hj xk hc hd k1 k2 hk yT=>
  have n7:m.bh≠7:=by omega
  have n2:m.bh≠2:=by omega
  have es:oM m a c=true:=by simp[oM,h]
  refine .inr ⟨λh=>absurd h n7,a,_,by simp[rK,n7],Z9 hT,?_⟩
  rw[es];by_cases e:a=j
  ·subst e;rw[hT] at xk;cases xk;rw[aH rfl];have et:(a:Int)=m.aG:=hj.symm;have hlen:((qT (fu (c0:Int) (d:Int)) ⟨T.av,uo T.ae c0 d,T.ay,T.af,T.ak⟩).ae.length:Int)=(T.ae.length:Int):=by
    show ((uo T.ae c0 d).length:Int)=_;rw[El k1 k2]
   rw[hlen];by_cases vS:0<=c
   ·have ec:iX m a c=mvC c c0 d:=by simp[iX,h,et,vS,hc,hd]
    rw[ec];unfold mvC;refine ⟨?_,?_,λ_ _=> ?_,λh=>by cases h⟩<;>(split<;>first|omega|(split<;>first|omega|(split<;>omega)))
   ·have ec:iX m a c=c:=by simp[iX,h,et,vS]
    rw[ec];exact ⟨h0,h1,λh=>absurd h vS,λh=>by cases h⟩
  ·rw[aM e];have et:¬(a:Int)=m.aG:=by omega
   have ec:iX m a c=c:=by simp[iX,h,et]
   rw[ec];exact ⟨h0,h1,λh _=>h,λh=>by cases h⟩
def Hj (l:gz):Prop:=l.length<=1000/\∀p∈l,p.f0.ax=p.f1.ax
def aiA (n0:Nat) (l:gz) (hl:Hj l) (v z:aR):∀(x:gz) (i k:Nat),l.drop i=x->x.length<k->Ok (Ff (Rl n0) k 1 l (l.length:Int) (i:Int) v z) λr=>r.ax=v.ax
 | [],i,k+1,hd,hk=>by
  have hq:¬((i:Int)<(l.length:Int)):=by
   have:l.length<=i:=by simpa using hd
   omega
  simp only[Ff,Rm,hq,aX,aC,aA,Rl];exact Ok.pure rfl
 |p::x,i,k+1,hd,hk=>by
  obtain ⟨g1,g2,g3⟩:=bC hd;have hq:(i:Int)<(l.length:Int):=by omega
  have xg:=hl.1;simp at hk;simp only[Ff,Rm,hq,aU,aB,bO,g1,au];have e10:((1:Int)==0)=false:=rfl;have e11:((1:Int)==1)=true:=rfl;simp only[e10,e11,aC,aA,aB];unfold Rn;have w0:bl (1-1)=0:=dv (by omega) (by omega)
  rw[w0,bY g3 (by omega)]
  refine Ok.ite (λhe=> ?_) λ_=>aiA n0 l hl v z x (i+1) k g2 (by omega)
  have e00:((0:Int)==0)=true:=rfl;simp only[e00,aB];refine Ok.pure ?_;rw[hl.2 p (cN g1)];simp only[bF,tP] at he;exact he.1
 |_,_,0,_,hk=>by omega
def aCw (n:Nat) (l:gz) (hl:Hj l) (v:aR) (hn:2000<n):Ok (avN n l v 1) λr=>r.ax=v.ax:=
 aiA n l hl v _ l 0 n rfl (by have:=hl.1;omega)
def aiC (n0:Nat) (p:ep) (hp:∀l∈p.gY,Hj l) (hl:p.gY.length<=1000) (z:aR):∀(i k:Nat) (v:aR),i<=p.gY.length->i+2100<k->Ok (Fy (Sa n0) k ((i:Int)-1) p v z) λr=>r.ax=v.ax
 |0,k+1,v,_,_=>by
  have hq:(((0:Nat):Int)-1)<0:=by omega
  simp only[Fy,Sb,hq,aU,dw,aC,aA,Sa];exact Ok.pure rfl
 |i+1,k+1,v,hi,hk=>by
  have e:(((i+1:Nat):Int)-1)=(i:Int):=by omega
  rw[e];have hq:¬((i:Int)<0):=by omega
  have hg:p.gY[i]? =some p.gY[i]:=dJ (by omega)
  simp only[Fy,Sb,hq,aX,gM,aB,bO,hg,au];refine Ok.bind (aCw k _ (hp _ (rT _)) v (by omega)) λr hr=> ?_
  rw[dv (by omega) (by omega)]
  exact (aiC n0 p hp hl z i k r (by omega) (by omega)).mono λq hq=>hq.trans hr
 |_,0,_,_,hk=>by omega
def ajc (n:Nat) (p:ep) (hp:∀l∈p.gY,Hj l) (hl:p.gY.length<=1000) (v:aR) (hn:4000<n):Ok (adK n p v) λr=>r.ax=v.ax:=by
 unfold adK afa;rw[dv (by omega) (by omega)]
 exact aiC n p hp hl _ p.gY.length n v (dg _) (by omega)
def ry:cG->Int->Int
 | [],t=>t
 |m::ms,t=>if rK m t<0 then -1 else ry ms (rK m t)
def qI:cG->Int->Int->Bool->Int×Bool
 | [],_,c,sv=>(c,sv)
 |m::ms,t,c,sv=>if rK m t<0 then (-1,false) else qI ms (rK m t) (iX m t c) (sv&&oM m t c)
structure XA (sN:ag) (w c:Int) (wy:Int×Bool) (p:ep):Prop where
 cy:p.iv=w
 CM:p.fK=wy.1
 sur:p.dM=wy.2
 recs:∀l∈p.gY,Hj l
 few:p.gY.length<=1000
 on:0<=w->∃(a:Nat) (T:aj),w=(a:Int)/\sN.ai[a]? =some T/\p.fK<(T.ae.length:Int)/\(0<=c->p.dM=true->0<=p.fK)/\(p.dM=false->3<=p.fI.ax)
def kV.knd {k:Int} (h:kV l) (hp:wj k l=true):Hj l:=by
 have hm:=Pf hp;rcases h with ⟨a,rfl⟩|⟨a,b,_,rfl⟩
 ·exact ⟨by simp,λp hp=>by rw[ez.1 hp]⟩
 ·have h1:=(hm ⟨a,b⟩ (by simp)).2
  have h2:=(hm ⟨b,a⟩ (by simp)).2
  refine ⟨by simp,λp hp=> ?_⟩
  rcases cH.1 hp with rfl|hp
  ·exact h1.trans h2.symm
  ·rw[ez.1 hp];exact h2.trans h1.symm
def acK (n0:Nat) (all:cG) (hl:all.length<=8) (t0 c0:Int) (gS:∀m∈all,MB m/\(m.bh=8->kV m.bc)) (b6:ep):∀(x:cG) (i k:Nat) (s:ag) (ts:fO) (a:Nat) (T:aj) (c:Int) (p:ep),all.drop i=x->x.length+5000<k->k<4294967296->gy s=0->eu s x ts->s.ai[a]? =some T-> -1<=c->c<(T.ae.length:Int)->
  p.iv=(a:Int)->p.fK=c->(∀l∈p.gY,Hj l)->p.gY.length<=100+i->i<=8->(0<=c0->p.dM=true->0<=c)->(p.dM=false->3<=p.fI.ax)->
  Ok (Ha (QA n0) k all (all.length:Int) (i:Int) b6 p p.gY) (XA ((s::ts).getLast (by simp)) (ry x (a:Int)) c0 (qI x (a:Int) c p.dM))
 | [],i,k+1,s,ts,a,T,c,p,hd,hk,jP,hs,hc,hT,h0,h1,e1,e2,hr,Bp,hi,hs1,hs2=>by
  obtain rfl:ts= []:=by cases ts with|nil=>rfl|cons=>cases hc
  have hq:¬((i:Int)<(all.length:Int)):=by
   have:all.length<=i:=by simpa using hd
   omega
  simp only[Ha,XX,hq,aX,aC,aA,QA];exact Ok.pure ⟨e1,e2,rfl,hr,by show p.gY.length<=_;omega,λ_=>⟨a,T,rfl,hT,by rw[e2];exact h1,λhc hs=>by rw[e2];exact hs1 hc hs,hs2⟩⟩
 |m::x,i,k+1,s,ts,a,T,c,p,hd,hk,jP,hs,hc,hT,h0,h1,e1,e2,hr,Bp,hi,hs1,hs2=>by
  obtain ⟨g1,g2,g3⟩:=bC hd;have hm:=gS m (cN g1);obtain ⟨t',ts',rfl⟩:∃t' ts',ts=t'::ts':=by cases ts with|nil=>cases hc|cons t' ts'=>exact ⟨t',ts',rfl⟩
  obtain ⟨hb,nG,hs',s8⟩:=hc;have hG:=SG.of hs;have hTG:=hG.cy T (cN hT);have eA:T.ae.length<=8:=hTG.cols;have HM:a<8:=by have:=(cf.1 hT).1;have:=hG.len;omega
  have hq:(i:Int)<(all.length:Int):=by omega
  have CB:((s::t'::ts').getLast (by simp))=((t'::ts').getLast (by simp)):=by simp
  rw[CB];simp at hk;simp only[Ha,XX,hq,aU,aB,bO,g1,au];have rest:∀(rs:ye) (b6':ep),(∀l∈rs,Hj l)->rs.length<=101+i->Ok (Hr (Ha (QA n0) k) k all (all.length:Int) (i:Int) b6' ⟨p.iv,p.fK,p.dM,p.fI,rs⟩ m rs) (XA ((t'::ts').getLast (by simp)) (ry (m::x) (a:Int)) c0 (qI (m::x) (a:Int) c p.dM)):=λrs b6' I2 hrl'=>by
   unfold Hr;simp only[e1,e2];rw[aCM k m hm.1.CM (a:Int) c (by omega) (by omega) h0 (by omega),au]
   rcases nG.fol hT h0 h1 with ⟨h7,ha⟩|⟨hn7,a',T',f1,f2,f3,f4,f5,f6⟩
   ·have:rK m (a:Int)= -1:=by simp[rK,h7,ha]
    simp only[this,show ((-1:Int)<0) from by omega,aU,aB]
    refine Ok.pure ⟨?_,by simp[qI,this],by simp[qI,this],λl hl=>by simp at hl,by simp,λh=> ?_⟩
    ·simp[ry,this]
    ·simp[ry,this] at h
   ·have cV:¬(rK m (a:Int)<0):=by omega
    have hw:ry (m::x) (a:Int)=ry x (a':Int):=by simp only[ry];rw[aM cV,f1]
    have hw2:qI (m::x) (a:Int) c p.dM=qI x (a':Int) (iX m a c) (p.dM&&oM m a c):=by simp only[qI];rw[aM cV,f1]
    have ga:a'<8:=by have:=(cf.1 f2).1;have:=(SG.of hs').len;omega
    simp only[cV,aX,aC,aA];rw[hw,hw2,f1];refine Ok.ite (λzO=> ?_) λzO=> ?_
    ·have zO:oM m a c=false:=by simpa using zO
     obtain ⟨hv,hcm⟩:=f6 zO;rw[zO,xq];refine Ok.bind (ajc k ⟨(a:Int),c,p.dM,p.fI,rs⟩ I2 (by show rs.length<=_;omega) m.aD (by omega)) λy hy=> ?_
     unfold QB;rw[bY g3 (by omega)]
     have hk3:3<=m.aD.ax:=by
      unfold jw at hv;rw[bF] at hv;simpa using hv.2
     exact acK n0 all hl t0 c0 gS _ x (i+1) k t' ts' a' T' (iX m a c) ⟨(a':Int),iX m a c,false,y,rs⟩ g2 (by omega) (by omega) hs' s8 f2 f3 f4 rfl rfl I2 (by show rs.length<=_;omega) (by omega) (λ_ h=>by cases h) (λ_=>by show 3<=y.ax;omega)
    ·have zO:oM m a c=true:=by simpa using zO
     rw[zO,Bool.and_true];unfold QB;rw[bY g3 (by omega)]
     exact acK n0 all hl t0 c0 gS _ x (i+1) k t' ts' a' T' (iX m a c) ⟨(a':Int),iX m a c,p.dM,p.fI,rs⟩ g2 (by omega) (by omega) hs' s8 f2 f3 f4 rfl rfl I2 (by show rs.length<=_;omega) (by omega) (λh0 h=>f5 (hs1 h0 h) zO) hs2
  refine Ok.ite (λh8=>Ok.ite (λht=>Ok.ite (λhc=> ?_) λ_=>rest _ _ hr (by omega)) λ_=>rest _ _ hr (by omega)) λ_=>rest _ _ hr (by omega)
  have h8:m.bh=8:=by simpa using h8
  rw[dI _ _ (by simp;omega),au]
  have hk:Hj m.bc:=by
   cases nG with
   |Ed j c1 T0 x0 h hj xk sZ hx hk hp hu=>exact (hm.2 h8).knd hp
   |_=>omega
  exact rest _ _ (λl hl=>(eO.1 hl).elim (hr l) λh=>by rw[ez.1 h];exact hk) (by simp;omega)
 |_,_,0,_,_,_,_,_,_,_,hk,_,_,_,_,_,_,_,_,_,_,_,_,_=>by omega
def adf (n:Nat) (hn:6000<n) (fN:n<4294967296) (s:ag) (ms:cG) (ts:fO) (hl:ms.length<=8) (gS:∀m∈ms,MB m/\(m.bh=8->kV m.bc)) (hs:gy s=0) (hc:eu s ms ts) {a:Nat} {T:aj} (hT:s.ai[a]? =some T) {c:Int} (h0: -1<=c) (h1:c<(T.ae.length:Int)):
  Ok (F63 n ms (a:Int) c) (XA ((s::ts).getLast (by simp)) (ry ms (a:Int)) c (qI ms (a:Int) c true)):=
 acK n ms hl a c gS _ ms 0 n s ts a T c ⟨(a:Int),c,true,_,[]⟩ rfl (by omega) fN hs hc hT h0 h1 rfl rfl (λl hl=>by simp at hl) (by simp) (by omega) (λh _=>h) (λh=>by cases h)
section
def eu.drop:∀{k:Nat} {s:ag} {ms:cG} {ts:fO},gy s=0->eu s ms ts->k<=ts.length->∃u,(s::ts)[k]? =some u/\(s::ts).drop k=u::ts.drop k/\eu u (ms.drop k) (ts.drop k)/\gy u=0/\(u::ts.drop k).getLast (by simp)=(s::ts).getLast (by simp)
 |0,s,ms,ts,hs,hc,_=>⟨s,rfl,rfl,by simpa using hc,hs,by simp⟩
 |k+1,s,m::ms,t::ts,hs,hc,hk=>by
  obtain ⟨u,h1,h2,h3,h4,h5⟩:=eu.drop (k:=k) hc.2.2.1 hc.2.2.2 (by simpa using hk)
  refine ⟨u,by simpa using h1,?_,by simpa using h3,h4,?_⟩
  ·simpa using h2
  ·rw[List.getLast_cons (by simp:t::ts≠ [])]
   simpa using h5
 |k+1,_,[],[],_,_,hk=>by simp at hk
 |k+1,_,[],_::_,_,h,_=>by cases h
 |k+1,_,_::_,[],_,h,_=>by cases h
section
variable {n:Nat} {s:ag} {ms:cG} {ts:fO} {k:Nat}
def asb (hn:1800000<n) (fN:n<4294967296) (hs:gy s=0) (hm:∀m∈ms,MB m/\(m.bh=8->kV m.bc)) (hl:ms.length<=8) (hv:s.aw+(ms.length:Int)<=1000) (hc:eu s ms ts) (hk:k<=ts.length):
  F54 n s ms (s.aw+(k:Int))=some (⟨(s::ts).drop k,ms.drop k⟩,0):=by
 have hlen:=hc.len;have hv0:=(SG.of hs).v0;have w:bl (s.aw+(k:Int)-s.aw)=(k:Int):=by rw[dv (by omega) (by omega)];omega
 have q1:¬(s.aw+(k:Int)<s.aw):=by omega
 have q2:(k:Int)<((s::ts).length:Int):=by rw[kq];omega
 unfold F54 ano;rw[aJh n hn fN s hs ms hm hl hv ts hc,au];simp only[jN,aC,aA,q1,aX,w,q2,aU,dw];rw[NQ (by simp;omega),au,NQ (by omega),au]
def aIT {u:ag} {r:fO} (hr:r.length<=1000):F55 n ⟨u::r,ms⟩=some ((u::r).getLast (by simp)):=by
 have hL:(u::r).length=r.length+1:=rfl;have w:bl (((u::r).length:Int)-1)=(((u::r).length-1:Nat):Int):=by rw[dv (by rw[hL];omega) (by rw[hL];omega),hL];omega
 unfold F55 ann;show (idx (u::r) (bl (((u::r).length:Int)-1))).bind _=_;rw[w,bO,M6];rfl
def adg {u:ag} {r:fO}:F56 n ⟨u::r,ms⟩=some u:=rfl
end
def NW (N:ag) (ms:cG) (a:Int) (ps:mR):Prop:=∀(i:Nat) p,ps[i]? =some p->XA N (ry ms a) (i:Int) (qI ms a (i:Int) true) p
section
variable {s:ag} {ms:cG} {ts:fO} {a:Nat} {T:aj}
def aiE (n0:Nat) (hl:ms.length<=8) (gS:∀m∈ms,MB m/\(m.bh=8->kV m.bc)) (hs:gy s=0) (hc:eu s ms ts) (hT:s.ai[a]? =some T) (r:fO):∀(j i k:Nat) (acc:mR),i+j=T.ae.length->j+7000<k->k<4294967296->acc.length=i->NW ((s::ts).getLast (by simp)) ms (a:Int) acc->
  Ok (Fz (Se n0) k (a:Int) (T.ae.length:Int) (i:Int) ⟨r,ms⟩ acc) λps=>ps.length=T.ae.length/\NW ((s::ts).getLast (by simp)) ms (a:Int) ps
 |0,i,k+1,acc,hi,hk,jP,HM,hw=>by
  have hq:¬((i:Int)<(T.ae.length:Int)):=by omega
  simp only[Fz,Sf,hq,aX,aC,aA,Se];exact Ok.pure ⟨by omega,hw⟩
 |j+1,i,k+1,acc,hi,hk,jP,HM,hw=>by
  have hq:(i:Int)<(T.ae.length:Int):=by omega
  have eA:=((SG.of hs).cy T (cN hT)).cols;simp only[Fz,Sf,hq,aU,aB];refine Ok.bind (adf k (by omega) (by omega) s ms ts hl gS hs hc hT (c:=(i:Int)) (by omega) (by omega)) λp hp=> ?_
  rw[dI _ _ (by simp;omega),au,bY (L:=T.ae.length) (by omega) (by omega)]
  refine aiE n0 hl gS hs hc hT r j (i+1) k (acc++ [p]) (by omega) (by omega) (by omega) (by simp;omega) λq y oJ=> ?_
  by_cases he:q<acc.length
  ·rw[pD he] at oJ;exact hw q y oJ
  ·have hqi:q=i:=by
    have:=(cf.1 oJ).1;simp at this;omega
   subst hqi;rw[nP (by omega),HM,nR] at oJ
   simp at oJ;subst oJ;exact hp
 |_,_,0,_,_,hk,_,_,_=>by omega
def aIS (n:Nat) (hn:8000<n) (fN:n<4294967296) (hl:ms.length<=8) (gS:∀m∈ms,MB m/\(m.bh=8->kV m.bc)) (hs:gy s=0) (hc:eu s ms ts) (hT:s.ai[a]? =some T) (r:fO):
  Ok (F57 n ⟨s::r,ms⟩ (a:Int)) λq=>q.1=ry ms (a:Int)/\q.2.length=T.ae.length/\NW ((s::ts).getLast (by simp)) ms (a:Int) q.2:=by
 have eA:=((SG.of hs).cy T (cN hT)).cols;unfold F57 anm;refine Ok.bind (P:=λps=>ps.length=T.ae.length/\NW ((s::ts).getLast (by simp)) ms (a:Int) ps) ?_ λps ⟨h1,h2⟩=> ?_
 ·unfold avQ afc;rw[adg,au,bO,hT,au];exact aiE n hl gS hs hc hT (s::r) T.ae.length 0 n [] (by omega) (by omega) fN rfl λi p h=>by simp at h
 ·refine Ok.bind (adf n (by omega) fN s ms ts hl gS hs hc hT (c:= -1) (by omega) (by omega)) λp hp=> ?_
  exact Ok.pure ⟨hp.cy,h1,h2⟩
end
def Vq (ms:cG) (a:Int) (row low:cE):Prop:=∀(i:Nat) v,low[i]? =some v->((qI ms a (i:Int) true).2=true->∃x,idx row (qI ms a (i:Int) true).1=some x/\x.ax=v.ax)/\((qI ms a (i:Int) true).2=false->3<=v.ax)
section
variable {N:ag} {ms:cG} {a:Int} {w:Nat} {T:aj} {row:cE} {ps:mR}
def aiD (n0:Nat) (hw:ry ms a=(w:Int)) (hT:N.ai[w]? =some T) (hr:row.length=T.ae.length) (hp:NW N ms a ps) (I3:ps.length<=1000):∀(x:mR) (i k:Nat) (acc:cE),ps.drop i=x->i<=ps.length->x.length+5000<k->acc.length=i->Vq ms a row acc->
  Ok (B4 (Kf n0) k row ps (ps.length:Int) (i:Int) acc) λlow=>low.length=ps.length/\Vq ms a row low
 | [],i,k+1,acc,hd,sX,hk,HM,NG=>by
  have hi:ps.length<=i:=by simpa using hd
  have hq:¬((i:Int)<(ps.length:Int)):=by omega
  simp only[B4,Sd,hq,aX,aC,aA,Kf];exact Ok.pure ⟨by omega,NG⟩
 |p::x,i,k+1,acc,hd,sX,hk,HM,NG=>by
  obtain ⟨g1,g2,g3⟩:=bC hd;have hq:(i:Int)<(ps.length:Int):=by omega
  have EA:=hp i p g1;obtain ⟨w',T',e1,e2,f1,f2,f3⟩:=EA.on (by omega)
  have hww:w'=w:=by omega
  rw[hww,hT] at e2;have e2:=kW e2;rw[<-e2] at f1;simp at hk;have step:∀v,((qI ms a (i:Int) true).2=true->∃x,idx row (qI ms a (i:Int) true).1=some x/\x.ax=v.ax)->((qI ms a (i:Int) true).2=false->3<=v.ax)->Ok (Kg (B4 (Kf n0) k) k row ps (ps.length:Int) (i:Int) acc v) λlow=>low.length=ps.length/\Vq ms a row low:=λv h1 h2=>by
   unfold Kg;rw[dI _ _ (by simp;omega),au,bY g3 (by omega)]
   refine aiD n0 hw hT hr hp I3 x (i+1) k (acc++ [v]) g2 (by omega) (by omega) (by simp;omega) λq y oJ=> ?_
   by_cases he:q<acc.length
   ·rw[pD he] at oJ;exact NG q y oJ
   ·have hqi:q=i:=by
     have:=(cf.1 oJ).1;simp at this;omega
    subst hqi;rw[nP (by omega),HM,nR] at oJ
    simp at oJ;subst oJ;exact ⟨h1,h2⟩
  simp only[B4,Sd,hq,aU,aB,bO,g1,au];refine Ok.ite (λh=> ?_) λh=> ?_
  ·have h0:=f2 (by omega) h
   obtain ⟨c,xj⟩:∃c:Nat,p.fK=(c:Int):=⟨p.fK.toNat,by omega⟩
   have eA:c<row.length:=by omega
   rw[xj,bO,dJ eA,au];refine Ok.bind (ajc k p EA.recs EA.few row[c] (by omega)) λv hv=> ?_
   refine step v (λ_=>⟨row[c],?_,hv.symm⟩) λhf=> ?_
   ·rw[<-EA.CM,xj,bO,dJ eA]
   ·rw[<-EA.sur,h] at hf;cases hf
  ·refine step p.fI (λhf=> ?_) λ_=>f3 h
   rw[<-EA.sur,h] at hf;cases hf
 |_,_,0,_,_,_,hk,_,_=>by omega
def aCN (n:Nat) (hn:7000<n) (hw:ry ms a=(w:Int)) (hT:N.ai[w]? =some T) (hr:row.length=T.ae.length) (hr0:row≠ []) (hp:NW N ms a ps) (I3:ps.length<=1000):
  Ok (amN n row ps) λlow=>low.length=ps.length/\Vq ms a row low:=by
 unfold amN afb;have h0:((row.length:Int)==0)=false:=by cases row with
  |nil=>exact absurd rfl hr0
  |cons=>exact Sw (by simp;omega)
 rw[h0,aM YE];exact aiD n hw hT hr hp I3 ps 0 n [] rfl (by omega) (by omega) rfl λi v h=>by simp at h
end
end
section
section
variable {s:ag} {T:aj} {md:Int} {ts:rQ}
def aad:∀{rs:bS} {p:Option cE},(∀r∈rs,kN md T.ay 0 (fL T) r=true)->(∀q,p=some q->∀r∈rs,lt (lB T q) (lB T r))->Ord T rs->yi md T p rs=true
 | [],p,_,_,_=>by simp[yi]
 |r::rs,p,h1,h2,h3=>by
  obtain ⟨h4,h5⟩:=vY.1 h3;simp only[yi,bF];refine ⟨h1 r (by simp),?_,aad (λy hy=>h1 y (by simp[hy])) (λq hq y hy=> ?_) h5⟩
  ·cases p with
   |none=>rfl
   |some q=>simp only[behind,jW];exact Lh.2 (h2 q rfl r (by simp))
  ·cases hq;exact h4 y hy
def YO:∀{Ts:br} {rss:rQ},(∀(t:Nat) T rows,Ts[t]? =some T->rss[t]? =some rows->yi md T none rows=true)->zV md Ts rss=true
 | [],_,_=>by simp[zV]
 |_::_,[],_=>by simp[zV]
 |T::Ts,rs::rss,h=>by
  simp only[zV,bF];exact ⟨h 0 T rs rfl rfl,YO λt U rows h1 h2=>h (t+1) U rows (by simpa using h1) (by simpa using h2)⟩
def StM.jH (h:StM md s ts) (ht:total ts<=512):OA md s 0 ts=0:=by
 unfold OA;rw[aH rfl,aM (by omega),aH h.len,YO λt T rows h1 h2=>by
  obtain ⟨r1,r2⟩:=h.row t T rows h1 h2;exact aad r1 (by simp) r2,aH rfl]
end
def YM:∀{ts:rQ},(∀rs∈ts,rs.length<=8)->total ts<=8*ts.length
 | [],_=>by simp[total]
 |rs::ts,h=>by
  have h1:=h rs (by simp)
  have h2:=YM (ts:=ts) λr hr=>h r (by simp[hr])
  simp only[total,kq];omega
def StG.tot {md:Int} {s:ag} {ts:rQ} (h:StG md s ts):total ts<=8*ts.length:=YM λrs I2=>by
 obtain ⟨t,ht⟩:=List.getElem?_of_mem I2;have htl:=(cf.1 ht).1;have hT:t<s.ai.length:=by rw[<-h.len];exact htl
 exact (h.row t s.ai[t] rs (dJ hT) ht).1
def vu (ms:cG) (st:rQ) (u:ag) (a:Nat) (tb:bS):Prop:=∀(i:Nat) low,tb[i]? =some low->∃T rows row,u.ai[a]? =some T/\low.length=T.ae.length/\idx st (ry ms (a:Int))=some rows/\rows[i]? =some row/\Vq ms (a:Int) row low
def vu.nil {ms:cG} {st:rQ} {u:ag} {a:Nat}:vu ms st u a []:=λi low h=>by simp at h
section
variable {u N:ag} {ms:cG} {ts r:fO} {st:rQ} {a w:Nat} {T T':aj} {ps:mR} {rows:bS}
def acV {Q:aW×Int->Prop} (k:Int->Int->aW->aW->jU->aW->ey->Option (aW×Int)) (t49 t50:Int) (b9:aW) (bR:jU)
  (hu:u.ai[a]? =some T) (hw:ry ms (a:Int)=(w:Int)) (hT:N.ai[w]? =some T') (nG:st[w]? =some rows) (hr:∀r∈rows,r.length=T'.ae.length/\r≠ []) (hp:NW N ms (a:Int) ps) (I3:ps.length=T.ae.length) (hpl2:ps.length<=1000) (Bp:rows.length<=1000):
  ∀(x:bS) (i m:Nat) (hJ qp:aW) (b:rQ) (acc:bS),rows.drop i=x->i<=rows.length->x.length+8000<m->b[a]? =some acc->acc.length=i->vu ms st u a acc->
  (∀b' JI,b'.length=b.length->(∀q,q≠a->b'[q]? =b[q]?)->b'[a]? =some JI->vu ms st u a JI->Ok (k t49 t50 b9 ⟨[]⟩ bR ⟨b'⟩ b') Q)->
  Ok (Mg k m (a:Int) ps t49 t50 rows (rows.length:Int) (i:Int) b9 hJ bR qp b) Q
 | [],i,m+1,hJ,qp,b,acc,hd,sX,hm,hb,HM,NG,hk=>by
  have hi:rows.length<=i:=by simpa using hd
  have hq:¬((i:Int)<(rows.length:Int)):=by omega
  simp only[Mg,Yl,hq,aX,aC,aA];exact hk b acc rfl (λ_ _=>rfl) hb NG
 |row::x,i,m+1,hJ,qp,b,acc,hd,sX,hm,hb,HM,NG,hk=>by
  obtain ⟨g1,g2,g3⟩:=bC hd;have hq:(i:Int)<(rows.length:Int):=by omega
  have uv:=(cf.1 hb).1;obtain ⟨r1,r2⟩:=hr row (cN g1);simp at hm;simp only[Mg,Yl,hq,aU,aB,bO,g1,au,gG uv,cC,hb];refine Ok.bind (aCN m (by omega) hw hT r1 r2 hp hpl2) λlow ⟨l1,l2⟩=> ?_
  rw[dI _ _ (by simp;omega),au,dx _ uv,au,bY g3 (by omega)]
  refine acV k t49 t50 b9 bR hu hw hT nG hr hp I3 hpl2 Bp x (i+1) m _ _ (b.set a (acc++ [low])) (acc++ [low]) g2 (by omega) (by omega) (by rw[pr uv]) (by simp;omega) (λq y oJ=> ?_) λb' JI h1 h2 h3 h4=>hk b' JI (by rw[h1,mY]) (λq hq=>by rw[h2 q hq,xp (DK hq)]) h3 h4
  by_cases he:q<acc.length
  ·rw[pD he] at oJ;exact NG q y oJ
  ·have hqi:q=i:=by
    have:=(cf.1 oJ).1;simp at this;omega
   rw[nP (by omega),HM,hqi,nR] at oJ
   simp at oJ;subst oJ;exact ⟨T,rows,row,hu,by omega,by rw[hw,bO];exact nG,by rw[hqi];exact g1,l2⟩
 |_,_,0,_,_,_,_,_,_,hm,_,_,_,_=>by omega
def acU (n0:Nat) (hl:ms.length<=8) (gS:∀m∈ms,MB m/\(m.bh=8->kV m.bc)) (hs:gy u=0) (hc:eu u ms ts) (Ez:gy ((u::ts).getLast (by simp))=0) (nG:StG 3 ((u::ts).getLast (by simp)) st):
  ∀(j i m:Nat) (hJ qp:aW) (b:rQ),i+j=u.ai.length->j+10000<m->m<4294967296->b.length=u.ai.length->(∀q tb,q<i->b[q]? =some tb->vu ms st u q tb)->(∀q,i<=q->q<b.length->b[q]? =some [])->
  Ok (C7 (MC n0) m (u.ai.length:Int) (i:Int) ⟨st⟩ hJ ⟨u::r,ms⟩ qp b) λz=>z.2=0/\z.1.ai.length=u.ai.length/\∀q tb,z.1.ai[q]? =some tb->vu ms st u q tb
 |0,i,m+1,hJ,qp,b,hi,hm,sV,hb,h1,h2=>by
  have hq:¬((i:Int)<(u.ai.length:Int)):=by omega
  simp only[C7,Yk,hq,aX,aC,aA,MC];exact Ok.pure ⟨rfl,hb,λq tb oJ=>h1 q tb (by have:=(cf.1 oJ).1;have h:(b).length=b.length:=rfl;simp at this;omega) oJ⟩
 |j+1,i,m+1,hJ,qp,b,hi,hm,sV,hb,h1,h2=>by
  have hq:(i:Int)<(u.ai.length:Int):=by omega
  have hul:=(SG.of hs).len;have wB:i<u.ai.length:=by omega
  have hu:u.ai[i]? =some u.ai[i]:=dJ wB;have eA:=((SG.of hs).cy _ (rT wB)).cols;have hbi:=h2 i (dg _) (by omega)
  have nx:∀(b':rQ) JI,b'.length=b.length->(∀q,q≠i->b'[q]? =b[q]?)->b'[i]? =some JI->vu ms st u i JI->Ok (MD (C7 (MC n0) m) m (u.ai.length:Int) (i:Int) ⟨st⟩ ⟨[]⟩ ⟨u::r,ms⟩ ⟨b'⟩ b') λz=>z.2=0/\z.1.ai.length=u.ai.length/\∀q tb,z.1.ai[q]? =some tb->vu ms st u q tb:=λb' JI e1 e2 e3 e4=>by
   unfold MD;rw[bY wB (by omega)]
   refine acU n0 hl gS hs hc Ez nG j (i+1) m _ _ b' (by omega) (by omega) (by omega) (by omega) (λq tb hq hqb=> ?_) λq hq hqb=> ?_
   ·by_cases he:q=i
    ·rw[he] at hqb ⊢;rw[e3] at hqb;cases hqb;exact e4
    ·rw[e2 q he] at hqb;exact h1 q tb (by omega) hqb
   ·rw[e2 q (by omega)]
    exact h2 q (by omega) (by omega)
  simp only[C7,Yk,hq,aU,aB];refine Ok.bind (aIS m (by omega) (by omega) hl gS hs hc hu r) λz ⟨z1,z2,z3⟩=> ?_
  refine Ok.ite (λ_=>nx b [] rfl (λ_ _=>rfl) hbi vu.nil) λhw=> ?_
  have hw:=FV hw;obtain ⟨w,hww⟩:∃w:Nat,z.1=(w:Int):=⟨z.1.toNat,by omega⟩
  have hw':ry ms (i:Int)=(w:Int):=by omega
  have key:∃T',((u::ts).getLast (by simp)).ai[w]? =some T':=by
   have h0:0<z.2.length:=by have:=((SG.of hs).cy _ (rT wB)).Dn;have:=((SG.of hs).cy _ (rT wB)).jL;omega
   obtain ⟨w',T',e1,e2,_⟩:=(z3 0 z.2[0] (dJ h0)).on (by omega)
   have:w'=w:=by omega
   rw[this] at e2;exact ⟨T',e2⟩
  obtain ⟨T',EJ⟩:=key;have hwl:w<st.length:=by rw[nG.len];exact (cf.1 EJ).1
  have l5:st[w]? =some st[w]:=dJ hwl;obtain ⟨rw1,rw2⟩:=nG.row w T' st[w] EJ l5;have hk1:=((SG.of Ez).cy T' (cN EJ)).Dn;have yT:=((SG.of Ez).cy T' (cN EJ)).jL;rw[hww,bO,l5,au];exact acV (MD (C7 (MC n0) m) m) (u.ai.length:Int) (i:Int) ⟨st⟩ ⟨u::r,ms⟩ hu hw' EJ l5 (λy hy=>by
   have:=Ci (rw2 y hy);exact ⟨this,λe=>by rw[e] at this;simp at this;omega⟩) z3 z2 (by omega) (by omega) st[w] 0 m _ _ b [] rfl (by omega) (by omega) hbi rfl vu.nil nx
 |_,_,0,_,_,_,_,hm,_,_,_,_=>by omega
end
section
variable {n:Nat} {s u:ag} {ms:cG} {ts:fO} {k:Nat} {st:rQ}
def aJe (hn:3000000<n) (fN:n<4294967296) (hs:gy s=0) (hm:∀m∈ms,MB m/\(m.bh=8->kV m.bc)) (hl:ms.length<=8) (hv:s.aw+(ms.length:Int)<=1000) (hc:eu s ms ts) (hk:k<=ts.length) (hu:(s::ts)[k]? =some u) (nG:StG 3 ((s::ts).getLast (by simp)) st):
  Ok (F21 n s ms (s.aw+(k:Int)) 3 ⟨st⟩) λz=>z.2=0/\z.1.ai.length=u.ai.length/\∀q tb,z.1.ai[q]? =some tb->vu (ms.drop k) st u q tb:=by
 have hlen:=hc.len;obtain ⟨u',e1,e2,e3,e4,e5⟩:=eu.drop hs hc hk;rw[hu] at e1;have e1:=kW e1;rw[<-e1] at e2 e3 e4;have e5:(u::ts.drop k).getLast (by simp)=(s::ts).getLast (by simp):=by
  rw[<-e5];congr 1;rw[e1]
 have Ez:gy ((s::ts).getLast (by simp))=0:=by
  rcases cH.1 (Ss (l:=s::ts) (by simp)) with h|h
  ·rw[h];exact hs
  ·exact hc.jH _ h
 have hGN:=SG.of Ez;have hul:=(SG.of e4).len;have hNl:=hGN.len;have htot:=nG.tot;have Ey:=nG.len;have abx:rz (u.ai.length:Int) ([]:bS)=some (List.replicate u.ai.length []):=by
  unfold rz;rw[aH ⟨by omega,by omega⟩];rfl
 have h15:=adu n ((s::ts).getLast (by simp)) (λT hT=>(hGN.cy T hT).wa) (by omega) fN
 rw[Ez] at h15;have h26:=aMQ (.inr (.inr rfl):JO 3) n _ 0 h15 (λ_=>A5 Ez) ⟨st⟩ (by show st.length+total st<=2000000;omega) (by omega)
 rw[StM.jH nG.m (by omega)] at h26
 unfold F21 anC;rw[asb (by omega) fN hs hm hl hv hc hk,au,e2]
 simp only[jN,aC,aA];rw[aIT (by simp;omega),au,e5,h26,au]
 simp only[jN,aC,aA];rw[adg,au,abx,au,tQ];rw[<-e5] at nG Ez;exact acU n (by simp;omega) (λm sV=>hm m (pE sV)) e4 e3 Ez nG u.ai.length 0 n _ _ _ (by omega) (by omega) fN (by simp) (λq tb h=>by omega) λq _ hq=>by
  rw[tQ] at hq;simp[hq]
def aJd (hn:3000000<n) (fN:n<4294967296) (hs:gy s=0) (hm:∀m∈ms,MB m/\(m.bh=8->kV m.bc)) (hl:ms.length<=8) (hv:s.aw+(ms.length:Int)<=1000) (hc:eu s ms ts) (hk:k<=ts.length) (hu:(s::ts)[k]? =some u) {t c:Nat} {T:aj} (hT:u.ai[t]? =some T) (eA:c<T.ae.length):
  Ok (F24 n s ms (s.aw+(k:Int)) (t:Int) (c:Int)) λz=>((qI (ms.drop k) (t:Int) (c:Int) true).2=false->z.2.2=false)/\((qI (ms.drop k) (t:Int) (c:Int) true).2=true->z=(ry (ms.drop k) (t:Int),(qI (ms.drop k) (t:Int) (c:Int) true).1,true)):=by
 have hlen:=hc.len;obtain ⟨u',e1,e2,e3,e4,e5⟩:=eu.drop hs hc hk;rw[hu] at e1;have e1:=kW e1;rw[<-e1] at e2 e3 e4;have htl:=(cf.1 hT).1;have q1:¬((t:Int)<0):=by omega
 have q2:(t:Int)<(u.ai.length:Int):=by omega
 have q3:¬((c:Int)< -1):=by omega
 have q4:(c:Int)<(T.ae.length:Int):=by omega
 unfold F24 anB;rw[asb (by omega) fN hs hm hl hv hc hk,au,e2]
 simp only[jN,aC,aA,q1,q2,q3,q4,aU,aX,dw,adg,au,bO,hT];refine Ok.bind (adf n (by omega) fN u (ms.drop k) (ts.drop k) (by simp;omega) (λm sV=>hm m (pE sV)) e4 e3 hT (c:=(c:Int)) (by omega) (by omega)) λp hp=> ?_
 refine Ok.ite (λh=>Ok.pure ⟨λ_=>rfl,λhh=> ?_⟩) λh=>Ok.pure ⟨λhh=> ?_,λ_=> ?_⟩
 ·rw[<-hp.sur] at hh;rw[hh] at h;cases h
 ·rw[<-hp.sur] at hh;rw[hh] at h;cases h
 ·rw[hp.cy,hp.CM]
end
section
variable {s u:ag} {ms:cG} {ts:fO} {k:Nat} {st:rQ} {lo:rQ}
def ait (hs:gy s=0) (hm:∀m∈ms,MB m/\(m.bh=8->kV m.bc)) (hl:ms.length<=8) (hv:s.aw+(ms.length:Int)<=1000) (hc:eu s ms ts) (hk:k<=ts.length) (hu:(s::ts)[k]? =some u) {t i:Nat} {T:aj} (hT:u.ai[t]? =some T) (K:cG->Int->Int->Int->Int->bS->Int->Int->ag->fO->aW->aW->Option Bool) (t67 t68:Int) (t75:bS) (t76 t77:Int) (low:cE) (hlow:low.length=T.ae.length) (hl8:low.length<=1000) {rows:bS} {row:cE} (l5:idx st (ry (ms.drop k) (t:Int))=some rows) (GA:rows[i]? =some row) (hR:Vq (ms.drop k) (t:Int) row low)
  (hK:K ms (k:Int) (t:Int) t67 t68 t75 t76 t77 s (s::ts) ⟨st⟩ ⟨lo⟩=some true):
  ∀(x:cE) (c m:Nat),low.drop c=x->x.length+3000001<m->m<4294967296->Vr K m ms (k:Int) (t:Int) (i:Int) t67 t68 t75 t76 t77 low (low.length:Int) (c:Int) s (s::ts) ⟨st⟩ ⟨lo⟩=some true
 | [],c,m+1,hd,hm1,hm2=>by
  have hi:low.length<=c:=by simpa using hd
  have hq:¬((c:Int)<(low.length:Int)):=by omega
  simp only[Vr,anf,hq,aX,aC,aA];exact hK
 |v::x,c,m+1,hd,hm1,hm2=>by
  obtain ⟨g1,g2,g3⟩:=bC hd;have hq:(c:Int)<(low.length:Int):=by omega
  simp at hm1;obtain ⟨⟨z1,z2,z3⟩,e,q1,q2⟩:=aJd (n:=m) (by omega) (by omega) hs hm hl hv hc hk hu hT (c:=c) (by omega)
  have EF:k<(s::ts).length:=by simp;omega
  have aub:=hc.ver k u hu;have ih:=ait hs hm hl hv hc hk hu hT K t67 t68 t75 t76 t77 low hlow hl8 l5 GA hR hK x (c+1) m g2 (by omega) (by omega)
  obtain ⟨r1,r2⟩:=hR c v g1;simp only[Vr,anf,hq,aU,aB,bO,g1,au,gG EF,cC,hu,aub,e,bY g3 (by omega:low.length<4294967296)]
  cases hw:(qI (ms.drop k) (t:Int) (c:Int) true).2 with
  |false=>
   have h3:=r2 hw;have hz:z3=false:=q1 hw;have:¬v.ax<3:=by omega
   simp only[hz,gM,aB,this,aX,aC,aA];exact ih
  |true=>
   obtain ⟨y,y1,y2⟩:=r1 hw;have hz:=q2 hw;simp only[Prod.mk.injEq] at hz;obtain ⟨h1,h2,h3⟩:=hz;simp only[h1,h2,h3,dw,aC,aA,l5,au,bO,GA,y1,y2,jN];exact ih
 |_,_,0,_,h,_=>by omega
def ais (hs:gy s=0) (hm:∀m∈ms,MB m/\(m.bh=8->kV m.bc)) (hl:ms.length<=8) (hv:s.aw+(ms.length:Int)<=1000) (hc:eu s ms ts) (hk:k<=ts.length) (hu:(s::ts)[k]? =some u) (hsu:gy u=0) {t:Nat} (K:cG->Int->Int->Int->ag->fO->aW->aW->Option Bool) (t67 t68:Int) (tb:bS) (hD:vu (ms.drop k) st u t tb) (htl:tb.length<=1000)
  (hK:K ms (k:Int) t67 t68 s (s::ts) ⟨st⟩ ⟨lo⟩=some true):
  ∀(x:bS) (i m:Nat),tb.drop i=x->x.length+3010001<m->m<4294967296->N1 K m ms (k:Int) (t:Int) t67 t68 tb (tb.length:Int) (i:Int) s (s::ts) ⟨st⟩ ⟨lo⟩=some true
 | [],i,m+1,hd,hm1,hm2=>by
  have hi:tb.length<=i:=by simpa using hd
  have hq:¬((i:Int)<(tb.length:Int)):=by omega
  simp only[N1,anb,hq,aX,aC,aA];exact hK
 |low::x,i,m+1,hd,hm1,hm2=>by
  obtain ⟨g1,g2,g3⟩:=bC hd;have hq:(i:Int)<(tb.length:Int):=by omega
  simp at hm1;obtain ⟨T,rows,row,h1,h2,h3,h4,h5⟩:=hD i low g1;have eA:=((SG.of hsu).cy T (cN h1)).cols;have ih:=ais hs hm hl hv hc hk hu hsu K t67 t68 tb hD htl hK x (i+1) m g2 (by omega) (by omega)
  simp only[N1,anb,hq,aU,aB,bO,g1,au];refine ait hs hm hl hv hc hk hu h1 (ane (N1 K m) m) t67 t68 tb (tb.length:Int) (i:Int) low h2 (by omega) h3 h4 h5 ?_ low 0 m rfl (by omega) (by omega)
  unfold ane;rw[bY g3 (by omega)]
  exact ih
 |_,_,0,_,h,_=>by omega
def air (hs:gy s=0) (hm:∀m∈ms,MB m/\(m.bh=8->kV m.bc)) (hl:ms.length<=8) (hv:s.aw+(ms.length:Int)<=1000) (hc:eu s ms ts) (hk:k<=ts.length) (hu:(s::ts)[k]? =some u) (hsu:gy u=0) (hD:∀t tb,lo[t]? =some tb->vu (ms.drop k) st u t tb/\tb.length<=1000) (hll:lo.length<=1000) (n0:Nat):
  ∀(x:rQ) (t m:Nat),lo.drop t=x->x.length+3020001<m->m<4294967296->N0 (amY n0) m ms (k:Int) (lo.length:Int) (t:Int) s (s::ts) ⟨st⟩ ⟨lo⟩=some true
 | [],t,m+1,hd,hm1,hm2=>by
  have hi:lo.length<=t:=by simpa using hd
  have hq:¬((t:Int)<(lo.length:Int)):=by omega
  simp only[N0,amZ,hq,aX,aC,aA];rfl
 |tb::x,t,m+1,hd,hm1,hm2=>by
  obtain ⟨g1,g2,g3⟩:=bC hd;have hq:(t:Int)<(lo.length:Int):=by omega
  simp at hm1;obtain ⟨d1,d2⟩:=hD t tb g1;have ih:=air hs hm hl hv hc hk hu hsu hD hll n0 x (t+1) m g2 (by omega) (by omega)
  simp only[N0,amZ,hq,aU,aB,bO,g1,au];refine ais hs hm hl hv hc hk hu hsu (ana (N0 (amY n0) m) m) (lo.length:Int) (t:Int) tb d1 d2 ?_ tb 0 m rfl (by omega) (by omega)
  unfold ana;rw[bY g3 (by omega)]
  exact ih
 |_,_,0,_,h,_=>by omega
end
def vu.len {ms:cG} {st:rQ} {u N:ag} {a:Nat} (h:vu ms st u a tb) (nG:StG 3 N st) (hN:gy N=0):tb.length<=8:=by
 cases hl:tb.length with
 |zero=>omega
 |succ q=>
  have hq:tb[q]? =some tb[q]:=dJ (by omega)
  obtain ⟨T,rows,row,h1,h2,h3,h4,_⟩:=h q tb[q] hq;obtain ⟨w1,w2,w3⟩:=yN h3;have hT:(ry ms (a:Int)).toNat<N.ai.length:=by rw[<-nG.len];exact w2
  have:=(nG.row _ _ rows (dJ hT) w3).1;have:=(cf.1 h4).1;omega
def law7 (n:Nat) (hn:4000000<n) (fN:n<4294967296) (db:aK) (hb:∀x∈db,0<=x/\x<=255):F7 n db=some true:=by
 obtain ⟨c,e1,hc⟩:=aJi n db 400 hb (by omega) (by omega)
 obtain ⟨x5,e2,h1,h2,h3,h4,ts,k,si,ea,ek,hk⟩:=aJj n (by omega) fN c hc
 have hG:=SG.of h2.jH;have pO:x5.1.aw<=2:=by
  obtain ⟨v,id,k,r1,r2,r3,ch,hp,e⟩:=h2;rw[e];exact hp.v1
 have hlen:=si.len;obtain ⟨u,u1,u2,u3,u4,u5⟩:=eu.drop h2.jH si hk;have Ez:gy ((x5.1::ts).getLast (by simp))=0:=by
  rcases cH.1 (Ss (l:=x5.1::ts) (by simp)) with h|h
  ·rw[h];exact h2.jH
  ·exact si.jH _ h
 have hNl:=(SG.of Ez).len;have hul:=(SG.of u4).len;unfold F7 avT;rw[e1,au,e2,au,ea,ek];have hL:(x5.1::ts).length=ts.length+1:=rfl;have w:bl (((x5.1::ts).length:Int)-1)=(((x5.1::ts).length-1:Nat):Int):=by rw[dv (by rw[hL];omega) (by rw[hL];omega),hL];omega
 rw[w,gG (by rw[hL];omega),au,cC,M6,au]
 obtain ⟨z,e3,z1,z2⟩:=aMR 3 n (by omega) _ (A5 Ez) x5.2.2.2.2 h1
 obtain ⟨⟨⟨lo⟩,y2⟩,e4,y3,y4,y5⟩:=aJe (n:=n) (by omega) fN h2.jH h3.mem (by omega) (by omega) si hk u1 z2
 have EF:k<(x5.1::ts).length:=by rw[hL];omega
 have aub:=si.ver k u u1;have y3:y2=0:=y3;have y4:lo.length=u.ai.length:=y4;subst y3;simp only[e3,au,gG EF,cC,u1,aub,e4,jN,aC,aA,y4];rw[<-y4];exact air h2.jH h3.mem (by omega) (by omega) si hk u1 u4 (λt tb h=>⟨y5 t tb h,by have:=(y5 t tb h).len z2 Ez;omega⟩) (by omega) n lo 0 n rfl (by omega) fN
end
def atG {k:IntKind} {n:Int} (h:PV (.int k n)):k.min<=n/\n<=k.max:=by
 simpa[PV,Lit.wf] using h
def Jq:∀{rows:List (List AV)},BD rows->∀r∈rows,wE r
 | [],_,_,h=>by simp at h
 |r::rs,h,x,hx=>by
  rcases cH.1 hx with rfl|hx
  ·exact h.1
  ·exact Jq h.2 x hx
def alI (h:PV (.qK 5 1 db.length (yj db))):∀x∈db,0<=x/\x<=255:=by
 intro x hx;have h1:=Jq (show BD (yj db) from h) (abT x) (cP.2 ⟨x,hx,rfl⟩);have h2:=atG (show PV (.int .u8 x) from h1.1);simpa[IntKind.min,IntKind.max,IntKind.signed,IntKind.bits] using h2
def aEE (y0:aK) (h0:wE [.qK 5 1 y0.length (yj y0)]) (hb:mu [.qK 5 1 y0.length (yj y0)]<=1048576):∃n,F7 n y0=some true:=⟨5000000,law7 5000000 (by omega) (by omega) y0 (alI h0.1)⟩
end Go.Proofs.YtbnkhmoelnfjoaaGreat
end
