/- Texts that belong together. The first: Plain laws: when a write is well formed. Condition: a valid table, lists of bounded length, enough steps. -/
import Derived.Test.YtmealahmjddpcaaGreatDoorP11
import Derived.Laws.RangeString
import Derived.Laws.RangeAny
set_option linter.all false
set_option maxRecDepth 100000
noncomputable section
namespace Go.Proofs.YtmealahmjddpcaaGreatDoor
open Go.Sim
section
theorem tq {T:ai} {i:Nat} {c:aS} (h:T.af[i]? =some c):(aZ T)[i]? =some c.ax:=by simp[aZ,h]
theorem yD {T:ai} {i:Nat} {c:aS} (h:T.af[i]? =some c):(aZ T).drop i=c.ax::(aZ T).drop (i+1):=by
 have h1:i<(aZ T).length:=by rw[cr];exact (List.getElem?_eq_some_iff.1 h).1
 have h2:=tq h;rw[List.drop_eq_getElem_cons h1];rw[List.getElem?_eq_getElem h1] at h2;rw[Option.some.inj h2]
theorem X7 (n0:Nat) (T:ai) (ht:dX (aZ T)=true) (r:List I) (hr:r.length=T.af.length) (hl:r.length<4294967296):∀(x:List I) (i m:Nat),r.drop i=x→i≤r.length→x.length<m→rb (yl n0) m 1 r (r.length:Int) (i:Int) T=some (bt ((aZ T).drop i) (r.drop i))
 | [],i,m+1,hd,h1,hm=>by
  have hq':r.length≤i:=by simpa using hd
  have hq:¬((i:Int)<(r.length:Int)):=by omega
  simp only[rb,GI,yl,hq,decide_false,Bool.false_eq_true,if_false];rw[hd,List.drop_of_length_le (by rw[cr];omega)]
  rfl
 |x::xs,i,m+1,hd,h1,hm=>by
  obtain ⟨g1,g2,g3⟩:=aO hd;have hq:(i:Int)<(r.length:Int):=by omega
  have hlt:i<T.af.length:=by omega
  have hc:T.af[i]? =some T.af[i]:=List.getElem?_eq_getElem hlt;have hk:=yD hc;have hkk:=mF ht (tq hc);generalize T.af[i]=c at hc hk hkk;have key:ym (rb (yl n0) m) m 1 (i:Int) false r (r.length:Int) (i:Int) T x=if x.ax=c.ax then rb (yl n0) m 1 r (r.length:Int) (w64 ((i:Int)+1)) T else some false:=by
   unfold ym B4;simp only[aL,hc,Option.bind_some];by_cases he:x.ax=c.ax
   ·simp[he]
   ·simp[he]
  simp only[rb,GI,hq,decide_true,if_true,aL,g1,Option.bind_some,Ps];rw[hd,hk];simp only[bt];by_cases he:x.ax=c.ax
  ·rw[tr hkk he];cases hv:eE x with
   |false=>simp
   |true=>
    have ih:=X7 n0 T ht r hr hl xs (i+1) m g2 (by omega) (by simp at hm;omega)
    rw[g2] at ih;simp only[Bool.not_true,Bool.false_eq_true,if_false,bne_self_eq_false,key,he,if_true,bj g3 hl,ih];simp
  ·cases hv:eE x with
   |false=>simp[he]
   |true=>
    simp only[Bool.not_true,Bool.false_eq_true,if_false,bne_self_eq_false,key,he];simp[he]
 |_,_,0,_,_,hm=>by simp at hm
section
variable {s:aa} {t:Int} {T:ai} {n:Nat}
theorem Yq (hT:idx s.J t=some T) (ht:cI T) (r:List I) (hn:1000<n):F70 n s t r 1=some (bt (aZ T) r):=by
 have hc:=ht.aE;have hl:=cr T;simp only[F70,SP,yk,bne_self_eq_false,Bool.false_eq_true,if_false,BU hT,Option.bind_some,Bool.not_true,hT];by_cases h:r.length=T.af.length
 ·have e:((r.length:Int) !=(T.af.length:Int))=false:=by simp[h]
  rw[e];simp only[Bool.false_eq_true,if_false];have:=X7 n T ht.ks r h (by omega) r 0 n rfl (by omega) (by omega)
  simp only[List.drop_zero] at this;exact this
 ·have e:((r.length:Int) !=(T.af.length:Int))=true:=by simp;omega
  rw[e,r7 (by omega)]
  rfl
end
theorem X2 (n0:Nat) (s:aa) (t:Int) (T:ai) (hT:idx s.J t=some T) (ht:dX (aZ T)=true) (r:List I) (hr:r.length=T.af.length) (hl:r.length<4294967296):∀(x:List I) (i m:Nat),r.drop i=x→i≤r.length→x.length<m→xw (Gg n0) m t 1 r (r.length:Int) (i:Int) s=some (bt ((aZ T).drop i) (r.drop i))
 | [],i,m+1,hd,h1,hm=>by
  have hq':r.length≤i:=by simpa using hd
  have hq:¬((i:Int)<(r.length:Int)):=by omega
  simp only[xw,Gi,Gg,hq,decide_false,Bool.false_eq_true,if_false];rw[hd,List.drop_of_length_le (by rw[cr];omega)]
  rfl
 |x::xs,i,m+1,hd,h1,hm=>by
  obtain ⟨g1,g2,g3⟩:=aO hd;have hq:(i:Int)<(r.length:Int):=by omega
  have hlt:i<T.af.length:=by omega
  have hc:T.af[i]? =some T.af[i]:=List.getElem?_eq_getElem hlt;have hk:=yD hc;have hkk:=mF ht (tq hc);generalize T.af[i]=c at hc hk hkk;simp only[xw,Gi,hq,decide_true,if_true,aL,g1,Option.bind_some,wq];rw[hd,hk];simp only[bt];by_cases he:x.ax=c.ax
  ·rw[tr hkk he];cases hv:eE x with
   |false=>simp
   |true=>
    have ih:=X2 n0 s t T hT ht r hr hl xs (i+1) m g2 (by omega) (by simp at hm;omega)
    rw[g2] at ih;simp only[Bool.not_true,Bool.false_eq_true,if_false,hT,hc,Option.bind_some,he,beq_self_eq_true,if_true,ke,bj g3 hl,ih];simp
  ·cases hv:eE x with
   |false=>simp[he]
   |true=>
    have e1:(x.ax==c.ax)=false:=by simpa using he
    simp only[Bool.not_true,Bool.false_eq_true,if_false,hT,hc,Option.bind_some,e1,bne_self_eq_false,mh,show ((1:Int)==3)=false from rfl,ite_self,Bool.and_false,Bool.false_and]
 |_,_,0,_,_,hm=>by simp at hm
section
variable {s:aa} {t:Int} {T:ai} {n:Nat}
theorem Yn (hT:idx s.J t=some T) (ht:cI T) (r:List I) (hn:1000<n):F86 n s t r 1=some (bt (aZ T) r):=by
 obtain ⟨h0,h1,_⟩:=pG hT;have e1:¬t<0:=by omega
 have e2:t<(s.J.length:Int):=by omega
 have hc:=ht.aE;have hl:=cr T;simp only[F86,SA,show ¬(1:Int)<1 by omega,show ¬(3:Int)<1 by omega,e1,e2,decide_false,decide_true,Bool.not_true,Bool.false_eq_true,if_false,hT,Option.bind_some]
 by_cases h:r.length=T.af.length
 ·have e:((r.length:Int) !=(T.af.length:Int))=false:=by simp[h]
  rw[e];simp only[Bool.false_eq_true,if_false];have:=X2 n s t T hT ht.ks r h (by omega) r 0 n rfl (by omega) (by omega)
  simp only[List.drop_zero] at this;exact this
 ·have e:((r.length:Int) !=(T.af.length:Int))=true:=by simp;omega
  rw[e,r7 (by omega)]
  rfl
end
def dB (ks:List Int):Int→List Int→Option (List Int)
 |_,[]=>some []
 |last,c::cs=>if last<c∧c<(ks.length:Int) then (dB ks c cs).map (fun l=>(ks[c.toNat]?).getD 0::l) else none
theorem Yd (n0:Nat) (hn0:1000<n0) (ks:List Int) (hk:ks.length≤8) (w:ak) (hl:w.af.length<4294967296):∀(x:List Int) (i m:Nat) (last:Int) (acc:List Int),w.af.drop i=x→x.length<m→ -1≤last→last<8→(acc.length:Int)≤last+1→
  xP (G9 n0) m last w.af (w.af.length:Int) (i:Int) w ks acc=some (match dB ks last x with|some l=>bt (acc++l) w.aJ|none=>false)
 | [],i,m+1,last,acc,hd,hm,h1,h2,h3=>by
  have hq':w.af.length≤i:=by simpa using hd
  have hq:¬((i:Int)<(w.af.length:Int)):=by omega
  simp only[xP,Ha,G9,hq,decide_false,Bool.false_eq_true,if_false,dB,List.append_nil];rw[Ys n0 w.aJ acc (by omega) (by omega)]
  rfl
 |c::cs,i,m+1,last,acc,hd,hm,h1,h2,h3=>by
  obtain ⟨g1,g2,g3⟩:=aO hd;have hq:(i:Int)<(w.af.length:Int):=by omega
  simp only[xP,Ha,hq,decide_true,if_true,aL,g1,Option.bind_some,dB];by_cases h4:last<c
  ·by_cases h5:c<(ks.length:Int)
   ·have hb:bnd ks.length c=some c.toNat:=by unfold bnd;rw[if_pos (by omega)]
    have hg:ks[c.toNat]? =some (ks[c.toNat]'(by omega)):=List.getElem?_eq_getElem _
    simp only[h4,h5,decide_true,Bool.not_true,Bool.false_eq_true,if_false,hb,Option.bind_some,Nat.zero_add,hg,and_self,if_true,Option.getD_some];rw[cD _ _ (by simp;omega),Option.bind_some,bj g3 hl,Yd n0 hn0 ks hk w hl cs (i+1) m c _ g2 (by simp at hm;omega) (by omega) (by omega) (by simp;omega)]
    cases dB ks c cs with
    |none=>rfl
    |some l=>simp
   ·simp[h4,h5]
  ·simp[h4]
 |_,_,0,_,_,_,hm,_,_,_=>by simp at hm
theorem l7 {ks:List Int} (hk:dX ks=true):∀{last:Int} {cs l:List Int}, -1≤last→dB ks last cs=some l→l.length=cs.length∧∀(i:Nat) (c:Int),cs[i]? =some c→0≤c∧c.toNat<ks.length∧l[i]? =ks[c.toNat]? ∧∀k,l[i]? =some k→kOK k=true
 |last,[],l,_,h=>by simp[dB] at h;subst h;exact ⟨rfl,fun i c hc=>by simp at hc⟩
 |last,c::cs,l,h1,h=>by
  simp only[dB] at h;split at h
  ·rename_i hc;cases h2:dB ks c cs with
   |none=>rw[h2] at h;cases h
   |some l'=>
    rw[h2] at h;simp at h;subst h;obtain ⟨e1,e2⟩:=l7 hk (by omega) h2
    refine ⟨by simp[e1],fun i d hd=> ?_⟩
    cases i with
    |zero=>
     simp at hd;subst hd;have hg:ks[c.toNat]? =some (ks[c.toNat]'(by omega)):=List.getElem?_eq_getElem _
     refine ⟨by omega,by omega,by simp[hg],fun k hk'=> ?_⟩
     simp[hg] at hk';exact mF hk (hg.trans (by rw[hk']))
    |succ i=>simpa using e2 i d (by simpa using hd)
  ·cases h
def n6:Option Int→Int→Bool
 |none,_=>true
 |some p,c=>decide (p<c)
def wg (low high:Int):Option Int→List Int→Bool
 |_,[]=>true
 |prev,c::cs=>decide (low≤c)&&(decide (c<high)&&(n6 prev c&&wg low high (some c) cs))
theorem E2 {ks:List Int} {low:Int}:∀{cs:List Int} {prev:Option Int} {last:Int},((prev=none∧last=low-1)∨(prev=some last∧low≤last))→wg low (ks.length:Int) prev cs=(dB ks last cs).isSome
 | [],prev,last,h=>rfl
 |c::cs,prev,last,h=>by
  simp only[wg,dB];have hk:(n6 prev c=true∧low≤c)↔last<c:=by
   rcases h with ⟨rfl,rfl⟩|⟨rfl,h⟩
   ·simp[n6];omega
   ·simp[n6];omega
  by_cases h1:last<c
  ·obtain ⟨k1,k2⟩:=hk.2 h1;have ih:wg low (ks.length:Int) (some c) cs=(dB ks c cs).isSome:=E2 (.inr ⟨rfl,k2⟩);by_cases h2:c<(ks.length:Int)
   ·simp[k1,k2,h1,h2,ih]
   ·simp[h1,h2]
  ·by_cases h3:low≤c
   ·have:n6 prev c=false:=by
     cases hm:n6 prev c with
     |false=>rfl
     |true=>exact absurd (hk.1 ⟨hm,h3⟩) h1
    simp[h1,this]
   ·simp[h1,h3]
theorem X1 (n0:Nat) (aE:List Int) (low high:Int) (hl:aE.length<4294967296):∀(x:List Int) (i m:Nat),aE.drop i=x→x.length<m→xv (Ge n0) m aE low high aE (aE.length:Int) (i:Int)=some (wg low high (if i=0 then none else aE[i-1]?) x)
 | [],i,m+1,hd,hm=>by
  have hq':aE.length≤i:=by simpa using hd
  have hq:¬((i:Int)<(aE.length:Int)):=by omega
  simp only[xv,Gf,Ge,hq,decide_false,Bool.false_eq_true,if_false];simp[wg]
 |c::cs,i,m+1,hd,hm=>by
  obtain ⟨g1,g2,g3⟩:=aO hd;have hq:(i:Int)<(aE.length:Int):=by omega
  have ih:=X1 n0 aE low high hl cs (i+1) m g2 (by simp at hm;omega)
  rw[if_neg (by omega),show i+1-1=i by omega,g1] at ih
  simp only[xv,Gf,hq,decide_true,if_true,aL,g1,Option.bind_some,wg,bj g3 hl,ih];by_cases h1:c<low
  ·have:¬low≤c:=by omega
   simp[h1,this]
  ·have h1':low≤c:=by omega
   by_cases h2:c<high
   ·simp only[h1,h1',h2,decide_false,decide_true,Bool.not_true,Bool.false_eq_true,if_false,Bool.true_and];by_cases h0:i=0
    ·subst h0;simp[n6]
    ·have h0':0<(i:Int):=by omega
     have hw:w64 ((i:Int)-1)=((i-1:Nat):Int):=by rw[bZ (by omega) (by omega)];omega
     have hg:aE[i-1]? =some (aE[i-1]'(by omega)):=List.getElem?_eq_getElem _
     simp only[h0',decide_true,if_true,hw,aL,hg,Option.bind_some,h0,if_false];by_cases h3:aE[i-1]<c
     ·simp[h3,n6]
     ·simp[h3,n6]
   ·simp[h1,h1',h2]
 |_,_,0,_,hm=>by simp at hm
theorem ahO (n:Nat) (aE:List Int) (low high:Int) (hl:aE.length<4294967296) (hn:aE.length<n):F87 n aE low high=some (wg low high none aE):=by
 have:=X1 n aE low high hl aE 0 n rfl hn;rw[if_pos rfl] at this;exact this
theorem Yc (n0:Nat) (ks:List Int) (hks:dX ks=true) (w:ak) (l:List Int) (last:Int) (h0: -1≤last) (hc:dB ks last w.af=some l) (hr:w.aJ.length=l.length) (hl:w.aJ.length<4294967296):∀(x:List I) (i m:Nat),w.aJ.drop i=x→i≤w.aJ.length→x.length<m→xK (GY n0) m w.aJ (w.aJ.length:Int) (i:Int) w ks=some (bt (l.drop i) (w.aJ.drop i))
 | [],i,m+1,hd,h1,hm=>by
  have hq':w.aJ.length≤i:=by simpa using hd
  have hq:¬((i:Int)<(w.aJ.length:Int)):=by omega
  simp only[xK,GZ,GY,hq,decide_false,Bool.false_eq_true,if_false];rw[hd,List.drop_of_length_le (by omega)]
  rfl
 |x::xs,i,m+1,hd,h1,hm=>by
  obtain ⟨g1,g2,g3⟩:=aO hd;have hq:(i:Int)<(w.aJ.length:Int):=by omega
  obtain ⟨k,l',hk⟩:∃k l',l.drop i=k::l':=by
   rw[List.drop_eq_getElem_cons (by omega)]
   exact ⟨_,_,rfl⟩
  obtain ⟨k1,k2,k3⟩:=aO hk;obtain ⟨e1,e2⟩:=l7 hks h0 hc;have hcl:i<w.af.length:=by omega
  have hci:w.af[i]? =some w.af[i]:=List.getElem?_eq_getElem hcl;generalize w.af[i]=c at hci;obtain ⟨f1,f2,f3,f4⟩:=e2 i c hci;have hkk:=f4 k k1;have hb:bnd ks.length c=some c.toNat:=by unfold bnd;rw[if_pos ⟨f1,f2⟩]
  simp only[xK,GZ,hq,decide_true,if_true,aL,g1,Option.bind_some,wq];rw[hd,hk];simp only[bt];by_cases he:x.ax=k
  ·rw[tr hkk he];cases hv:eE x with
   |false=>simp
   |true=>
    have ih:=Yc n0 ks hks w l last h0 hc hr hl xs (i+1) m g2 (by omega) (by simp at hm;omega)
    rw[g2,k2] at ih;simp only[Bool.not_true,Bool.false_eq_true,if_false,hci,hb,Option.bind_some,Nat.zero_add,←f3,k1,he,bne_self_eq_false,bj g3 hl,ih];simp
  ·cases hv:eE x with
   |false=>simp[he]
   |true=>
    simp only[Bool.not_true,Bool.false_eq_true,if_false,hci,hb,Option.bind_some,Nat.zero_add,←f3,k1];simp[he]
 |_,_,0,_,_,hm=>by simp at hm
def hX (T:ai) (w:ak):Bool:=
 if w.fOp=1 then w.af.isEmpty&&(bt (aZ T) w.aJ&&dx (w.aJ.take T.av.toNat) w.av==0)
 else if w.fOp=2 then (match dB (aZ T) (T.av-1) w.af with|some l=>bt l w.aJ|none=>false)
 else w.af.isEmpty&&w.aJ.isEmpty
def wOK (T:ai) (w:ak):Bool:=bt (kZ T) w.av&&hX T w
section
variable {s:aa} {T:ai} {n:Nat}
theorem Qt {α:Type} (l:List α):((l.length:Int)==0)=l.isEmpty:=by cases l<;>simp;omega
theorem aid (w:ak) (hT:idx s.J w.ar=some T) (ht:cI T) (hn:2000000≤n) (hl:w.af.length≤1500000):F41 n s w=some (hX T w):=by
 have hc:=ht.aE;have k1:=ht.jG;have k2:=ht.bS;have hkl:=cr T;unfold F41 S7 hX;by_cases h1:w.fOp=1
 ·simp only[h1,beq_self_eq_true,if_true,Qt,Yq hT ht w.aJ (by omega:1000<n),Option.bind_some]
  cases w.af.isEmpty with
  |false=>simp
  |true=>
   simp only[if_true,Bool.true_and];cases hr:bt (aZ T) w.aJ with
   |false=>simp
   |true=>
    have hlen:=dD hr;simp only[if_true,ahS (n:=n) hT ht w.aJ (by omega),Option.bind_some]
    rw[wx n _ _ (by simp;omega) (by simp;omega)]
    simp
 ·have e1:(w.fOp==1)=false:=by simpa using h1
  simp only[e1,Bool.false_eq_true,if_false,h1];by_cases h2:w.fOp=2
  ·simp only[h2,beq_self_eq_true,if_true,Mv hT (by omega) (by omega:1000<n),Option.bind_some,hT]
   rw[bZ (by omega) (by omega)]
   have:=Yd n (by omega) (aZ T) (by omega) w (by omega) w.af 0 n (T.av-1) [] rfl (by omega) (by omega) (by omega) (by simp;omega)
   simpa using this
  ·have e2:(w.fOp==2)=false:=by simpa using h2
   simp only[e2,Bool.false_eq_true,if_false,h2,Qt];cases w.af.isEmpty<;>simp
theorem aia (w:ak) (hT:idx s.J w.ar=some T) (ht:cI T) (hn:2000000≤n) (hl:w.af.length≤1500000):F45 n s w=some (wOK T w):=by
 have hc:=ht.aE;have k1:=ht.jG;have k2:=ht.bS;have hkl:=cr T;unfold F45 S4 wOK hX;rw[ahP hT ht w.av (by omega),Option.bind_some]
 cases bt (kZ T) w.av with
 |false=>simp
 |true=>
  simp only[Bool.not_true,Bool.false_eq_true,if_false,Bool.true_and,sJ hT (by omega) (by omega:1000<n),Option.bind_some]
  by_cases h1:w.fOp=1
  ·simp only[h1,beq_self_eq_true,if_true,Qt,Yn hT ht w.aJ (by omega:1000<n),Option.bind_some]
   cases w.af.isEmpty with
   |false=>simp
   |true=>
    simp only[if_true,Bool.true_and];cases hr:bt (aZ T) w.aJ with
    |false=>simp
    |true=>
     have hlen:=dD hr;simp only[if_true,nD (n:=n) hT ht w.aJ (by omega),Option.bind_some]
     rw[kI n _ _ (by simp;omega) (by simp;omega)]
     simp
  ·have e1:(w.fOp==1)=false:=by simpa using h1
   simp only[e1,Bool.false_eq_true,if_false,h1];by_cases h2:w.fOp=2
   ·simp only[h2,beq_self_eq_true,if_true,hT,Option.bind_some];rw[ahO n _ _ _ (by omega) (by omega),Option.bind_some,E2 (ks:=aZ T) (last:=T.av-1) (.inl ⟨rfl,rfl⟩)]
    cases hcl:dB (aZ T) (T.av-1) w.af with
    |none=>simp
    |some l=>
     obtain ⟨q1,q2⟩:=l7 ht.ks (by omega) hcl
     simp only[Option.isSome_some,Bool.not_true,Bool.false_eq_true,if_false];by_cases hlen:w.aJ.length=w.af.length
     ·have e:((w.aJ.length:Int) !=(w.af.length:Int))=false:=by simp[hlen]
      rw[e];simp only[Bool.false_eq_true,if_false];have:=Yc n (aZ T) ht.ks w l (T.av-1) (by omega) hcl (by omega) (by omega) w.aJ 0 n rfl (by omega) (by omega)
      simpa using this
     ·have e:((w.aJ.length:Int) !=(w.af.length:Int))=true:=by simp;omega
      rw[e,r7 (by omega)]
      rfl
   ·have e2:(w.fOp==2)=false:=by simpa using h2
    simp only[e2,Bool.false_eq_true,if_false,h2,Qt];cases w.af.isEmpty<;>simp
end
end
structure SOK (s:aa):Prop where
 len:s.J.length≤8
 tab:∀t T,idx s.J t=some T→cI T
def mV:Option ak→ak→Bool
 |none,_=>false
 |some p,w=> !decide (gX p.ar p.av w.ar w.av<0)
def ew (s:aa):Option ak→List ak→Int
 |_,[]=>0
 |prev,w::ws=>
  match idx s.J w.ar with
  |none=>1
  |some T=>if w.fOp<1∨3<w.fOp then 1 else if (!wOK T w)=true then 270 else if mV prev w=true then 270 else ew s (some w) ws
def wB (w:ak):Prop:=w.af.length≤1500000∧w.av.length≤1500000
theorem Yl (n0:Nat) (s:aa) (hs:SOK s) (ws:List ak) (hl:ws.length<4294967296) (hb:∀w∈ws,wB w):∀(x:List ak) (i m:Nat),ws.drop i=x→x.length+2000000<m→ya (HE n0) m ws ws (ws.length:Int) (i:Int) s=some (ew s (if i=0 then none else ws[i-1]?) x)
 | [],i,m+1,hd,hm=>by
  have hq':ws.length≤i:=by simpa using hd
  have hq:¬((i:Int)<(ws.length:Int)):=by omega
  simp only[ya,HF,HE,hq,decide_false,Bool.false_eq_true,if_false];simp[ew]
 |w::x,i,m+1,hd,hm=>by
  obtain ⟨g1,g2,g3⟩:=aO hd;have hq:(i:Int)<(ws.length:Int):=by omega
  have hbw:=hb w (List.mem_of_getElem? g1);simp at hm;have ih:=Yl n0 s hs ws hl hb x (i+1) m g2 (by omega)
  rw[if_neg (by omega),show i+1-1=i by omega,g1] at ih
  simp only[ya,HF,hq,decide_true,if_true,aL,g1,Option.bind_some,bj g3 hl,ih,ew];by_cases h1:w.fOp<1
  ·have hor:w.fOp<1∨3<w.fOp:=.inl h1;cases hT:idx s.J w.ar<;>simp[h1]
  ·by_cases h2:3<w.fOp
   ·cases hT:idx s.J w.ar<;>simp[h1,h2]
   ·simp only[h1,h2,decide_false,Bool.false_eq_true,if_false,or_self];by_cases h3:w.ar<0
    ·have:idx s.J w.ar=none:=by unfold idx;rw[if_neg (by omega)]
     simp[h3,this]
    ·by_cases h4:w.ar<(s.J.length:Int)
     ·obtain ⟨T,hT⟩:∃T,idx s.J w.ar=some T:=by
       unfold idx;rw[if_pos (by omega),List.getElem?_eq_getElem (by omega)];exact ⟨_,rfl⟩
      have ht:=hs.tab _ _ hT;have hc:=ht.aE;have hkl:=zi ht;have k2:=ht.bS;simp only[h3,h4,decide_false,decide_true,Bool.not_true,Bool.false_eq_true,if_false,hT,aie hT ht (by omega:1000<m),Option.bind_some,Ys m w.av (kZ T) (by omega) (by omega),aid w hT ht (by omega:2000000≤m) hbw.1,wOK]
      rcases Bool.eq_false_or_eq_true (bt (kZ T) w.av) with hv|hv
      rotate_left
      ·simp[hv]
      ·rcases Bool.eq_false_or_eq_true (hX T w) with hf|hf
       rotate_left
       ·simp[hv,hf]
       ·simp only[hv,hf,Bool.not_true,Bool.false_eq_true,if_false,Bool.and_self];by_cases h0:i=0
        ·subst h0;simp[mV]
        ·have h0':0<(i:Int):=by omega
         have hw:w64 ((i:Int)-1)=((i-1:Nat):Int):=by rw[bZ (by omega) (by omega)];omega
         have hg:ws[i-1]? =some (ws[i-1]'(by omega)):=List.getElem?_eq_getElem _
         have hbp:=hb _ (List.mem_of_getElem? hg);generalize ws[i-1]=p at hg hbp;simp only[h0',decide_true,if_true,hw,aL,hg,Option.bind_some,h0,if_false,aic m p w (by have:=hbp.2;omega) (by have:=hbp.2;omega),mV]
         by_cases h5:gX p.ar p.av w.ar w.av<0
         ·simp[h5]
         ·simp[h5]
     ·have:idx s.J w.ar=none:=DE (by omega) h4
      simp[h3,h4,this]
 |_,_,0,_,hm=>by simp at hm
theorem Yk (n0:Nat) (s:aa) (hs:SOK s) (ws:List ak) (hl:ws.length<4294967296) (hb:∀w∈ws,wB w):∀(x:List ak) (i m:Nat),ws.drop i=x→x.length+2000000<m→xZ (HC n0) m ws ws (ws.length:Int) (i:Int) s=some (ew s (if i=0 then none else ws[i-1]?) x)
 | [],i,m+1,hd,hm=>by
  have hq':ws.length≤i:=by simpa using hd
  have hq:¬((i:Int)<(ws.length:Int)):=by omega
  simp only[xZ,HD,HC,hq,decide_false,Bool.false_eq_true,if_false];simp[ew]
 |w::x,i,m+1,hd,hm=>by
  obtain ⟨g1,g2,g3⟩:=aO hd;have hq:(i:Int)<(ws.length:Int):=by omega
  have hbw:=hb w (List.mem_of_getElem? g1);simp at hm;have ih:=Yk n0 s hs ws hl hb x (i+1) m g2 (by omega)
  rw[if_neg (by omega),show i+1-1=i by omega,g1] at ih
  simp only[xZ,HD,hq,decide_true,if_true,aL,g1,Option.bind_some,bj g3 hl,ih,ew];by_cases h1:w.fOp<1
  ·have hor:w.fOp<1∨3<w.fOp:=.inl h1;cases hT:idx s.J w.ar<;>simp[h1]
  ·by_cases h2:3<w.fOp
   ·cases hT:idx s.J w.ar<;>simp[h1,h2]
   ·simp only[h1,h2,decide_false,Bool.false_eq_true,if_false,or_self];by_cases h3:w.ar<0
    ·have:idx s.J w.ar=none:=by unfold idx;rw[if_neg (by omega)]
     simp[h3,this]
    ·by_cases h4:w.ar<(s.J.length:Int)
     ·obtain ⟨T,hT⟩:∃T,idx s.J w.ar=some T:=by
       unfold idx;rw[if_pos (by omega),List.getElem?_eq_getElem (by omega)];exact ⟨_,rfl⟩
      have ht:=hs.tab _ _ hT;simp only[h3,h4,decide_false,decide_true,Bool.not_true,Bool.false_eq_true,if_false,hT,Option.bind_some,aia w hT ht (by omega:2000000≤m) hbw.1]
      rcases Bool.eq_false_or_eq_true (wOK T w) with hf|hf
      rotate_left
      ·simp[hf]
      · simp only[hf,Bool.not_true,Bool.false_eq_true,if_false];by_cases h0:i=0
        ·subst h0;simp[mV]
        ·have h0':0<(i:Int):=by omega
         have hw:w64 ((i:Int)-1)=((i-1:Nat):Int):=by rw[bZ (by omega) (by omega)];omega
         have hg:ws[i-1]? =some (ws[i-1]'(by omega)):=List.getElem?_eq_getElem _
         have hbp:=hb _ (List.mem_of_getElem? hg);generalize ws[i-1]=p at hg hbp;simp only[h0',decide_true,if_true,hw,aL,hg,Option.bind_some,h0,if_false,Yt m _ _ p.av w.av (by have:=hbp.2;omega) (by have:=hbp.2;omega),mV]
         by_cases h5:gX p.ar p.av w.ar w.av<0
         ·simp[h5]
         ·simp[h5]
     ·have:idx s.J w.ar=none:=DE (by omega) h4
      simp[h3,h4,this]
 |_,_,0,_,hm=>by simp at hm
def nF (s:aa) (e:Int) (ws:List ak):Int:=if e=0 then (if 64<ws.length then 2 else ew s none ws) else e
theorem air (n:Nat) (s:aa) (e:Int) (he:F38 n s=some e) (hs:e=0→SOK s) (ws:List ak) (hb:∀w∈ws,wB w) (hn:2000100≤n):F12 n s ws=some (nF s e ws):=by
 unfold F12 Tu nF;rw[he,Option.bind_some];by_cases h0:e=0
 ·subst h0;simp only[bne_self_eq_false,Bool.false_eq_true,if_false,if_true];by_cases h1:64<ws.length
  ·have h1':(64:Int)<(ws.length:Int):=by omega
   simp only[h1,h1',decide_true,if_true]
  ·have h1':¬(64:Int)<(ws.length:Int):=by omega
   simp only[h1,h1',decide_false,Bool.false_eq_true,if_false];have:=Yl n s (hs rfl) ws (by omega) hb ws 0 n rfl (by omega)
   rw[if_pos rfl] at this;exact this
 ·have:(e !=0)=true:=by simpa using h0
  simp[this,h0]
theorem aip (n:Nat) (s:aa) (e:Int) (he:F44 n s=some e) (hs:e=0→SOK s) (ws:List ak) (hb:∀w∈ws,wB w) (hn:2000100≤n):F14 n s ws=some (nF s e ws):=by
 unfold F14 Tq nF;rw[he,Option.bind_some];by_cases h0:e=0
 ·subst h0;simp only[bne_self_eq_false,Bool.false_eq_true,if_false,if_true];by_cases h1:64<ws.length
  ·have h1':(64:Int)<(ws.length:Int):=by omega
   simp only[h1,h1',decide_true,if_true]
  ·have h1':¬(64:Int)<(ws.length:Int):=by omega
   simp only[h1,h1',decide_false,Bool.false_eq_true,if_false];have:=Yk n s (hs rfl) ws (by omega) hb ws 0 n rfl (by omega)
   rw[if_pos rfl] at this;exact this
 ·have:(e !=0)=true:=by simpa using h0
  simp[this,h0]
def nmL (b:UInt8):Bool:=decide (97≤b.toNat)&&decide (b.toNat≤122)
def nmC (b:UInt8):Bool:=nmL b||((decide (48≤b.toNat)&&decide (b.toNat≤57))||decide (b.toNat=95))
def AH:List UInt8→Bool
 | []=>false
 |b::l=>nmL b&&l.all nmC
def mY (s:ByteArray):Bool:=decide (s.size≤32)&&AH s.data.toList
theorem kG (s:ByteArray):s.data.toList.length=s.size:=by simp
theorem agI {s:ByteArray} {p:Nat} {b:UInt8} (h:s.data.toList[p]? =some b):∃hp:p<s.size,s[p]'hp=b:=by
 have h1:=(List.getElem?_eq_some_iff.1 h);obtain ⟨q1,q2⟩:=h1;have hp:p<s.size:=by simpa using q1
 have q3:s.data[p]=b:=by simpa using q2
 exact ⟨hp,q3⟩
theorem E8 (k:ByteArray→Nat→Option Bool) (m:Nat) (s:ByteArray) (p:Nat) (q:Nat) (c:Int) (l:Bool):wH k m (p:Int) c l s q=if l=true then k s q else if p=0 then some false else if c=95∨(48≤c∧c≤57) then k s q else some false:=by
 unfold wH;cases l with
 |true=>simp
 |false=>
  by_cases hp:p=0
  ·simp[hp]
  ·have hp':¬(p:Int)=0:=by omega
   by_cases h1:c=95
   ·simp[hp,h1]
   ·by_cases h2:c<48
    ·have:¬48≤c:=by omega
     simp[hp,h1,h2,this]
    ·by_cases h3:57<c
     ·have:¬c≤57:=by omega
      simp[hp,h1,h2,h3,this]
     ·have h2':48≤c:=by omega
      have h3':c≤57:=by omega
      simp[hp,h1,h2,h3,h2',h3']
theorem E5 (n0:Nat) (m:Nat) (s:ByteArray) (p:Nat) (b:UInt8) (hb:s.data.toList[p]? =some b):mg (qm n0) (m+1) s p=if nmL b=true then mg (qm n0) m s (p+1) else if p=0 then some false else if nmC b=true then mg (qm n0) m s (p+1) else some false:=by
 obtain ⟨hp,he⟩:=agI hb;simp only[mg,Cl,hp,decide_true,if_true];rw[E8,E8];by_cases ha:b.toNat<128
 ·have hd:=decode_ascii s p hp (by rw[he];exact ha)
  rw[he] at hd;rw[hd];simp only[nmL,nmC];by_cases h1:97≤b.toNat
  ·have h1':¬((b.toNat:Int)<97):=by omega
   by_cases h2:b.toNat≤122
   ·have h2':¬(122<(b.toNat:Int)):=by omega
    simp[h1,h1',h2,h2']
   ·have h2':(122<(b.toNat:Int)):=by omega
    have e1:¬(b.toNat:Int)=95:=by omega
    have e2:¬(b.toNat:Int)≤57:=by omega
    have e3:¬b.toNat≤57:=by omega
    have e4:¬b.toNat=95:=by omega
    simp[h1,h1',h2,h2',e1,e2,e3,e4]
  ·have h1':((b.toNat:Int)<97):=by omega
   by_cases e1:b.toNat=95
   ·simp[h1,h1',e1]
   ·have e1':¬(b.toNat:Int)=95:=by omega
    by_cases e2:48≤b.toNat
    ·have e2':48≤(b.toNat:Int):=by omega
     by_cases e3:b.toNat≤57
     ·have e3':(b.toNat:Int)≤57:=by omega
      simp[h1,h1',e1,e1',e2,e2',e3,e3']
     ·have e3':¬(b.toNat:Int)≤57:=by omega
      simp[h1,h1',e1,e1',e2,e2',e3,e3']
    ·have e2':¬48≤(b.toNat:Int):=by omega
     simp[h1,h1',e1,e1',e2,e2']
 ·have hd:=(decode_high s p hp (by rw[he];omega)).1
  generalize (Utf8.decode s p)=d at hd;obtain ⟨c,q⟩:=d;simp only at hd;have a1:¬((c:Int)<97):=by omega
  have a2:122<(c:Int):=by omega
  have a3:¬((c:Int)=95∨(48≤(c:Int)∧(c:Int)≤57)):=by omega
  have b1:nmL b=false:=by simp[nmL];omega
  have b2:nmC b=false:=by simp[nmC,b1];omega
  simp[a1,a2,a3,b1,b2]
theorem Pe (n0:Nat) (s:ByteArray):∀(x:List UInt8) (p m:Nat),s.data.toList.drop p=x→0<p→x.length<m→mg (qm n0) m s p=some (x.all nmC)
 | [],p,m+1,hd,hp,hm=>by
  have:s.data.toList.length≤p:=by simpa using hd
  have hq:¬p<s.size:=by rw[kG] at this;omega
  simp only[mg,Cl,qm,hq,decide_false,Bool.false_eq_true,if_false];rfl
 |b::x,p,m+1,hd,hp,hm=>by
  obtain ⟨g1,g2,g3⟩:=aO hd;have ih:=Pe n0 s x (p+1) m g2 (by omega) (by simp at hm;omega)
  rw[E5 n0 m s p b g1,if_neg (by omega:¬p=0),ih]
  simp only[List.all_cons];have:nmL b=true→nmC b=true:=fun h=>by simp[nmC,h]
  cases hl:nmL b with
  |true=>simp[this hl]
  |false=>cases hc:nmC b<;>simp
 |_,_,0,_,_,hm=>by simp at hm
theorem Pm (n:Nat) (s:ByteArray) (hn:100<n):ME n s=some (mY s):=by
 unfold ME M7 mY;by_cases h0:s.size=0
 ·have:s.data.toList= []:=by
   have:=kG s;exact List.eq_nil_of_length_eq_zero (by omega)
  simp[h0,this,AH]
 ·have e1:¬(s.size:Int)<1:=by omega
  by_cases h1:s.size≤32
  ·have e2:¬32<(s.size:Int):=by omega
   simp only[e1,e2,decide_false,Bool.false_eq_true,if_false,h1,decide_true,Bool.true_and];obtain ⟨m,rfl⟩:∃m,n=m+1:=⟨n-1,by omega⟩
   cases hx:s.data.toList with
   |nil=>have:=kG s;rw[hx] at this;simp at this;omega
   |cons b l=>
    have hl:l.length<32:=by have:=kG s;rw[hx] at this;simp at this;omega
    rw[E5 (m+1) m s 0 b (by rw[hx];rfl)]
    simp only[if_true,AH];cases hb:nmL b with
    |false=>simp
    |true=>
     simp only[if_true,Bool.true_and];exact Pe (m+1) s l 1 m (by rw[hx];rfl) (by omega) (by omega)
  ·have e2:32<(s.size:Int):=by omega
   simp only[e1,e2,decide_false,decide_true,Bool.false_eq_true,if_false,if_true,h1,Bool.false_and]
theorem Ym (n0:Nat) (m:Nat) (s:ByteArray) (p:Nat) (hs:s.size<4294967296) (b:UInt8) (hb:s.data.toList[p]? =some b):ny (sL n0) (m+1) s (p:Int)=if nmC b=true then ny (sL n0) m s ((p+1:Nat):Int) else some false:=by
 have hp:p<s.size:=by have:=(List.getElem?_eq_some_iff.1 hb).1;rwa[kG] at this
 have hq:(p:Int)<(s.size:Int):=by omega
 have hi:vB s (p:Int)=some b:=by simp[vB];simpa using hb
 simp only[ny,Ce,mi,hq,decide_true,if_true,hi,Option.bind_some,bj hp hs];simp only[nmC,nmL];by_cases h1:97≤b.toNat
 ·have h1':¬((b.toNat:Int)<97):=by omega
  by_cases h2:b.toNat≤122
  ·have h2':¬(122<(b.toNat:Int)):=by omega
   simp[h1,h1',h2,h2']
  ·have h2':(122<(b.toNat:Int)):=by omega
   have e1:¬(b.toNat:Int)=95:=by omega
   have e2:¬(b.toNat:Int)<48:=by omega
   have e5:57<(b.toNat:Int):=by omega
   have e3:¬b.toNat≤57:=by omega
   have e4:¬b.toNat=95:=by omega
   simp[h1,h1',h2,h2',e1,e2,e3,e4,e5]
 ·have h1':((b.toNat:Int)<97):=by omega
  by_cases e2:48≤b.toNat
  ·have e2':¬(b.toNat:Int)<48:=by omega
   by_cases e3:b.toNat≤57
   ·have e3':¬57<(b.toNat:Int):=by omega
    simp[h1,h1',e2,e2',e3,e3']
   ·have e3':57<(b.toNat:Int):=by omega
    by_cases e1:b.toNat=95
    ·simp[e1]
    ·have e1':¬(b.toNat:Int)=95:=by omega
     simp[h1,h1',e2,e2',e3,e3',e1,e1']
  ·have e2':(b.toNat:Int)<48:=by omega
   have e1:¬b.toNat=95:=by omega
   have e1':¬(b.toNat:Int)=95:=by omega
   simp[h1,h1',e2,e2',e1,e1']
theorem Pc (n0:Nat) (s:ByteArray) (hs:s.size<4294967296):∀(x:List UInt8) (p m:Nat),s.data.toList.drop p=x→x.length<m→ny (sL n0) m s (p:Int)=some (x.all nmC)
 | [],p,m+1,hd,hm=>by
  have:s.data.toList.length≤p:=by simpa using hd
  have hq:¬(p:Int)<(s.size:Int):=by rw[kG] at this;omega
  simp only[ny,Ce,sL,hq,decide_false,Bool.false_eq_true,if_false];rfl
 |b::x,p,m+1,hd,hm=>by
  obtain ⟨g1,g2,g3⟩:=aO hd;have ih:=Pc n0 s hs x (p+1) m g2 (by simp at hm;omega)
  rw[Ym n0 m s p hs b g1,ih];simp only[List.all_cons];cases hc:nmC b<;>simp
 |_,_,0,_,hm=>by simp at hm
theorem Pj (n:Nat) (s:ByteArray) (hn:100<n):MC n s=some (mY s):=by
 unfold MC M0 mY;by_cases h0:s.size=0
 ·have:s.data.toList= []:=by
   have:=kG s;exact List.eq_nil_of_length_eq_zero (by omega)
  simp[h0,this,AH]
 ·have e1:((s.size:Int)==0)=false:=by rw[beq_eq_false_iff_ne];omega
  by_cases h1:s.size≤32
  ·have e2:¬32<(s.size:Int):=by omega
   simp only[e1,e2,decide_false,Bool.false_eq_true,if_false,h1,decide_true,Bool.true_and];cases hx:s.data.toList with
   |nil=>have:=kG s;rw[hx] at this;simp at this;omega
   |cons b l=>
    have hi:vB s 0=some b:=by simp only[vB,hx];rfl
    have hl:l.length<32:=by have:=kG s;rw[hx] at this;simp at this;omega
    simp only[hi,Option.bind_some,AH];have:=Pc n s (by omega) s.data.toList 0 n rfl (by rw[kG];omega)
    rw[show ((0:Nat):Int)=0 from rfl,hx,List.all_cons] at this;rw[this];by_cases h3:97≤b.toNat
    ·have h3':¬((b.toNat:Int)<97):=by omega
     by_cases h4:b.toNat≤122
     ·have h4':¬(122<(b.toNat:Int)):=by omega
      have hb:nmL b=true:=by simp[nmL,h3,h4]
      simp[h3',h4',hb,nmC]
     ·have h4':(122<(b.toNat:Int)):=by omega
      have hb:nmL b=false:=by simp[nmL];omega
      simp[h3',h4',hb]
    ·have h3':((b.toNat:Int)<97):=by omega
     have hb:nmL b=false:=by simp[nmL];omega
     simp[h3',hb]
  ·have e2:32<(s.size:Int):=by omega
   simp only[e1,e2,decide_false,decide_true,Bool.false_eq_true,if_false,if_true,h1,Bool.false_and]
theorem AJ {β:Type} (d:β) (k:ByteArray) (v:β) (x:ByteArray):∀m:List (ByteArray×β),fA (fM m k v) x d=if x=k then v else fA m x d
 | []=>by simp[fM,fA]
 |p::m=>by
  simp only[fM];by_cases h:k=p.1
  ·simp only[h,if_true,fA];by_cases h2:x=p.1
   ·simp[h2]
   ·simp[h2]
  ·simp only[h,if_false,fA];by_cases h2:x=p.1
   ·have:¬x=k:=fun e=>h (e.symm.trans h2)
    simp[h2];intro e;exact absurd e.symm h
   ·simp only[h2,if_false];exact AJ d k v x m
def gN (x:ByteArray):List ByteArray→Bool
 | []=>false
 |y::l=>decide (x=y)||gN x l
theorem Ki (x:ByteArray):∀(a b:List ByteArray),gN x (a++b)=(gN x a||gN x b)
 | [],b=>by simp[gN]
 |y::a,b=>by simp[gN,Ki x a b,Bool.or_assoc]
def l8:List ByteArray→List aS→Bool
 |_,[]=>true
 |seen,c::cs=>mY c.br&&(!gN c.br seen&&(kOK c.ax&&l8 (seen++ [c.br]) cs))
def yR (seen:List ByteArray) (T:ai):Bool:=mY T.br&&(!gN T.br seen&&(decide (1≤T.av)&&(decide (T.av≤(T.af.length:Int))&&l8 [] T.af)))
def iy:List ByteArray→List ai→Bool
 |_,[]=>true
 |seen,T::Ts=>yR seen T&&iy (seen++ [T.br]) Ts
def Al (m:List (ByteArray×Bool)) (seen:List ByteArray):Prop:=∀x,fA m x false=gN x seen
theorem Al.put {m:List (ByteArray×Bool)} {seen:List ByteArray} (h:Al m seen) (k:ByteArray):Al (fM m k true) (seen++ [k]):=fun x=>by
 rw[AJ,h x,Ki];by_cases hx:x=k
 ·simp[hx,gN]
 ·simp[hx,gN]
theorem L7 (k:List ai→Int→Int→ByteArray→Int→Int→List aS→Int→List (ByteArray×Bool)→ai→Option Bool) (cs:List aS) (hl:cs.length≤8) (a1:List ai) (a2 a3:Int) (a4:ByteArray) (a5 a6:Int) (a7:List aS) (a8:Int) (a9:List (ByteArray×Bool)) (T:ai):∀(x:List aS) (i m:Nat) (mp:List (ByteArray×Bool)) (seen:List ByteArray),cs.drop i=x→x.length+200<m→Al mp seen→
  xD k m a1 a2 a3 a4 a5 a6 a7 a8 cs (cs.length:Int) (i:Int) a9 mp T=if l8 seen x=true then k a1 a2 a3 a4 a5 a6 a7 a8 a9 T else some false
 | [],i,m+1,mp,seen,hd,hm,hs=>by
  have:cs.length≤i:=by simpa using hd
  have hq:¬((i:Int)<(cs.length:Int)):=by omega
  simp only[xD,GD,hq,decide_false,Bool.false_eq_true,if_false,l8,if_true]
 |c::x,i,m+1,mp,seen,hd,hm,hs=>by
  obtain ⟨g1,g2,g3⟩:=aO hd;have hq:(i:Int)<(cs.length:Int):=by omega
  simp at hm;have ih:=L7 k cs hl a1 a2 a3 a4 a5 a6 a7 a8 a9 T x (i+1) m _ _ g2 (by omega) (hs.put c.br)
  simp only[xD,GD,hq,decide_true,if_true,aL,g1,Option.bind_some,Pm m c.br (by omega),hs c.br,bj g3 (by omega),ih,l8]
  rcases Bool.eq_false_or_eq_true (mY c.br) with hv|hv<;>rcases Bool.eq_false_or_eq_true (gN c.br seen) with h2|h2<;>by_cases h3:c.ax=3<;>by_cases h4:c.ax=4<;>by_cases h5:c.ax=5<;>simp[hv,h2,h3,h4,h5,kOK]
 |_,_,0,_,_,_,hm,_=>by simp at hm
theorem L6 (n0:Nat) (ts:List ai) (hl:ts.length≤8) (hc:∀T∈ts,T.af.length≤8):∀(x:List ai) (i m:Nat) (mp:List (ByteArray×Bool)) (seen:List ByteArray),ts.drop i=x→x.length+1000<m→Al mp seen→
  ur (B1 n0) m ts (ts.length:Int) (i:Int) mp=some (iy seen x)
 | [],i,m+1,mp,seen,hd,hm,hs=>by
  have:ts.length≤i:=by simpa using hd
  have hq:¬((i:Int)<(ts.length:Int)):=by omega
  simp only[ur,GB,B1,hq,decide_false,Bool.false_eq_true,if_false,iy]
 |T::x,i,m+1,mp,seen,hd,hm,hs=>by
  obtain ⟨g1,g2,g3⟩:=aO hd;have hq:(i:Int)<(ts.length:Int):=by omega
  simp at hm;have hT:=hc T (List.mem_of_getElem? g1);have ih:=L6 n0 ts hl hc x (i+1) m _ _ g2 (by omega) (hs.put T.br)
  have hcol:=L7 (GC (ur (B1 n0) m) m) T.af hT ts (ts.length:Int) (i:Int) T.br T.av T.av T.af (T.af.length:Int) (fM mp T.br true) T T.af 0 m [] [] rfl (by omega) (fun x=>by simp[fA,gN])
  rw[show ((0:Nat):Int)=0 from rfl] at hcol;simp only[ur,GB,hq,decide_true,if_true,aL,g1,Option.bind_some,Pm m T.br (by omega),hs T.br,hcol,GC,bj g3 (by omega),ih,iy,yR]
  have q1:decide (T.av<1)= !decide (1≤T.av):=by rw[←decide_not];exact decide_eq_decide.2 (by omega)
  have q2:decide ((T.af.length:Int)<T.av)= !decide (T.av≤(T.af.length:Int)):=by rw[←decide_not];exact decide_eq_decide.2 (by omega)
  rw[q1,q2];rcases Bool.eq_false_or_eq_true (mY T.br) with hv|hv<;>rcases Bool.eq_false_or_eq_true (gN T.br seen) with h2|h2<;>rcases Bool.eq_false_or_eq_true (decide (1≤T.av)) with h3|h3<;>rcases Bool.eq_false_or_eq_true (decide (T.av≤(T.af.length:Int))) with h4|h4<;>rcases Bool.eq_false_or_eq_true (l8 [] T.af) with h5|h5<;>simp only[hv,h2,h3,h4,h5,Bool.not_true,Bool.not_false,Bool.false_eq_true,if_false,if_true,Bool.true_and,Bool.false_and]
 |_,_,0,_,_,_,hm,_=>by simp at hm
theorem ahV (n:Nat) (s:aa) (hl:s.J.length≤8) (hc:∀T∈s.J,T.af.length≤8) (hn:2000<n):F76 n s=some (iy [] s.J):=
 L6 n s.J hl hc s.J 0 n [] [] rfl (by omega) (fun x=>by simp[fA,gN])
theorem L2 (k:ai→Option Bool) (s:aa) (hl:s.J.length≤8) (i:Nat) (hi:i≤s.J.length) (T:ai):∀(x:List ai) (j m:Nat),(s.J.take i).drop j=x→x.length<m→j≤i→xA k m (i:Int) (j:Int) s T=if gN T.br (x.map (·.br))=true then some false else k T
 | [],j,m+1,hd,hm,hj=>by
  have:(s.J.take i).length≤j:=by simpa using hd
  rw[List.length_take] at this;have hq:¬((j:Int)<(i:Int)):=by omega
  simp only[xA,Gt,hq,decide_false,Bool.false_eq_true,if_false,List.map_nil,gN]
 |G::x,j,m+1,hd,hm,hj=>by
  obtain ⟨g1,g2,g3⟩:=aO hd;rw[List.length_take] at g3;have hq:(j:Int)<(i:Int):=by omega
  have hg:s.J[j]? =some G:=by rw[List.getElem?_take,if_pos (by omega)] at g1;exact g1
  have ih:=L2 k s hl i hi T x (j+1) m g2 (by simp at hm;omega) (by omega)
  have hw:w64 ((j:Int)+1)=((j+1:Nat):Int):=by rw[bZ (by omega) (by omega)];rfl
  simp only[xA,Gt,hq,decide_true,if_true,aL,hg,Option.bind_some,hw,ih,List.map_cons,gN];by_cases h:G.br=T.br
  ·simp[h]
  ·have h':¬T.br=G.br:=fun e=>h e.symm
   simp[h,h']
 |_,_,0,_,hm,_=>by simp at hm
theorem L1 (k:Int→Int→List aS→Int→aS→aS→Int→Bool→ai→Option Bool) (T:ai) (hl:T.af.length≤8) (i:Nat) (c:aS) (hc:T.af[i]? =some c) (a1 a2:Int) (a3:List aS) (a4:Int) (a5 a6:aS) (a7:Int) (a8:Bool):∀(x:List aS) (j m:Nat),(T.af.take i).drop j=x→x.length<m→j≤i→
  xz k m (i:Int) (j:Int) a1 a2 a3 a4 a5 a6 a7 a8 T=if gN c.br (x.map (·.br))=true then some false else k a1 a2 a3 a4 a5 a6 a7 a8 T
 | [],j,m+1,hd,hm,hj=>by
  have:(T.af.take i).length≤j:=by simpa using hd
  have hi:=(List.getElem?_eq_some_iff.1 hc).1;rw[List.length_take] at this;have hq:¬((j:Int)<(i:Int)):=by omega
  simp only[xz,Gs,hq,decide_false,Bool.false_eq_true,if_false,List.map_nil,gN]
 |G::x,j,m+1,hd,hm,hj=>by
  obtain ⟨g1,g2,g3⟩:=aO hd;have hi:=(List.getElem?_eq_some_iff.1 hc).1;rw[List.length_take] at g3;have hq:(j:Int)<(i:Int):=by omega
  have hg:T.af[j]? =some G:=by rw[List.getElem?_take,if_pos (by omega)] at g1;exact g1
  have ih:=L1 k T hl i c hc a1 a2 a3 a4 a5 a6 a7 a8 x (j+1) m g2 (by simp at hm;omega) (by omega)
  have hw:w64 ((j:Int)+1)=((j+1:Nat):Int):=by rw[bZ (by omega) (by omega)];rfl
  simp only[xz,Gs,hq,decide_true,if_true,aL,hg,hc,Option.bind_some,hw,ih,List.map_cons,gN];by_cases h:G.br=c.br
  ·simp[h]
  ·have h':¬c.br=G.br:=fun e=>h e.symm
   simp[h,h']
 |_,_,0,_,hm,_=>by simp at hm
theorem L0 (n0:Nat) (T:ai) (hl:T.af.length≤8):∀(x:List aS) (i m:Nat),T.af.drop i=x→x.length+200<m→uk (BZ n0) m (T.af.length:Int) (i:Int) T=some (l8 ((T.af.take i).map (·.br)) x)
 | [],i,m+1,hd,hm=>by
  have:T.af.length≤i:=by simpa using hd
  have hq:¬((i:Int)<(T.af.length:Int)):=by omega
  simp only[uk,Gq,BZ,hq,decide_false,Bool.false_eq_true,if_false,l8]
 |c::x,i,m+1,hd,hm=>by
  obtain ⟨g1,g2,g3⟩:=aO hd;have hq:(i:Int)<(T.af.length:Int):=by omega
  simp at hm;have ih:=L0 n0 T hl x (i+1) m g2 (by omega)
  have hin:=fun b=>L1 (Gr (uk (BZ n0) m) m) T hl i c g1 (T.af.length:Int) (i:Int) T.af (i:Int) c c c.ax b (T.af.take i) 0 m rfl (by simp;omega) (by omega)
  rw[show ((0:Nat):Int)=0 from rfl] at hin;rw[List.take_succ,g1] at ih;simp only[Option.toList_some,List.map_append,List.map_cons,List.map_nil] at ih;simp only[uk,Gq,hq,decide_true,if_true,aL,g1,Option.bind_some,Pj m c.br (by omega),Ph,hin,Gr,bj g3 (by omega),ih,l8]
  rcases Bool.eq_false_or_eq_true (mY c.br) with hv|hv<;>rcases Bool.eq_false_or_eq_true (kOK c.ax) with h3|h3<;>rcases Bool.eq_false_or_eq_true (gN c.br ((T.af.take i).map (·.br))) with h2|h2<;>simp only[hv,h2,h3,Bool.not_true,Bool.not_false,Bool.false_eq_true,if_false,if_true,Bool.true_and,Bool.false_and]
 |_,_,0,_,hm=>by simp at hm
theorem ahR (n:Nat) (s:aa) (hl:s.J.length≤8) (i:Nat) (T:ai) (hT:s.J[i]? =some T) (hc:T.af.length≤8) (hn:1000<n):F83 n s (i:Int)=some (yR ((s.J.take i).map (·.br)) T):=by
 have hi:=(List.getElem?_eq_some_iff.1 hT).1;unfold F83 SD yR;simp only[aL,hT,Option.bind_some,Pj n T.br (by omega)]
 rcases Bool.eq_false_or_eq_true (mY T.br) with Q4|Q4
 rotate_left
 ·simp[Q4]
 ·simp only[Q4,Bool.not_true,Bool.false_eq_true,if_false,Bool.true_and];have h0:=L2 (Gp n) s hl i (by omega) T (s.J.take i) 0 n rfl (by simp;omega) (by omega)
  rw[show ((0:Nat):Int)=0 from rfl] at h0;have h1:=L0 n T hc T.af 0 n rfl (by omega)
  rw[show ((0:Nat):Int)=0 from rfl,List.take_zero,List.map_nil] at h1;simp only[h0,Gp,h1];by_cases e0:T.af.length=0
  ·have e1:((T.af.length:Int)==0)=true:=by simp[e0]
   by_cases h3:1≤T.av
   ·have:¬T.av≤(T.af.length:Int):=by omega
    simp only[e1,if_true,this,decide_false,Bool.false_and,Bool.and_false]
   ·simp only[e1,if_true,h3,decide_false,Bool.false_and,Bool.and_false]
  ·have e1:((T.af.length:Int)==0)=false:=by rw[beq_eq_false_iff_ne];omega
   simp only[e1,Bool.false_eq_true,if_false];by_cases h3:T.av<1
   ·have:¬1≤T.av:=by omega
    simp[h3,this]
   ·have h3':1≤T.av:=by omega
    by_cases h4:(T.af.length:Int)<T.av
    ·have:¬T.av≤(T.af.length:Int):=by omega
     simp[h3,h3',h4,this]
    ·have h4':T.av≤(T.af.length:Int):=by omega
     rcases Bool.eq_false_or_eq_true (gN T.br ((s.J.take i).map (·.br))) with h2|h2<;>simp only[h2,h3,h3',h4,h4',decide_true,decide_false,Bool.not_true,Bool.not_false,Bool.false_eq_true,if_false,if_true,Bool.true_and,Bool.false_and]
theorem Lz:∀{cs:List aS} {seen:List ByteArray},l8 seen cs=true→dX (cs.map (·.ax))=true
 | [],_,_=>rfl
 |c::cs,seen,h=>by
  simp only[l8,Bool.and_eq_true] at h;simp only[List.map_cons,dX,List.all_cons,Bool.and_eq_true];exact ⟨h.2.2.1,Lz h.2.2.2⟩
theorem aew {seen:List ByteArray} {T:ai} (hc:T.af.length≤8) (h:yR seen T=true):cI T:=by
 simp only[yR,Bool.and_eq_true,decide_eq_true_eq] at h;exact ⟨h.2.2.1,h.2.2.2.1,hc,Lz h.2.2.2.2⟩
theorem HV:∀{ts:List ai} {seen:List ByteArray},(∀T∈ts,T.af.length≤8)→iy seen ts=true→∀T∈ts,cI T
 | [],_,_,_,T,hT=>by simp at hT
 |G::ts,seen,hc,h,T,hT=>by
  simp only[iy,Bool.and_eq_true] at h;rcases List.mem_cons.1 hT with rfl|hT
  ·exact aew (hc _ (by simp)) h.1
  ·exact HV (fun T hT=>hc T (by simp[hT])) h.2 T hT
def jr (tc:List aS):List aS→List Int→Bool
 |_,[]=>true
 | [],_::_=>false
 |g::gs,c::cs=>match idx tc c with|none=>false|some x=>x.ax==g.ax&&jr tc gs cs
def YV (s:aa) (T:ai) (r:aF):Bool:=match idx s.J r.ar with|none=>false|some G=>((r.af.length:Int)==G.av)&&jr T.af G.af r.af
def lO (s:aa) (T:ai):List aF→Bool
 | []=>true
 |r::rs=>YV s T r&&lO s T rs
def allRefs (s:aa):List ai→Bool
 | []=>true
 |T::ts=>lO s T T.bg&&allRefs s ts
theorem qN {α:Type} (xs:List α) (i:Int):(i<0∧idx xs i=none)∨(¬i<0∧¬i<(xs.length:Int)∧idx xs i=none)∨(¬i<0∧i<(xs.length:Int)∧∃x,idx xs i=some x):=by
 by_cases h:i<0
 ·exact .inl ⟨h,by unfold idx;rw[if_neg (by omega)]⟩
 ·by_cases h2:i<(xs.length:Int)
  ·refine .inr (.inr ⟨h,h2,xs[i.toNat]'(by omega),?_⟩)
   unfold idx;rw[if_pos (by omega),List.getElem?_eq_getElem (by omega)]
  ·exact .inr (.inl ⟨h,h2,DE (by omega) h2⟩)
theorem L5 (k:List ai→Int→Int→List aF→Int→Int→Int→List ai→Int→aa→ai→aF→Option Bool) (T G:ai) (cs:List Int) (hc:cs.length≤G.af.length) (hg:G.af.length≤8) (a1:List ai) (a2 a3:Int) (a4:List aF) (a5 a6 a7:Int) (a8:List ai) (a9:Int) (s:aa) (r:aF):∀(x:List Int) (i m:Nat),cs.drop i=x→x.length<m→
  xC k m a1 a2 a3 a4 a5 a6 a7 a8 a9 cs (cs.length:Int) (i:Int) s T G r=if jr T.af (G.af.drop i) x=true then k a1 a2 a3 a4 a5 a6 a7 a8 a9 s T r else some false
 | [],i,m+1,hd,hm=>by
  have:cs.length≤i:=by simpa using hd
  have hq:¬((i:Int)<(cs.length:Int)):=by omega
  simp only[xC,GA,hq,decide_false,Bool.false_eq_true,if_false,jr,if_true]
 |c::x,i,m+1,hd,hm=>by
  obtain ⟨g1,g2,g3⟩:=aO hd;have hq:(i:Int)<(cs.length:Int):=by omega
  have hlt:i<G.af.length:=by omega
  have hgi:G.af[i]? =some G.af[i]:=List.getElem?_eq_getElem hlt;have hdr:G.af.drop i=G.af[i]::G.af.drop (i+1):=List.drop_eq_getElem_cons hlt;generalize G.af[i]=g at hgi hdr;have ih:=L5 k T G cs hc hg a1 a2 a3 a4 a5 a6 a7 a8 a9 s r x (i+1) m g2 (by simp at hm;omega)
  simp only[xC,GA,hq,decide_true,if_true,aL,g1,hgi,Option.bind_some,bj g3 (by omega),ih]
  rw[hdr];simp only[jr];rcases qN T.af c with ⟨h1,h2⟩|⟨h1,h3,h2⟩|⟨h1,h3,y,h2⟩
  ·simp only[h1,h2,decide_true,if_true,Bool.false_eq_true,if_false]
  ·simp only[h1,h2,h3,decide_false,Bool.not_false,if_true,Bool.false_eq_true,if_false]
  ·simp only[h1,h2,h3,decide_false,decide_true,Bool.not_true,Bool.false_eq_true,if_false,Option.bind_some];by_cases h4:y.ax=g.ax
   ·simp[h4]
   ·simp[h4]
 |_,_,0,_,hm=>by simp at hm
theorem L4 (k:List ai→Int→Int→aa→Option Bool) (s:aa) (hs:∀t G,idx s.J t=some G→cI G) (T:ai) (rs:List aF) (hl:rs.length≤8) (a1:List ai) (a2 a3:Int):∀(x:List aF) (i m:Nat),rs.drop i=x→x.length+100<m→
  uq k m a1 a2 a3 rs (rs.length:Int) (i:Int) s T=if lO s T x=true then k a1 a2 a3 s else some false
 | [],i,m+1,hd,hm=>by
  have:rs.length≤i:=by simpa using hd
  have hq:¬((i:Int)<(rs.length:Int)):=by omega
  simp only[uq,Gy,hq,decide_false,Bool.false_eq_true,if_false,lO,if_true]
 |r::x,i,m+1,hd,hm=>by
  obtain ⟨g1,g2,g3⟩:=aO hd;have hq:(i:Int)<(rs.length:Int):=by omega
  simp at hm;have ih:=L4 k s hs T rs hl a1 a2 a3 x (i+1) m g2 (by omega)
  simp only[uq,Gy,hq,decide_true,if_true,aL,g1,Option.bind_some,lO,YV];rcases qN s.J r.ar with ⟨h1,h2⟩|⟨h1,h3,h2⟩|⟨h1,h3,G,h2⟩
  ·simp only[h1,h2,decide_true,if_true,Bool.false_and,Bool.false_eq_true,if_false]
  ·simp only[h1,h2,h3,decide_false,Bool.not_false,if_true,Bool.false_and,Bool.false_eq_true,if_false]
  ·have hG:=hs _ _ h2;have k2:=hG.bS;have k3:=hG.aE;simp only[h1,h2,h3,decide_false,decide_true,Bool.not_true,Bool.false_eq_true,if_false,Option.bind_some];by_cases h4:(r.af.length:Int)=G.av
   ·have e:((r.af.length:Int) !=G.av)=false:=by simp[h4]
    have e':((r.af.length:Int)==G.av)=true:=by simp[h4]
    have hin:=L5 (Gz (uq k m) m) T G r.af (by omega) k3 a1 a2 a3 rs (rs.length:Int) (i:Int) r.ar s.J (s.J.length:Int) s r r.af 0 m rfl (by omega)
    rw[show ((0:Nat):Int)=0 from rfl,List.drop_zero] at hin;simp only[e,e',Bool.false_eq_true,if_false,hin,Gz,bj g3 (by omega),ih,Bool.true_and]
    rcases Bool.eq_false_or_eq_true (jr T.af G.af r.af) with hv|hv<;>simp only[hv,if_true,Bool.true_and,Bool.false_and,Bool.false_eq_true,if_false]
   ·have e:((r.af.length:Int) !=G.av)=true:=by simpa using h4
    have e':((r.af.length:Int)==G.av)=false:=by simpa using h4
    simp only[e,e',if_true,Bool.false_and,Bool.false_eq_true,if_false]
 |_,_,0,_,hm=>by simp at hm
theorem L3 (n0:Nat) (s:aa) (hs:∀t G,idx s.J t=some G→cI G) (ts:List ai) (hl:ts.length≤8) (hr:∀T∈ts,T.bg.length≤4):∀(x:List ai) (i m:Nat),ts.drop i=x→x.length+200<m→
  uo (B0 n0) m ts (ts.length:Int) (i:Int) s=some (allRefs s x)
 | [],i,m+1,hd,hm=>by
  have:ts.length≤i:=by simpa using hd
  have hq:¬((i:Int)<(ts.length:Int)):=by omega
  simp only[uo,Gw,B0,hq,decide_false,Bool.false_eq_true,if_false,allRefs]
 |T::x,i,m+1,hd,hm=>by
  obtain ⟨g1,g2,g3⟩:=aO hd;have hq:(i:Int)<(ts.length:Int):=by omega
  simp at hm;have hT:=hr T (List.mem_of_getElem? g1);have ih:=L3 n0 s hs ts hl hr x (i+1) m g2 (by omega)
  have hin:=L4 (Gx (uo (B0 n0) m) m) s hs T T.bg (by omega) ts (ts.length:Int) (i:Int) T.bg 0 m rfl (by omega)
  rw[show ((0:Nat):Int)=0 from rfl] at hin;simp only[uo,Gw,hq,decide_true,if_true,aL,g1,Option.bind_some,hin,Gx,bj g3 (by omega),ih,allRefs]
  rcases Bool.eq_false_or_eq_true (lO s T T.bg) with hv|hv<;>simp only[hv,if_true,Bool.true_and,Bool.false_and,Bool.false_eq_true,if_false]
 |_,_,0,_,hm=>by simp at hm
theorem ahU (n:Nat) (s:aa) (hs:∀t G,idx s.J t=some G→cI G) (hl:s.J.length≤8) (hr:∀T∈s.J,T.bg.length≤4) (hn:1000<n):F77 n s=some (allRefs s s.J):=
 L3 n s hs s.J hl hr s.J 0 n rfl (by omega)
theorem LZ (k:List aF→Int→Int→Int→List ai→Int→List Int→Int→List ai→Int→ai→ai→Int→aa→ai→aF→Option Bool) (s:aa) (T G:ai) (r:aF) (hG:idx s.J r.ar=some G) (cs:List Int) (hc:cs.length≤G.af.length) (hg:G.af.length≤8) (a1:List aF) (a2 a3 a4:Int) (a5:List ai) (a6:Int) (a7:List Int) (a8:Int) (a9:List ai) (a10:Int) (a11 a12:ai) (a13:Int):∀(x:List Int) (i m:Nat),cs.drop i=x→x.length<m→
  xy k m a1 a2 a3 a4 a5 a6 a7 a8 a9 a10 a11 a12 a13 cs (cs.length:Int) (i:Int) s T r=if jr T.af (G.af.drop i) x=true then k a1 a2 a3 a4 a5 a6 a7 a8 a9 a10 a11 a12 a13 s T r else some false
 | [],i,m+1,hd,hm=>by
  have:cs.length≤i:=by simpa using hd
  have hq:¬((i:Int)<(cs.length:Int)):=by omega
  simp only[xy,Gn,hq,decide_false,Bool.false_eq_true,if_false,jr,if_true]
 |c::x,i,m+1,hd,hm=>by
  obtain ⟨g1,g2,g3⟩:=aO hd;have hq:(i:Int)<(cs.length:Int):=by omega
  have hlt:i<G.af.length:=by omega
  have hgi:G.af[i]? =some G.af[i]:=List.getElem?_eq_getElem hlt;have hdr:G.af.drop i=G.af[i]::G.af.drop (i+1):=List.drop_eq_getElem_cons hlt;generalize G.af[i]=g at hgi hdr;have ih:=LZ k s T G r hG cs hc hg a1 a2 a3 a4 a5 a6 a7 a8 a9 a10 a11 a12 a13 x (i+1) m g2 (by simp at hm;omega)
  simp only[xy,Gn,hq,decide_true,if_true,aL,g1,hG,hgi,Option.bind_some,bj g3 (by omega),ih]
  rw[hdr];simp only[jr];rcases qN T.af c with ⟨h1,h2⟩|⟨h1,h3,h2⟩|⟨h1,h3,y,h2⟩
  ·simp only[h1,h2,decide_true,if_true,Bool.false_eq_true,if_false]
  ·simp only[h1,h2,h3,decide_false,Bool.not_false,if_true,Bool.false_eq_true,if_false]
  ·simp only[h1,h2,h3,decide_false,decide_true,Bool.not_true,Bool.false_eq_true,if_false,Option.bind_some];by_cases h4:y.ax=g.ax
   ·simp[h4]
   ·simp[h4]
 |_,_,0,_,hm=>by simp at hm
theorem LY (n0:Nat) (s:aa) (hs:∀t G,idx s.J t=some G→cI G) (T:ai) (rs:List aF) (hl:rs.length≤8):∀(x:List aF) (i m:Nat),rs.drop i=x→x.length+100<m→
  uj (BY n0) m rs (rs.length:Int) (i:Int) s T=some (lO s T x)
 | [],i,m+1,hd,hm=>by
  have:rs.length≤i:=by simpa using hd
  have hq:¬((i:Int)<(rs.length:Int)):=by omega
  simp only[uj,Gl,BY,hq,decide_false,Bool.false_eq_true,if_false,lO]
 |r::x,i,m+1,hd,hm=>by
  obtain ⟨g1,g2,g3⟩:=aO hd;have hq:(i:Int)<(rs.length:Int):=by omega
  simp at hm;have ih:=LY n0 s hs T rs hl x (i+1) m g2 (by omega)
  simp only[uj,Gl,hq,decide_true,if_true,aL,g1,Option.bind_some,lO,YV];rcases qN s.J r.ar with ⟨h1,h2⟩|⟨h1,h3,h2⟩|⟨h1,h3,G,h2⟩
  ·simp only[h1,h2,decide_true,if_true,Bool.false_and]
  ·simp only[h1,h2,h3,decide_false,Bool.not_false,if_true,Bool.false_and,Bool.false_eq_true,if_false]
  ·have hG:=hs _ _ h2;have k2:=hG.bS;have k3:=hG.aE;simp only[h1,h2,h3,decide_false,decide_true,Bool.not_true,Bool.false_eq_true,if_false,Option.bind_some];by_cases h4:(r.af.length:Int)=G.av
   ·have e:((r.af.length:Int) !=G.av)=false:=by simp[h4]
    have e':((r.af.length:Int)==G.av)=true:=by simp[h4]
    have hin:=LZ (Gm (uj (BY n0) m) m) s T G r h2 r.af (by omega) k3 rs (rs.length:Int) (i:Int) r.ar s.J (s.J.length:Int) r.af (r.af.length:Int) s.J r.ar G G G.av r.af 0 m rfl (by omega)
    rw[show ((0:Nat):Int)=0 from rfl,List.drop_zero] at hin;simp only[e,e',Bool.false_eq_true,if_false,hin,Gm,bj g3 (by omega),ih,Bool.true_and]
    rcases Bool.eq_false_or_eq_true (jr T.af G.af r.af) with hv|hv<;>simp only[hv,if_true,Bool.true_and,Bool.false_and,Bool.false_eq_true,if_false]
   ·have e:((r.af.length:Int) !=G.av)=true:=by simpa using h4
    have e':((r.af.length:Int)==G.av)=false:=by simpa using h4
    simp only[e,e',if_true,Bool.false_and]
 |_,_,0,_,hm=>by simp at hm
theorem ahQ (n:Nat) (s:aa) (hs:∀t G,idx s.J t=some G→cI G) (i:Nat) (T:ai) (hT:s.J[i]? =some T) (hr:T.bg.length≤4) (hn:1000<n):F84 n s (i:Int)=some (lO s T T.bg):=by
 unfold F84 SC;simp only[aL,hT,Option.bind_some];exact LY n s hs T T.bg (by omega) T.bg 0 n rfl (by omega)
def kn (ks:List Int):List ag→Int
 | []=>0
 |p::ps=>if kW ks [] p=0 then kn ks ps else kW ks [] p
def rM:List ai→Int
 | []=>0
 |T::ts=>if kn (aZ T) T.bV=0 then rM ts else kn (aZ T) T.bV
theorem Mj (k:List ai→Int→Int→aa→Option Int) (ks:List Int) (hk:ks.length≤8) (s:aa) (ps:List ag) (hl:ps.length≤4) (hp:∀p∈ps,szP p≤1500000) (a1:List ai) (a2 a3:Int):∀(x:List ag) (i m:Nat),ps.drop i=x→x.length+1500000<m→m<4294967296→
  xR k m ks a1 a2 a3 ps (ps.length:Int) (i:Int) s=if kn ks x=0 then k a1 a2 a3 s else some (kn ks x)
 | [],i,m+1,hd,hm,hm'=>by
  have:ps.length≤i:=by simpa using hd
  have hq:¬((i:Int)<(ps.length:Int)):=by omega
  simp only[xR,Hi,hq,decide_false,Bool.false_eq_true,if_false,kn,if_true]
 |p::x,i,m+1,hd,hm,hm'=>by
  obtain ⟨g1,g2,g3⟩:=aO hd;have hq:(i:Int)<(ps.length:Int):=by omega
  simp at hm;have ih:=Mj k ks hk s ps hl hp a1 a2 a3 x (i+1) m g2 (by omega) (by omega)
  have hpp:=hp p (List.mem_of_getElem? g1);simp only[xR,Hi,hq,decide_true,if_true,aL,g1,Option.bind_some,ahT m ks [] p (by omega) (by simp;omega) (by omega) (by omega),bj g3 (by omega),ih,kn]
  by_cases h:kW ks [] p=0
  ·simp only[h,bne_self_eq_false,Bool.false_eq_true,if_false,if_true]
  ·have:(kW ks [] p !=0)=true:=by simpa using h
   simp only[h,this,if_true,if_false]
 |_,_,0,_,hm,_=>by simp at hm
theorem Me (k:Int→Int→aa→Option Int) (T:ai) (s:aa) (t:Int) (hT:idx s.J t=some T) (hk:T.af.length≤8) (ps:List ag) (hl:ps.length≤4) (hp:∀p∈ps,szP p≤1500000) (a1 a2:Int):∀(x:List ag) (i m:Nat),ps.drop i=x→x.length+1500000<m→m<4294967296→
  xL k m t a1 a2 ps (ps.length:Int) (i:Int) s=if kn (aZ T) x=0 then k a1 a2 s else some (kn (aZ T) x)
 | [],i,m+1,hd,hm,hm'=>by
  have:ps.length≤i:=by simpa using hd
  have hq:¬((i:Int)<(ps.length:Int)):=by omega
  simp only[xL,G5,hq,decide_false,Bool.false_eq_true,if_false,kn,if_true]
 |p::x,i,m+1,hd,hm,hm'=>by
  obtain ⟨g1,g2,g3⟩:=aO hd;have hq:(i:Int)<(ps.length:Int):=by omega
  simp at hm;have ih:=Me k T s t hT hk ps hl hp a1 a2 x (i+1) m g2 (by omega) (by omega)
  have hpp:=hp p (List.mem_of_getElem? g1);have hkl:=cr T;simp only[xL,G5,hq,decide_true,if_true,aL,g1,Option.bind_some,sJ hT (by omega) (by omega:1000<m),Yp m (aZ T) [] p (by omega) (by simp;omega) (by omega) (by omega),bj g3 (by omega),ih,kn]
  by_cases h:kW (aZ T) [] p=0
  ·simp only[h,bne_self_eq_false,Bool.false_eq_true,if_false,if_true]
  ·have:(kW (aZ T) [] p !=0)=true:=by simpa using h
   simp only[h,this,if_true,if_false]
 |_,_,0,_,hm,_=>by simp at hm
def km (T:ai):Bool:=decide (T.af.length≤8)&&(decide (T.bg.length≤4)&&decide (T.bV.length≤4))
theorem kY {T:ai} (h:km T=true):T.af.length≤8∧T.bg.length≤4∧T.bV.length≤4:=by simpa[km] using h
def szT (T:ai):Prop:=∀p∈T.bV,szP p≤1500000
theorem Mi (n0:Nat) (s:aa) (hl:s.J.length≤8) (hb:∀T∈s.J,km T=true) (hz:∀T∈s.J,szT T):∀(x:List ai) (i m:Nat),s.J.drop i=x→x.length+1500010<m→m<4294967296→
  ux (B7 n0) m s.J (s.J.length:Int) (i:Int) s=some (rM x)
 | [],i,m+1,hd,hm,hm'=>by
  have:s.J.length≤i:=by simpa using hd
  have hq:¬((i:Int)<(s.J.length:Int)):=by omega
  simp only[ux,Hg,B7,hq,decide_false,Bool.false_eq_true,if_false,rM]
 |T::x,i,m+1,hd,hm,hm'=>by
  obtain ⟨g1,g2,g3⟩:=aO hd;have hq:(i:Int)<(s.J.length:Int):=by omega
  simp at hm;have jI:=List.mem_of_getElem? g1;obtain ⟨b1,b2,b3⟩:=kY (hb T jI);have hT:idx s.J (i:Int)=some T:=by rw[aL];exact g1
  have hkl:=cr T;have ih:=Mi n0 s hl hb hz x (i+1) m g2 (by omega) (by omega)
  have hin:=Mj (Hh (ux (B7 n0) m) m) (aZ T) (by omega) s T.bV b3 (hz T jI) s.J (s.J.length:Int) (i:Int) T.bV 0 m rfl (by omega) (by omega)
  rw[show ((0:Nat):Int)=0 from rfl] at hin;simp only[ux,Hg,hq,decide_true,if_true,hT,Option.bind_some,Mv hT (by omega) (by omega:1000<m),hin,Hh,bj g3 (by omega),ih,rM]
  by_cases h:kn (aZ T) T.bV=0
  ·simp only[h,if_true]
  ·simp only[h,if_false]
 |_,_,0,_,hm,_=>by simp at hm
theorem Mc (n0:Nat) (s:aa) (hl:s.J.length≤8) (hb:∀T∈s.J,km T=true) (hz:∀T∈s.J,szT T):∀(x:List ai) (i m:Nat),s.J.drop i=x→x.length+1500010<m→m<4294967296→
  uw (B6 n0) m (s.J.length:Int) (i:Int) s=some (rM x)
 | [],i,m+1,hd,hm,hm'=>by
  have:s.J.length≤i:=by simpa using hd
  have hq:¬((i:Int)<(s.J.length:Int)):=by omega
  simp only[uw,G3,B6,hq,decide_false,Bool.false_eq_true,if_false,rM]
 |T::x,i,m+1,hd,hm,hm'=>by
  obtain ⟨g1,g2,g3⟩:=aO hd;have hq:(i:Int)<(s.J.length:Int):=by omega
  simp at hm;have jI:=List.mem_of_getElem? g1;obtain ⟨b1,b2,b3⟩:=kY (hb T jI);have hT:idx s.J (i:Int)=some T:=by rw[aL];exact g1
  have ih:=Mc n0 s hl hb hz x (i+1) m g2 (by omega) (by omega)
  have hin:=Me (G4 (uw (B6 n0) m) m) T s (i:Int) hT b1 T.bV b3 (hz T jI) (s.J.length:Int) (i:Int) T.bV 0 m rfl (by omega) (by omega)
  rw[show ((0:Nat):Int)=0 from rfl] at hin;simp only[uw,G3,hq,decide_true,if_true,hT,Option.bind_some,hin,G4,bj g3 (by omega),ih,rM]
  by_cases h:kn (aZ T) T.bV=0
  ·simp only[h,if_true]
  ·simp only[h,if_false]
 |_,_,0,_,hm,_=>by simp at hm
theorem Mk (k:aa→Option Int) (s:aa) (ts:List ai) (hl:ts.length≤8):∀(x:List ai) (i m:Nat),ts.drop i=x→x.length<m→xS k m ts (ts.length:Int) (i:Int) s=if x.all km=true then k s else some 2
 | [],i,m+1,hd,hm=>by
  have:ts.length≤i:=by simpa using hd
  have hq:¬((i:Int)<(ts.length:Int)):=by omega
  simp only[xS,Hj,hq,decide_false,Bool.false_eq_true,if_false,List.all_nil,if_true]
 |T::x,i,m+1,hd,hm=>by
  obtain ⟨g1,g2,g3⟩:=aO hd;have hq:(i:Int)<(ts.length:Int):=by omega
  have ih:=Mk k s ts hl x (i+1) m g2 (by simp at hm;omega)
  simp only[xS,Hj,hq,decide_true,if_true,aL,g1,Option.bind_some,bj g3 (by omega),ih,List.all_cons,km]
  by_cases h1:T.af.length≤8
  ·have e1:¬(8:Int)<(T.af.length:Int):=by omega
   by_cases h2:T.bg.length≤4
   ·have e2:¬(4:Int)<(T.bg.length:Int):=by omega
    by_cases h3:T.bV.length≤4
    ·have e3:¬(4:Int)<(T.bV.length:Int):=by omega
     simp only[h1,h2,h3,e1,e2,e3,decide_true,decide_false,Bool.false_eq_true,if_false,Bool.and_self,Bool.true_and]
    ·have e3:(4:Int)<(T.bV.length:Int):=by omega
     simp only[h1,h2,h3,e1,e2,e3,decide_true,decide_false,Bool.false_eq_true,if_false,if_true,Bool.and_false,Bool.false_and]
   ·have e2:(4:Int)<(T.bg.length:Int):=by omega
    simp only[h1,h2,e1,e2,decide_true,decide_false,Bool.false_eq_true,if_false,if_true,Bool.and_false,Bool.false_and]
  ·have e1:(8:Int)<(T.af.length:Int):=by omega
   simp only[h1,e1,decide_true,decide_false,Bool.false_eq_true,if_false,if_true,Bool.false_and]
 |_,_,0,_,hm=>by simp at hm
theorem Mh (k:aa→Option Int) (s:aa) (ts:List ai) (hl:ts.length≤8):∀(x:List ai) (i m:Nat),ts.drop i=x→x.length<m→xO k m ts (ts.length:Int) (i:Int) s=if x.all km=true then k s else some 2
 | [],i,m+1,hd,hm=>by
  have:ts.length≤i:=by simpa using hd
  have hq:¬((i:Int)<(ts.length:Int)):=by omega
  simp only[xO,G8,hq,decide_false,Bool.false_eq_true,if_false,List.all_nil,if_true]
 |T::x,i,m+1,hd,hm=>by
  obtain ⟨g1,g2,g3⟩:=aO hd;have hq:(i:Int)<(ts.length:Int):=by omega
  have ih:=Mh k s ts hl x (i+1) m g2 (by simp at hm;omega)
  simp only[xO,G8,hq,decide_true,if_true,aL,g1,Option.bind_some,bj g3 (by omega),ih,List.all_cons,km]
  by_cases h1:T.af.length≤8
  ·have e1:¬(8:Int)<(T.af.length:Int):=by omega
   by_cases h2:T.bg.length≤4
   ·have e2:¬(4:Int)<(T.bg.length:Int):=by omega
    by_cases h3:T.bV.length≤4
    ·have e3:¬(4:Int)<(T.bV.length:Int):=by omega
     simp only[h1,h2,h3,e1,e2,e3,decide_true,decide_false,Bool.false_eq_true,if_false,Bool.and_self,Bool.true_and]
    ·have e3:(4:Int)<(T.bV.length:Int):=by omega
     simp only[h1,h2,h3,e1,e2,e3,decide_true,decide_false,Bool.false_eq_true,if_false,if_true,Bool.and_false,Bool.false_and]
   ·have e2:(4:Int)<(T.bg.length:Int):=by omega
    simp only[h1,h2,e1,e2,decide_true,decide_false,Bool.false_eq_true,if_false,if_true,Bool.and_false,Bool.false_and]
  ·have e1:(8:Int)<(T.af.length:Int):=by omega
   simp only[h1,e1,decide_true,decide_false,Bool.false_eq_true,if_false,if_true,Bool.false_and]
 |_,_,0,_,hm=>by simp at hm
theorem Mg (k:aa→Option Int) (s:aa) (hl:s.J.length≤8) (hc:∀T∈s.J,km T=true):∀(x:List ai) (i m:Nat),s.J.drop i=x→x.length+2000<m→xN k m (s.J.length:Int) (i:Int) s=if iy ((s.J.take i).map (·.br)) x=true then k s else some 70
 | [],i,m+1,hd,hm=>by
  have:s.J.length≤i:=by simpa using hd
  have hq:¬((i:Int)<(s.J.length:Int)):=by omega
  simp only[xN,G7,hq,decide_false,Bool.false_eq_true,if_false,iy,if_true]
 |T::x,i,m+1,hd,hm=>by
  obtain ⟨g1,g2,g3⟩:=aO hd;have hq:(i:Int)<(s.J.length:Int):=by omega
  simp at hm;have ih:=Mg k s hl hc x (i+1) m g2 (by omega)
  rw[List.take_succ,g1] at ih;simp only[Option.toList_some,List.map_append,List.map_cons,List.map_nil] at ih;simp only[xN,G7,hq,decide_true,if_true,ahR m s hl i T g1 (kY (hc T (List.mem_of_getElem? g1))).1 (by omega),Option.bind_some,bj g3 (by omega),ih,iy]
  rcases Bool.eq_false_or_eq_true (yR ((s.J.take i).map (·.br)) T) with hv|hv<;>simp only[hv,Bool.not_true,Bool.not_false,Bool.false_eq_true,if_true,if_false,Bool.true_and,Bool.false_and]
 |_,_,0,_,hm=>by simp at hm
theorem Mf (k:aa→Option Int) (s:aa) (hs:∀t G,idx s.J t=some G→cI G) (hl:s.J.length≤8) (hc:∀T∈s.J,km T=true):∀(x:List ai) (i m:Nat),s.J.drop i=x→x.length+2000<m→xM k m (s.J.length:Int) (i:Int) s=if allRefs s x=true then k s else some 70
 | [],i,m+1,hd,hm=>by
  have:s.J.length≤i:=by simpa using hd
  have hq:¬((i:Int)<(s.J.length:Int)):=by omega
  simp only[xM,G6,hq,decide_false,Bool.false_eq_true,if_false,allRefs,if_true]
 |T::x,i,m+1,hd,hm=>by
  obtain ⟨g1,g2,g3⟩:=aO hd;have hq:(i:Int)<(s.J.length:Int):=by omega
  simp at hm;have ih:=Mf k s hs hl hc x (i+1) m g2 (by omega)
  simp only[xM,G6,hq,decide_true,if_true,ahQ m s hs i T g1 (kY (hc T (List.mem_of_getElem? g1))).2.1 (by omega),Option.bind_some,bj g3 (by omega),ih,allRefs]
  rcases Bool.eq_false_or_eq_true (lO s T T.bg) with hv|hv<;>simp only[hv,Bool.not_true,Bool.not_false,Bool.false_eq_true,if_true,if_false,Bool.true_and,Bool.false_and]
 |_,_,0,_,hm=>by simp at hm
def vd (s:aa):Int:=
 if 8<s.J.length then 2
 else if s.J.all km=true then
  (if s.bE<0 then 70 else if 1000<s.bE then 70
   else if iy [] s.J=true then (if allRefs s s.J=true then rM s.J else 70) else 70)
 else 2
theorem CE {s:aa} (hb:∀T∈s.J,km T=true) (h:iy [] s.J=true):∀t G,idx s.J t=some G→cI G:=fun t G hG=>
 HV (fun T hT=>(kY (hb T hT)).1) h G (List.mem_of_getElem? (pG hG).2.2)
theorem YN {s:aa} (h:vd s=0):SOK s:=by
 unfold vd at h;split at h
 ·cases h
 ·rename_i h8;split at h
  ·rename_i hb;rw[List.all_eq_true] at hb;split at h
   ·cases h
   ·split at h
    ·cases h
    ·split at h
     ·rename_i ht;exact ⟨by omega,CE hb ht⟩
     ·cases h
  ·cases h
theorem aif (n:Nat) (s:aa) (hz:∀T∈s.J,szT T) (hn:1600000<n) (hn':n<4294967296):F38 n s=some (vd s):=by
 unfold F38 Ta vd;by_cases h8:8<s.J.length
 ·have:(8:Int)<(s.J.length:Int):=by omega
  simp only[h8,this,decide_true,if_true]
 ·have h8':¬(8:Int)<(s.J.length:Int):=by omega
  have h0:=Mk (He n) s s.J (by omega) s.J 0 n rfl (by omega)
  rw[show ((0:Nat):Int)=0 from rfl] at h0;simp only[h8,h8',decide_false,Bool.false_eq_true,if_false,h0];by_cases hb:s.J.all km=true
  ·simp only[hb,if_true,He];have hb':=List.all_eq_true.1 hb;by_cases v1:s.bE<0
   ·simp only[v1,decide_true,if_true]
   ·by_cases v2:1000<s.bE
    ·simp only[v1,v2,decide_true,decide_false,Bool.false_eq_true,if_false,if_true]
    ·simp only[v1,v2,decide_false,Bool.false_eq_true,if_false,ahV n s (by omega) (fun T hT=>(kY (hb' T hT)).1) (by omega),Option.bind_some]
     by_cases ht:iy [] s.J=true
     ·simp only[ht,Bool.not_true,Bool.false_eq_true,if_false,if_true,ahU n s (CE hb' ht) (by omega) (fun T hT=>(kY (hb' T hT)).2.1) (by omega),Option.bind_some]
      by_cases hr:allRefs s s.J=true
      ·have h3:=Mi n s (by omega) hb' hz s.J 0 n rfl (by omega) hn'
       rw[show ((0:Nat):Int)=0 from rfl] at h3;simp only[hr,Bool.not_true,Bool.false_eq_true,if_false,if_true,h3]
      ·simp only[hr,Bool.not_eq_true] at hr ⊢;simp[hr]
     ·have ht':iy [] s.J=false:=by simpa using ht
      simp[ht']
  ·simp only[hb,if_false,Bool.false_eq_true]
theorem aib (n:Nat) (s:aa) (hz:∀T∈s.J,szT T) (hn:1600000<n) (hn':n<4294967296):F44 n s=some (vd s):=by
 unfold F44 MN vd;by_cases h8:8<s.J.length
 ·have:(8:Int)<(s.J.length:Int):=by omega
  simp only[h8,this,decide_true,if_true]
 ·have h8':¬(8:Int)<(s.J.length:Int):=by omega
  have h0:=Mh (G0 n) s s.J (by omega) s.J 0 n rfl (by omega)
  rw[show ((0:Nat):Int)=0 from rfl] at h0;simp only[h8,h8',decide_false,Bool.false_eq_true,if_false,h0];by_cases hb:s.J.all km=true
  ·simp only[hb,if_true,G0];have hb':=List.all_eq_true.1 hb;by_cases v1:s.bE<0
   ·simp only[v1,decide_true,if_true]
   ·by_cases v2:1000<s.bE
    ·simp only[v1,v2,decide_true,decide_false,Bool.false_eq_true,if_false,if_true]
    ·have h1:=Mg (G1 n) s (by omega) hb' s.J 0 n rfl (by omega)
     rw[show ((0:Nat):Int)=0 from rfl,List.take_zero,List.map_nil] at h1;simp only[v1,v2,decide_false,Bool.false_eq_true,if_false,h1];by_cases ht:iy [] s.J=true
     ·have h2:=Mf (G2 n) s (CE hb' ht) (by omega) hb' s.J 0 n rfl (by omega)
      rw[show ((0:Nat):Int)=0 from rfl] at h2;simp only[ht,if_true,G1,h2];by_cases hr:allRefs s s.J=true
      ·have h3:=Mc n s (by omega) hb' hz s.J 0 n rfl (by omega) hn'
       rw[show ((0:Nat):Int)=0 from rfl] at h3;simp only[hr,if_true,G2,h3]
      ·simp only[hr,if_false,Bool.false_eq_true]
     ·simp only[ht,if_false,Bool.false_eq_true]
  ·simp only[hb,if_false,Bool.false_eq_true]
def eo (id : Int) (r1 r2 r3 : List aF) (ch : List ag) : List ai :=
  [⟨ByteArray.mk #[112, 114, 111, 106, 101, 99, 116, 115], [⟨ByteArray.mk #[105, 100], 4⟩, ⟨ByteArray.mk #[111, 119, 110, 101, 114], 4⟩], 1, [], []⟩,
   ⟨ByteArray.mk #[116, 97, 115, 107, 115], [⟨ByteArray.mk #[105, 100], id⟩, ⟨ByteArray.mk #[112, 114, 111, 106, 101, 99, 116], 4⟩, ⟨ByteArray.mk #[116, 105, 116, 108, 101], 5⟩, ⟨ByteArray.mk #[100, 111, 110, 101], 3⟩], 1, r1, ch⟩,
   ⟨ByteArray.mk #[109, 101, 109, 98, 101, 114, 115], [⟨ByteArray.mk #[112, 114, 111, 106, 101, 99, 116], 4⟩, ⟨ByteArray.mk #[112, 101, 114, 115, 111, 110], 4⟩], 2, r2, []⟩,
   ⟨ByteArray.mk #[97, 114, 99, 104, 105, 118, 101, 100], [⟨ByteArray.mk #[116, 97, 115, 107], id⟩], 1, r3, []⟩]
structure Mt (v id:Int) (k:Nat) (r1 r2 r3:List aF) (ch:List ag):Prop where
 v0:0≤v
 v1:v≤2
 hid:id=4∨id=5
 hk:k=2∨k=3∨k=4
 h1:r1= []∨r1= [⟨[1],0⟩]
 h2:r2= []∨r2= [⟨[0],0⟩]
 h3:r3= []∨r3= [⟨[0],1⟩]
 hc:ch.length≤1∧kn [id,4,5,3] ch=0∧∀p∈ch,szP p≤119
def mQ (s:aa):Prop:=∃v id k r1 r2 r3 ch,Mt v id k r1 r2 r3 ch∧s=⟨v,(eo id r1 r2 r3 ch).take k⟩
theorem mQ.chk {s:aa} (h:mQ s):vd s=0:=by
 obtain ⟨v,id,k,r1,r2,r3,ch,⟨v0,v1,hid,hk,h1,h2,h3,hc0,hc,_⟩,rfl⟩:=h;have e1:¬8<((eo id r1 r2 r3 ch).take k).length:=by rw[List.length_take];simp[eo];omega
 have e2:((eo id r1 r2 r3 ch).take k).all km=true:=by
  have hr1:r1.length≤4:=by rcases h1 with rfl|rfl<;>simp
  have hr2:r2.length≤4:=by rcases h2 with rfl|rfl<;>simp
  have hr3:r3.length≤4:=by rcases h3 with rfl|rfl<;>simp
  have hch:ch.length≤4:=by omega
  rcases hk with rfl|rfl|rfl<;>simp[eo,km,hr1,hr2,hr3,hch]
 have e3:iy [] ((eo id r1 r2 r3 ch).take k)=true:=by
  rcases hid with rfl|rfl<;>rcases hk with rfl|rfl|rfl<;>kernel_rfl
 have e4:allRefs ⟨v,(eo id r1 r2 r3 ch).take k⟩ ((eo id r1 r2 r3 ch).take k)=true:=by
  rcases hid with rfl|rfl<;>rcases hk with rfl|rfl|rfl<;>rcases h1 with rfl|rfl<;>rcases h2 with rfl|rfl<;>rcases h3 with rfl|rfl<;>kernel_rfl
 have e5:rM ((eo id r1 r2 r3 ch).take k)=0:=by
  rcases hk with rfl|rfl|rfl<;>simp[eo,rM,kn,aZ,hc]
 unfold vd;simp only[e1,e2,e3,e4,e5,if_false,if_true,show ¬v<0 by omega,show ¬1000<v by omega]
theorem mQ.ok {s:aa} (h:mQ s):SOK s:=YN h.chk
theorem mQ.sz {s:aa} (h:mQ s):∀T∈s.J,szT T:=by
 obtain ⟨v,id,k,r1,r2,r3,ch,⟨_,_,_,_,_,_,_,_,_,hz⟩,rfl⟩:=h;intro T hT p hp;have hT:=List.mem_of_mem_take hT;simp only[eo,List.mem_cons,List.not_mem_nil,or_false] at hT;rcases hT with rfl|rfl|rfl|rfl
 ·simp at hp
 ·have:=hz p hp;omega
 ·simp at hp
 ·simp at hp
theorem mQ.pos {s:aa} (h:mQ s):2≤s.J.length:=by
 obtain ⟨v,id,k,r1,r2,r3,ch,⟨_,_,_,hk,_⟩,rfl⟩:=h;rw[List.length_take];simp[eo];omega
theorem Ek (n:Nat) (hn:2000≤n) (hn':n<4294967296) (c:aj) (hc:ba c) (z:aa) (v id:Int) (k:Nat) (r1 r2 r3:List aF) (h:Mt v id k r1 r2 r3 []) (ts:List ai) (hts:ts=(eo id r1 r2 r3 []).take k) (b5:aa) (hb5:b5.bE=v):
  Ok (zJ n c z b5 ts) fun r=>ba r.2∧mQ r.1:=by
 unfold zJ;refine Ok.bind (jV n c 3 hc) fun b hb=> ?_
 refine Ok.ite (fun _=> ?_) fun _=>Ok.pure ⟨hb,v,id,k,r1,r2,r3,[],h,by rw[hb5,hts]⟩
 have hT:idx (aa.mk b5.bE ts).J 1=some ⟨ByteArray.mk #[116,97,115,107,115],[⟨ByteArray.mk #[105,100],id⟩,⟨ByteArray.mk #[112,114,111,106,101,99,116],4⟩,⟨ByteArray.mk #[116,105,116,108,101],5⟩,⟨ByteArray.mk #[100,111,110,101],3⟩],1,r1,[]⟩:=by
  rw[hts];rcases h.hk with rfl|rfl|rfl<;>rfl
 rw[sJ hT (by simp) (by omega),Option.bind_some]
 have hks:dX [id,4,5,3]=true:=by rcases h.hid with rfl|rfl<;>rfl
 refine Ok.bind (aik [id,4,5,3] [] hks rfl (by simp) (by simp) 1 n b.2 hb (by omega) hn' (by omega) (by omega)) fun p ⟨hp,p0,pz⟩=> ?_
 have e1:bnd ts.length 1=some 1:=by rw[hts];rcases h.hk with rfl|rfl|rfl<;>rfl
 have e2:ts[0+1]? =some ⟨ByteArray.mk #[116,97,115,107,115],[⟨ByteArray.mk #[105,100],id⟩,⟨ByteArray.mk #[112,114,111,106,101,99,116],4⟩,⟨ByteArray.mk #[116,105,116,108,101],5⟩,⟨ByteArray.mk #[100,111,110,101],3⟩],1,r1,[]⟩:=by
  rw[hts];rcases h.hk with rfl|rfl|rfl<;>rfl
 rw[e1,Option.bind_some,e2,Option.bind_some];have e3:setAt ts (0+1) ⟨ByteArray.mk #[116,97,115,107,115],[⟨ByteArray.mk #[105,100],id⟩,⟨ByteArray.mk #[112,114,111,106,101,99,116],4⟩,⟨ByteArray.mk #[116,105,116,108,101],5⟩,⟨ByteArray.mk #[100,111,110,101],3⟩],1,r1,[p.1]⟩=some ((eo id r1 r2 r3 [p.1]).take k):=by
  rw[hts];rcases h.hk with rfl|rfl|rfl<;>rfl
 rw[e3,Option.bind_some];exact Ok.pure ⟨hp,v,id,k,r1,r2,r3,[p.1],⟨h.v0,h.v1,h.hid,h.hk,h.h1,h.h2,h.h3,by simp,by simp[kn,p0],by simpa using pz⟩,by rw[hb5]⟩
theorem yh (n:Nat) (hn:2000≤n) (hn':n<4294967296) (c:aj) (hc:ba c) (z:aa) (v id:Int) (k:Nat) (r1 r2:List aF) (h:Mt v id k r1 r2 [] []) (ts:List ai) (hts:ts=(eo id r1 r2 [] []).take k) (b5:aa) (hb5:b5.bE=v):
  Ok (wC n (k:Int) c z b5 ts) fun r=>ba r.2∧mQ r.1:=by
 unfold wC;refine Ok.ite (fun hk=> ?_) fun _=>Ek n hn hn' c hc _ v id k r1 r2 [] h ts hts _ hb5
 have hk:k=4:=by have:=h.hk;simp at hk;omega
 subst hk;refine Ok.bind (jV n c 3 hc) fun b hb=> ?_
 refine Ok.ite (fun _=> ?_) fun _=>Ek n hn hn' b.2 hb _ v id 4 r1 r2 [] h ts hts _ hb5
 subst hts;show Ok (zJ n b.2 ⟨0,[]⟩ ⟨b5.bE,(eo id r1 r2 [⟨[0],1⟩] []).take 4⟩ ((eo id r1 r2 [⟨[0],1⟩] []).take 4)) _;exact Ek n hn hn' b.2 hb _ v id 4 r1 r2 [⟨[0],1⟩] {h with h3:=.inr rfl} _ rfl _ hb5
theorem Pu (n:Nat) (hn:2000≤n) (hn':n<4294967296) (c:aj) (hc:ba c) (z:aa) (v id:Int) (k:Nat) (r1:List aF) (h:Mt v id k r1 [] [] []) (ts:List ai) (hts:ts=(eo id r1 [] [] []).take k) (b5:aa) (hb5:b5.bE=v):
  Ok (zI n (k:Int) c z b5 ts) fun r=>ba r.2∧mQ r.1:=by
 unfold zI;refine Ok.ite (fun hk=> ?_) fun _=>yh n hn hn' c hc _ v id k r1 [] h ts hts _ hb5
 refine Ok.bind (jV n c 3 hc) fun b hb=> ?_
 refine Ok.ite (fun _=> ?_) fun _=>yh n hn hn' b.2 hb _ v id k r1 [] h ts hts _ hb5
 subst hts;have hk:k=3∨k=4:=by have:=h.hk;simp at hk;omega
 rcases hk with rfl|rfl
 ·show Ok (wC n (3:Nat) b.2 ⟨0,[]⟩ ⟨b5.bE,(eo id r1 [⟨[0],0⟩] [] []).take 3⟩ ((eo id r1 [⟨[0],0⟩] [] []).take 3)) _;exact yh n hn hn' b.2 hb _ v id 3 r1 [⟨[0],0⟩] {h with h2:=.inr rfl} _ rfl _ hb5
 ·show Ok (wC n (4:Nat) b.2 ⟨0,[]⟩ ⟨b5.bE,(eo id r1 [⟨[0],0⟩] [] []).take 4⟩ ((eo id r1 [⟨[0],0⟩] [] []).take 4)) _;exact yh n hn hn' b.2 hb _ v id 4 r1 [⟨[0],0⟩] {h with h2:=.inr rfl} _ rfl _ hb5
theorem Pt (n:Nat) (hn:2000≤n) (hn':n<4294967296) (c:aj) (hc:ba c) (z:aa) (id:Int) (hid:id=4∨id=5) (k:Nat) (hk:k=2∨k=3∨k=4):
  Ok (MK n (k:Int) id c z) fun r=>ba r.2∧mQ r.1:=by
 unfold MK;refine Ok.bind (dt n c 3 hc) fun v ⟨hv,v0,v1,_⟩=> ?_
 have v1:=v1 (by omega)
 simp only[F30,Th,Option.bind_some];have h:∀r1,(r1= []∨r1= [⟨[1],0⟩])→Mt v.1 id k r1 [] [] []:=fun r1 h1=>⟨v0,by omega,hid,hk,h1,.inl rfl,.inl rfl,by simp,rfl,by simp⟩
 have e0:hJ 4 (k:Int)=some k:=by unfold hJ;rw[if_pos (by omega)];rfl
 rw[e0,Option.bind_some];refine Ok.bind (jV n v.2 2 hv) fun b hb=> ?_
 refine Ok.ite (fun _=> ?_) fun _=> ?_
 rotate_left
 ·show Ok (zI n (k:Int) b.2 ⟨0,[]⟩ ⟨v.1,(eo id [] [] [] []).take k⟩ ((eo id [] [] [] []).take k)) _;exact Pu n hn hn' b.2 hb _ v.1 id k [] (h [] (.inl rfl)) _ rfl _ rfl
 have e1:bnd k 1=some 1:=by rcases hk with rfl|rfl|rfl<;>rfl
 rw[e1,Option.bind_some];show Ok (zI n (k:Int) b.2 ⟨0,[]⟩ ⟨v.1,(eo id [⟨[1],0⟩] [] [] []).take k⟩ ((eo id [⟨[1],0⟩] [] [] []).take k)) _;exact Pu n hn hn' b.2 hb _ v.1 id k [⟨[1],0⟩] (h _ (.inr rfl)) _ rfl _ rfl
theorem amC (n:Nat) (hn:2000≤n) (hn':n<4294967296) (c:aj) (hc:ba c):Ok (F9 n c) fun r=>ba r.2∧mQ r.1:=by
 unfold F9 aaQ;refine Ok.bind (dt n c 3 hc) fun v ⟨hv,v0,v1,_⟩=> ?_
 have v1:=v1 (by omega)
 have e:w64 (2+v.1)=((2+v.1.toNat:Nat):Int):=by rw[bZ (by omega) (by omega)];omega
 rw[e];refine Ok.bind (jV n v.2 5 hv) fun b hb=> ?_
 exact Ok.ite (fun _=>Pt n hn hn' b.2 hb _ 5 (.inr rfl) _ (by omega)) fun _=>Pt n hn hn' b.2 hb _ 4 (.inl rfl) _ (by omega)
theorem Ml (n0:Nat) (s:aa) (t:Nat) (T:ai) (hT:s.J[t]? =some T) (ht:cI T) (key row:List I) (gQ:row.length≤100) (rows:List (List I)) (hr:∀r∈rows,r.length=T.af.length) (hrs:rows.length≤100) (ts:List (List (List I))) (hts:t<ts.length):∀(x:List (List I)) (i m:Nat) (done:Bool) (out:List (List I)) (z1 z2:an),rows.drop i=x→x.length+100<m→out.length+2*x.length≤1000→
  Ok (rf (yn n0) m (t:Int) key row done rows (rows.length:Int) (i:Int) ts s z1 z2 out) fun r=>∃cH,r=(⟨ts.set t cH⟩,ts.set t cH)∧cH.length≤out.length+x.length+(if done=true then 0 else 1)∧∀y∈cH,y∈out∨y∈x∨y=row
 | [],i,m+1,done,out,z1,z2,hd,hm,ho=>by
  have hq':rows.length≤i:=by simpa using hd
  have hq:¬((i:Int)<(rows.length:Int)):=by omega
  have e1:bnd ts.length (t:Int)=some t:=by unfold bnd;rw[if_pos (by omega)];rfl
  have e2:ts[0+t]? =some ts[t]:=by rw[Nat.zero_add];exact List.getElem?_eq_getElem hts
  have e3:∀o,setAt ts (0+t) o=some (ts.set t o):=fun o=>by rw[Nat.zero_add];unfold setAt;rw[if_pos hts]
  simp only[rf,Hl,yn,Hk,hq,decide_false,Bool.false_eq_true,if_false,e1,e2,e3,Option.bind_some,jU row (by omega)]
  refine Ok.ite (fun hdn=> ?_) fun hdn=> ?_
  ·rw[cD _ _ (by simp at ho ⊢;omega),Option.bind_some]
   refine Ok.pure ⟨_,rfl,by simp at hdn;simp[hdn],fun y hy=> ?_⟩
   rcases List.mem_append.1 hy with h|h
   ·exact .inl h
   ·exact .inr (.inr (by simpa using h))
  ·exact Ok.pure ⟨_,rfl,by omega,fun y hy=>.inl hy⟩
 |r::x,i,m+1,done,out,z1,z2,hd,hm,ho=>by
  obtain ⟨g1,g2,g3⟩:=aO hd;have hq:(i:Int)<(rows.length:Int):=by omega
  have hrl:=hr r (List.mem_of_getElem? g1);have hcl:=ht.aE;have hk2:=ht.bS;simp at hm ho;have hTi:idx s.J (t:Int)=some T:=by rw[aL];exact hT
  have step:∀(dn:Bool) (c:Int) (JZ:List (List I)),JZ.length≤out.length+1→(∀y∈JZ,y∈out∨y=row)→Ok (uC (rf (yn n0) m) m (t:Int) key row dn r c rows (rows.length:Int) (i:Int) ts s ⟨ts⟩ ⟨[]⟩ JZ) fun q=>∃cH,q=(⟨ts.set t cH⟩,ts.set t cH)∧cH.length≤JZ.length+1+x.length+(if dn=true then 0 else 1)∧∀y∈cH,y∈out∨y∈r::x∨y=row:=by
   intro dn c JZ h1 h2;unfold uC;rw[bj g3 (by omega)]
   refine Ok.ite (fun _=> ?_) fun _=> ?_
   ·rw[cD _ _ (by simp;omega),Option.bind_some]
    refine (Ml n0 s t T hT ht key row gQ rows hr hrs ts hts x (i+1) m dn _ _ _ g2 (by omega) (by simp;omega)).mono fun q ⟨cH,q1,q2,q3⟩=>⟨cH,q1,by simp at q2;omega,fun y hy=> ?_⟩
    rcases q3 y hy with h|h|h
    ·rcases List.mem_append.1 h with h|h
     ·exact (h2 y h).imp id .inr
     ·exact .inr (.inl (by simp at h;simp[h]))
    ·exact .inr (.inl (by simp[h]))
    ·exact .inr (.inr h)
   ·refine (Ml n0 s t T hT ht key row gQ rows hr hrs ts hts x (i+1) m dn _ _ _ g2 (by omega) (by omega)).mono fun q ⟨cH,q1,q2,q3⟩=>⟨cH,q1,by omega,fun y hy=> ?_⟩
    rcases q3 y hy with h|h|h
    ·exact (h2 y h).imp id .inr
    ·exact .inr (.inl (by simp[h]))
    ·exact .inr (.inr h)
  have same:∀c,Ok (uC (rf (yn n0) m) m (t:Int) key row done r c rows (rows.length:Int) (i:Int) ts s ⟨ts⟩ ⟨[]⟩ out) fun q=>∃cH,q=(⟨ts.set t cH⟩,ts.set t cH)∧cH.length≤out.length+(r::x).length+(if done=true then 0 else 1)∧∀y∈cH,y∈out∨y∈r::x∨y=row:=
   fun c=>(step done c out (by omega) fun y hy=>.inl hy).mono fun q ⟨cH,q1,q2,q3⟩=>⟨cH,q1,by simp only[List.length_cons];omega,q3⟩
  simp only[rf,Hl,hq,decide_true,if_true,aL,g1,Option.bind_some,nD (n:=m) hTi ht r hrl,kI m (r.take T.av.toNat) key (by simp;omega) (by simp;omega)]
  refine Ok.ite (fun _=> ?_) fun _=>same _
  refine Ok.ite (fun hdn=> ?_) fun _=>same _
  have hdn:done=false:=by simpa using hdn
  rw[jU row (by omega),Option.bind_some,cD _ _ (by simp;omega),Option.bind_some]
  refine (step true _ (out++ [row]) (by simp) fun y hy=>(List.mem_append.1 hy).imp id fun h=>by simpa using h).mono fun q ⟨cH,q1,q2,q3⟩=>⟨cH,q1,?_,q3⟩
  simp[hdn] at q2 ⊢;omega
 |_,_,0,_,_,_,_,_,hm,_=>by simp at hm
structure rR (s:aa) (ts:List (List (List I))):Prop where
 len:ts.length=s.J.length
 row:∀(t:Nat) T rows,s.J[t]? =some T→ts[t]? =some rows→rows.length≤8∧∀r∈rows,bt (aZ T) r=true
theorem aih (n:Nat) (hn:1000<n) (s:aa) (t:Nat) (T:ai) (hT:s.J[t]? =some T) (ht:cI T) (key row:List I) (gQ:bt (aZ T) row=true) (ts:List (List (List I))) (rows:List (List I)) (cZ:ts[t]? =some rows) (hl:rows.length≤100) (hr:∀r∈rows,bt (aZ T) r=true):
  Ok (F37 n s ⟨ts⟩ (t:Int) key row) fun r=>∃cH,r.2=ts.set t cH∧cH.length≤rows.length+1∧∀y∈cH,bt (aZ T) y=true:=by
 have hts:t<ts.length:=(List.getElem?_eq_some_iff.1 cZ).1;have hcl:=ht.aE;have hkl:=cr T;have hlen:=dD gQ;have e1:bnd ts.length (t:Int)=some t:=by unfold bnd;rw[if_pos (by omega)];rfl
 unfold F37 Tb;simp only[e1,Option.bind_some,Nat.zero_add,cZ];refine (Ml n s t T hT ht key row (by omega) rows (fun r h=>by rw[dD (hr r h),hkl]) hl ts hts rows 0 n _ [] _ _ rfl (by omega) (by simp;omega)).mono fun q ⟨cH,q1,q2,q3⟩=>⟨cH,by rw[q1],?_,fun y hy=> ?_⟩
 ·simp at q2;split at q2<;>omega
 ·rcases q3 y hy with h|h|h
  ·simp at h
  ·exact hr y h
  ·rw[h];exact gQ
theorem Mr (k:Int→Int→Int→aj→aa→an→an→List (List (List I))→Option (an×aj)) (s:aa) (t:Nat) (T:ai) (hT:s.J[t]? =some T) (ht:cI T) (a1 a2:Int) (Q:an×aj→Prop):∀(j m:Nat) (c:aj) (z1 z2:an) (ts:List (List (List I))) (rows:List (List I)),2000+j<m→ba c→ts[t]? =some rows→rows.length+j≤8→(∀r∈rows,bt (aZ T) r=true)→
  (∀c' z1' z2' cH,ba c'→cH.length≤8→(∀r∈cH,bt (aZ T) r=true)→Ok (k 1 a1 a2 c' s z1' z2' (ts.set t cH)) Q)→
  Ok (yb k m 1 (t:Int) (j:Int) a1 a2 c s z1 z2 ts) Q
 |0,m+1,c,z1,z2,ts,rows,hm,hc,hg,hl,hr,hk=>by
  have hq:¬(0:Int)<((0:Nat):Int):=by omega
  simp only[yb,HI,hq,decide_false,Bool.false_eq_true,if_false];have:=hk c ⟨[]⟩ ⟨ts⟩ rows hc (by omega) hr
  have e:ts.set t rows=ts:=by
   obtain ⟨h1,h2⟩:=List.getElem?_eq_some_iff.1 hg;rw[←h2];exact List.set_getElem_self h1
  rwa[e] at this
 |j+1,m+1,c,z1,z2,ts,rows,hm,hc,hg,hl,hr,hk=>by
  have hq:(0:Int)<((j+1:Nat):Int):=by omega
  have hTi:idx s.J (t:Int)=some T:=by rw[aL];exact hT
  have hcl:=ht.aE;have hkl:=cr T;simp only[yb,HI,hq,decide_true,if_true,sJ hTi (by omega) (by omega:1000<m),Option.bind_some,hTi]
  refine Ok.bind (Yu m (by omega) c (aZ T) T.av ht.ks (by omega) hc) fun r ⟨h1,h2⟩=> ?_
  rw[nD (n:=m) hTi ht r.1 (by rw[dD h2,hkl]),Option.bind_some]
  refine Ok.bind (aih m (by omega) s t T hT ht _ r.1 h2 ts rows hg (by omega) hr) fun q ⟨cH,q1,q2,q3⟩=> ?_
  have hw:w64 (((j+1:Nat):Int)-1)=(j:Int):=by rw[bZ (by omega) (by omega)];omega
  rw[hw,q1];have hts:t<ts.length:=(List.getElem?_eq_some_iff.1 hg).1;refine Mr k s t T hT ht a1 a2 Q j m r.2 _ _ (ts.set t cH) cH (by omega) h1 (by rw[List.getElem?_set_self hts]) (by omega) q3 fun c' z1' z2' agf k1 k2 k3=> ?_
  rw[List.set_set];exact hk c' z1' z2' agf k1 k2 k3
 |_,0,_,_,_,_,_,hm,_,_,_,_,_=>by omega
theorem Mq (n0:Nat) (s:aa) (hs:SOK s):∀(x:List ai) (i m:Nat) (c:aj) (z1 z2:an) (ts:List (List (List I))),s.J.drop i=x→2100+x.length<m→ba c→rR s ts→(∀t,i≤t→t<ts.length→ts[t]? =some [])→
  Ok (uA (Cd n0) m 1 (s.J.length:Int) (i:Int) c s z1 z2 ts) fun r=>ba r.2∧rR s r.1.J
 | [],i,m+1,c,z1,z2,ts,hd,hm,hc,hts,h0=>by
  have:s.J.length≤i:=by simpa using hd
  have hq:¬((i:Int)<(s.J.length:Int)):=by omega
  simp only[uA,HG,Cd,hq,decide_false,Bool.false_eq_true,if_false];exact Ok.pure ⟨hc,hts⟩
 |T::x,i,m+1,c,z1,z2,ts,hd,hm,hc,hts,h0=>by
  obtain ⟨g1,g2,g3⟩:=aO hd;have hq:(i:Int)<(s.J.length:Int):=by omega
  have hl8:=hs.len;have ht:=hs.tab (i:Int) T (by rw[aL];exact g1)
  simp at hm;simp only[uA,HG,hq,decide_true,if_true];refine Ok.bind (dt m c 5 hc) fun r ⟨hr,r0,r1,_⟩=> ?_
  have r1:=r1 (by omega)
  have e:r.1=((r.1.toNat:Nat):Int):=by omega
  rw[e];refine Mr (HH (uA (Cd n0) m) m) s i T g1 ht _ _ _ r.1.toNat m r.2 _ _ ts [] (by omega) hr (h0 i (Nat.le_refl _) (by rw[hts.len];omega)) (by simp;omega) (by simp) fun c' z1' z2' cH k1 k2 k3=> ?_
  unfold HH;rw[bj g3 (by omega)]
  refine Mq n0 s hs x (i+1) m c' _ _ _ g2 (by omega) k1 ⟨by rw[List.length_set];exact hts.len,fun t T' rows hT' cZ=> ?_⟩ fun t h1 h2=> ?_
  ·by_cases hti:t=i
   ·subst hti;rw[g1] at hT';cases hT';rw[List.getElem?_set_self (by rw[hts.len];omega)] at cZ
    cases cZ;exact ⟨k2,k3⟩
   ·rw[List.getElem?_set_ne (fun e=>hti e.symm)] at cZ
    exact hts.row t T' rows hT' cZ
  ·rw[List.getElem?_set_ne (by omega)]
   rw[List.length_set] at h2;exact h0 t (by omega) h2
 |_,_,0,_,_,_,_,_,hm,_,_,_=>by omega
theorem ais (n:Nat) (hn:3000≤n) (s:aa) (hs:SOK s) (c:aj) (hc:ba c):Ok (F11 n c s 1) fun r=>ba r.2∧rR s r.1.J:=by
 have hl8:=hs.len;have e:pc (s.J.length:Int) ([]:List (List I))=some (List.replicate s.J.length []):=by
  unfold pc;rw[if_pos (by omega)];rfl
 unfold F11 Tv;rw[e,Option.bind_some];refine Mq n s hs s.J 0 n c _ _ _ rfl (by omega) hc ⟨by simp,fun t T rows hT cZ=> ?_⟩ fun t _ h=> ?_
 ·obtain ⟨h1,h2⟩:=List.getElem?_eq_some_iff.1 cZ;simp at h2;subst h2;simp
 ·rw[List.length_replicate] at h;simp[h]
theorem Ev:∀{ks:List Int} {r:List I} (j:Nat),bt ks r=true→bt (ks.take j) (r.take j)=true
 |_,_,0,_=>by simp[bt]
 | [],[],j+1,_=>rfl
 |k::ks,v::r,j+1,h=>by
  simp only[bt,Bool.and_eq_true] at h;simp only[List.take_succ_cons,bt,Bool.and_eq_true];exact ⟨h.1,Ev j h.2⟩
 | [],_::_,_+1,h=>by simp[bt] at h
 |_::_,[],_+1,h=>by simp[bt] at h
theorem JI:∀{ks:List Int} {a b:List I} (j:Nat),bt ks a=true→bt ks b=true→bt ks (a.take j++b.drop j)=true
 |_,_,_,0,_,h=>by simpa using h
 | [],[],[],j+1,_,_=>rfl
 |k::ks,v::a,w::b,j+1,h1,h2=>by
  simp only[bt,Bool.and_eq_true] at h1 h2;simp only[List.take_succ_cons,List.drop_succ_cons,List.cons_append,bt,Bool.and_eq_true];exact ⟨h1.1,JI j h1.2 h2.2⟩
 | [],_::_,_,_+1,h,_=>by simp[bt] at h
 |_::_,[],_,_+1,h,_=>by simp[bt] at h
 | [],[],_::_,_+1,_,h=>by simp[bt] at h
 |_::_,_::_,[],_+1,_,h=>by simp[bt] at h
theorem JJ:∀{ks:List Int} {r:List I} {i:Nat} {v:I},bt ks r=true→r[i]? =some v→∃k,ks[i]? =some k∧v.ax=k∧gY v=true
 |k::ks,w::r,0,v,h,hv=>by
  simp only[bt,Bool.and_eq_true,beq_iff_eq] at h;simp at hv;subst hv;exact ⟨k,rfl,h.1.2,h.1.1⟩
 |k::ks,w::r,i+1,v,h,hv=>by
  simp only[bt,Bool.and_eq_true] at h;simpa using JJ h.2 (by simpa using hv)
 | [],[],_,_,_,hv=>by simp at hv
 | [],_::_,_,_,h,_=>by simp[bt] at h
 |_::_,[],_,_,_,hv=>by simp at hv
def AQ:Int→List Int→Int
 |l,[]=>l
 |_,c::cs=>AQ c cs
theorem AP:∀(l:Int) (cs:List Int) (c:Int),AQ l (cs++ [c])=c
 |_,[],_=>rfl
 |_,d::cs,c=>AP d cs c
theorem BB (ks:List Int):∀{last:Int} {cs l:List Int} {c k:Int},dB ks last cs=some l→AQ last cs<c→0≤c→ks[c.toNat]? =some k→dB ks last (cs++ [c])=some (l++ [k])
 |last,[],l,c,k,h,h1,h2,hk=>by
  simp[dB] at h;subst h;have hlt:=(List.getElem?_eq_some_iff.1 hk).1;have:last<c∧c<(ks.length:Int):=⟨h1,by omega⟩
  simp[dB,this,hk]
 |last,d::cs,l,c,k,h,h1,h2,hk=>by
  simp only[dB] at h;split at h
  ·rename_i hd;cases h3:dB ks d cs with
   |none=>rw[h3] at h;cases h
   |some l'=>
    rw[h3] at h;simp at h;subst h;have:=BB ks h3 h1 h2 hk;simp only[List.cons_append,dB,hd,and_self,if_true,this];simp
  ·cases h
def mL (s:aa) (w:ak):Prop:=∃T,idx s.J w.ar=some T∧¬(w.fOp<1∨3<w.fOp)∧wOK T w=true
theorem jW {s:aa} {prev:Option ak} {w:ak} {ws:List ak}:ew s prev (w::ws)=0↔mL s w∧mV prev w=false∧ew s (some w) ws=0:=by
 constructor
 ·intro h;simp only[ew] at h;cases hT:idx s.J w.ar with
  |none=>simp[hT] at h
  |some T=>
   simp only[hT] at h;split at h
   ·cases h
   ·rename_i h1;split at h
    ·cases h
    ·rename_i h2;split at h
     ·cases h
     ·rename_i h3;exact ⟨⟨T,hT,h1,by simpa using h2⟩,by simpa using h3,h⟩
 ·rintro ⟨⟨T,hT,h1,h2⟩,h3,h4⟩;simp only[ew,hT,h1,h2,h3,h4,if_false,Bool.not_true,Bool.false_eq_true]
def AN:Option ak→List ak→Option ak
 |p,[]=>p
 |_,x::a=>AN (some x) a
theorem El {s:aa} {w:ak} {b:List ak} (hw:mL s w) (hb:∀y,b.head? =some y→mV (some w) y=false):∀{a:List ak} {prev:Option ak},ew s prev (a++b)=0→mV (AN prev a) w=false→ew s prev (a++w::b)=0
 | [],prev,h,hl=>by
  rw[List.nil_append,jW];refine ⟨hw,hl,?_⟩;cases b with
  |nil=>rfl
  |cons y b=>
   obtain ⟨h1,_,h3⟩:=jW.1 h;exact jW.2 ⟨h1,hb y rfl,h3⟩
 |x::a,prev,h,hl=>by
  obtain ⟨h1,h2,h3⟩:=jW.1 h;exact jW.2 ⟨h1,h2,El hw hb h3 hl⟩
theorem uN {s:aa}:∀{ws:List ak} {prev:Option ak},ew s prev ws=0→∀w∈ws,mL s w
 | [],_,_,w,hw=>by cases hw
 |x::ws,prev,h,w,hw=>by
  obtain ⟨h1,_,h3⟩:=jW.1 h;rcases List.mem_cons.1 hw with rfl|hw
  ·exact h1
  ·exact uN h3 w hw
theorem ED:∀{a:List ak} {p:Option ak},AN p a=if a= [] then p else a[a.length-1]?
 | [],p=>rfl
 | [x],p=>by simp[AN]
 |x::y::a,p=>by
  have:=ED (a:=y::a) (p:=some x);simp only[AN] at this ⊢;simpa using this
theorem pP {s:aa} (hs:SOK s) {w:ak} (h:mL s w):w.av.length≤8:=by
 obtain ⟨T,hT,_,h2⟩:=h;have ht:=hs.tab _ _ hT;have:=ht.aE;have:=ht.bS;have:=zi ht;simp only[wOK,Bool.and_eq_true] at h2;have:=dD h2.1;omega
theorem vI {s:aa} (hs:SOK s) {w:ak} (h:mL s w):w.af.length≤100:=by
 obtain ⟨T,hT,h1,h2⟩:=h;have ht:=hs.tab _ _ hT;have hc:=ht.aE;have k1:=ht.jG;simp only[wOK,hX,Bool.and_eq_true] at h2;have h2:=h2.2;split at h2
 ·simp at h2;simp[h2.1]
 ·split at h2
  ·cases hcl:dB (aZ T) (T.av-1) w.af with
   |none=>rw[hcl] at h2;cases h2
   |some l=>
    have hb:∀{cs:List Int} {last:Int} {l:List Int}, -1≤last→dB (aZ T) last cs=some l→(cs.length:Int)+last≤8∨cs= []:=by
     intro cs;induction cs with
     |nil=>intro last l _ _;exact .inr rfl
     |cons c cs ih=>
      intro last l hl h;simp only[dB] at h;split at h
      ·rename_i hd;cases h3:dB (aZ T) c cs with
       |none=>rw[h3] at h;cases h
       |some l'=>
        have hkl:=cr T;rcases ih (by omega) h3 with h4|rfl
        ·left;simp;omega
        ·left;simp;omega
      ·cases h
    rcases hb (by omega) hcl with h|h
    ·omega
    ·simp[h]
  ·simp at h2;simp[h2.1]
theorem X5 (n0:Nat) (s:aa) (t:Nat) (T:ai) (hT:s.J[t]? =some T) (ht:cI T) (key:List I) (rows:List (List I)) (hl:rows.length≤100) (hr:∀r∈rows,r.length=T.af.length):∀(x:List (List I)) (i m:Nat),rows.drop i=x→x.length+100<m→
  Ok (oH (yi n0) m (t:Int) key rows (rows.length:Int) (i:Int) s) fun r=>r= -1∨(0≤r∧r<(rows.length:Int))
 | [],i,m+1,hd,hm=>by
  have:rows.length≤i:=by simpa using hd
  have hq:¬((i:Int)<(rows.length:Int)):=by omega
  simp only[oH,yj,yi,hq,decide_false,Bool.false_eq_true,if_false];exact Ok.pure (.inl rfl)
 |r::x,i,m+1,hd,hm=>by
  obtain ⟨g1,g2,g3⟩:=aO hd;have hq:(i:Int)<(rows.length:Int):=by omega
  have hTi:idx s.J (t:Int)=some T:=by rw[aL];exact hT
  have hc:=ht.aE;have hk2:=ht.bS;simp at hm;simp only[oH,yj,hq,decide_true,if_true,aL,g1,Option.bind_some,nD (n:=m) hTi ht r (hr r (List.mem_of_getElem? g1)),kI m (r.take T.av.toNat) key (by simp;omega) (by simp;omega),bj g3 (by omega)]
  refine Ok.ite (fun _=>Ok.pure (.inr ⟨by omega,hq⟩)) fun _=> ?_
  exact X5 n0 s t T hT ht key rows hl hr x (i+1) m g2 (by omega)
 |_,_,0,_,hm=>by simp at hm
theorem aii (n:Nat) (hn:1000<n) (s:aa) (t:Nat) (T:ai) (hT:s.J[t]? =some T) (ht:cI T) (key:List I) (st:an) (rows:List (List I)) (cZ:st.J[t]? =some rows) (hl:rows.length≤100) (hr:∀r∈rows,r.length=T.af.length):Ok (F35 n s st (t:Int) key) fun _=>True:=by
 have h1:t<s.J.length:=(List.getElem?_eq_some_iff.1 hT).1;have h2:t<st.J.length:=(List.getElem?_eq_some_iff.1 cZ).1;have e1:¬(t:Int)<0:=by omega
 have e2:(t:Int)<(s.J.length:Int):=by omega
 have e3:(t:Int)<(st.J.length:Int):=by omega
 have hc:=ht.aE;unfold F35 Hm F75 GF;simp only[e1,e2,e3,decide_false,decide_true,Bool.not_true,Bool.false_eq_true,if_false,aL,cZ,Option.bind_some];refine Ok.bind (X5 n s t T hT ht key rows hl hr rows 0 n rfl (by omega)) fun q hq=> ?_
 refine Ok.ite (fun _=>Ok.pure trivial) fun hq'=> ?_
 simp at hq';have hq:0≤q∧q<(rows.length:Int):=hq.resolve_left (by omega)
 have hg:idx rows q=some (rows[q.toNat]'(by omega)):=by unfold idx;rw[if_pos hq.1];exact List.getElem?_eq_getElem _
 rw[hg,Option.bind_some,jU _ (by rw[hr _ (List.getElem_mem _)];omega)]
 exact Ok.pure trivial
abbrev KW:=Int→aj→aa→an→List ak→Option (List ak×aj)
def Cy (s:aa) (k:KW) (n10:Int) (N:Nat) (Q:List ak×aj→Prop):Prop:=∀c st ws,ba c→rR s st.J→ew s none ws=0→ws.length≤N→Ok (k (w64 (n10-1)) c s st ws) Q
theorem uB (s:aa) (hs:SOK s) (k:KW) (N:Nat) (hN:N≤100) (Q:List ak×aj→Prop) (n10 a1':Int) (hk:Cy s k n10 (N+1) Q) (a1:List ai) (a2:Int) (c:aj) (hc:ba c) (st:an) (hst:rR s st.J) (ws:List ak) (hws:ew s none ws=0) (hl:ws.length≤N) (w:ak) (hw:mL s w) (n0:Nat):∀(i m at_:Nat) (tw:Bool) (cs:List Int) (vs:List I),i≤ws.length→i+100<m→at_≤ws.length→i≤at_→
  (∀j y,i≤j→j<at_→ws[j]? =some y→gX w.ar w.av y.ar y.av≠ -1)→(∀y,ws[at_]? =some y→gX w.ar w.av y.ar y.av= -1)→(tw=false→∀j y,i≤j→ws[j]? =some y→gX w.ar w.av y.ar y.av≠0)→
  Ok (yc (HK k n0) m n10 (at_:Int) tw ((i:Int)-1) a1 a2 c s st ws ⟨w.fOp,w.ar,w.av,cs,vs⟩ w.af w.aJ) Q
 |0,m+1,at_,tw,cs,vs,hi,hm,ha,hia,p1,p2,p3=>by
  have hq:((0:Nat):Int)-1<0:=by omega
  simp only[yc,HL,HK,hq,decide_true,Bool.not_true,Bool.false_eq_true,if_false];refine Ok.ite (fun htw=> ?_) fun _=>hk c st ws hc hst hws (by omega)
  have htw:tw=false:=by simpa using htw
  have p3:=p3 htw;have e1:hJ ws.length (at_:Int)=some at_:=by unfold hJ;rw[if_pos (by omega)];rfl
  have e2:tX ws.length (at_:Int)=some at_:=by unfold tX;rw[if_pos (by omega)];rfl
  have e3:(ws.drop (0+at_)).take (ws.length-at_)=ws.drop at_:=by rw[Nat.zero_add];exact List.take_of_length_le (by simp)
  simp only[e1,e2,Option.bind_some,e3];rw[cD _ _ (by simp;omega),Option.bind_some]
  have e4:wi ws at_ ([w]++ws.drop at_)=some (ws.take at_++([w]++ws.drop at_)):=by unfold wi;rw[if_pos (by simp;omega)]
  rw[show (ak.mk w.fOp w.ar w.av w.af w.aJ)=w from rfl,e4,Option.bind_some];refine hk c st _ hc hst ?_ (by simp;omega)
  show ew s none (ws.take at_++w::ws.drop at_)=0;refine El hw (fun y hy=> ?_) (by rw[List.take_append_drop];exact hws) ?_
  ·rw[List.head?_drop] at hy;have:=p2 y hy;simp only[mV,this];rfl
  ·rw[ED];split
   ·rfl
   ·rename_i hne;have hat:0<at_:=by
     rcases Nat.eq_zero_or_pos at_ with h|h
     ·subst h;simp at hne
     ·exact h
    have hlen:(ws.take at_).length=at_:=by rw[List.length_take];omega
    rw[hlen,List.getElem?_take,if_pos (by omega)]
    have hg:ws[at_-1]? =some (ws[at_-1]'(by omega)):=List.getElem?_eq_getElem _
    rw[hg];generalize ws[at_-1]=y at hg;have q1:=p1 (at_-1) y (by omega) (by omega) hg
    have q2:=p3 (at_-1) y (by omega) hg
    have q3:=R1 w.ar w.av y.ar y.av;have q4:=aaE w.ar w.av y.ar y.av;have:gX y.ar y.av w.ar w.av<0:=by omega
    simp[mV,this]
 |i+1,m+1,at_,tw,cs,vs,hi,hm,ha,hia,p1,p2,p3=>by
  have hq:¬(((i+1:Nat):Int)-1<0):=by omega
  have e:((i+1:Nat):Int)-1=(i:Int):=by omega
  have e1:bnd ws.length (((i+1:Nat):Int)-1)=some i:=by rw[e];unfold bnd;rw[if_pos (by omega)];rfl
  have e2:ws[0+i]? =some (ws[i]'(by omega)):=by rw[Nat.zero_add];exact List.getElem?_eq_getElem _
  have hg:ws[i]? =some (ws[i]'(by omega)):=List.getElem?_eq_getElem _
  generalize ws[i]=y at e2 hg;have hkl:=pP hs hw;have hw2:w64 (((i+1:Nat):Int)-1-1)=(i:Int)-1:=by rw[bZ (by omega) (by omega)];omega
  simp only[yc,HL,hq,decide_false,Bool.not_false,if_true,e1,e2,Option.bind_some,Yt m w.ar y.ar w.av y.av (by omega) (by omega),hw2]
  refine Ok.ite (fun h0=> ?_) fun h0=> ?_
  ·have h0:gX w.ar w.av y.ar y.av=0:=by simpa using h0
   refine uB s hs k N hN Q n10 a1' hk a1 a2 c hc st hst ws hws hl w hw n0 i m at_ true _ _ (by omega) (by omega) ha (by omega) (fun j z h1 h2 hz=> ?_) p2 (fun h=>by cases h)
   by_cases hj:j=i
   ·subst hj;rw[hg] at hz;cases hz;omega
   ·exact p1 j z (by omega) h2 hz
  ·have h0:gX w.ar w.av y.ar y.av≠0:=by simpa using h0
   have p3':tw=false→∀j z,i≤j→ws[j]? =some z→gX w.ar w.av z.ar z.av≠0:=fun h j z h1 hz=>by
    by_cases hj:j=i
    ·subst hj;rw[hg] at hz;cases hz;exact h0
    ·exact p3 h j z (by omega) hz
   refine Ok.ite (fun h1=> ?_) fun h1=> ?_
   ·have h1:gX w.ar w.av y.ar y.av= -1:=by simpa using h1
    rw[e];refine uB s hs k N hN Q n10 a1' hk a1 a2 c hc st hst ws hws hl w hw n0 i m i tw _ _ (by omega) (by omega) (by omega) (Nat.le_refl _) (fun j z h1 h2=>by omega) (fun z hz=>by rw[hg] at hz;cases hz;exact h1) p3'
   ·have h1:gX w.ar w.av y.ar y.av≠ -1:=by simpa using h1
    refine uB s hs k N hN Q n10 a1' hk a1 a2 c hc st hst ws hws hl w hw n0 i m at_ tw _ _ (by omega) (by omega) ha (by omega) (fun j z h2 h3 hz=> ?_) p2 p3'
    by_cases hj:j=i
    ·subst hj;rw[hg] at hz;cases hz;exact h1
    ·exact p1 j z (by omega) h3 hz
 |_,0,_,_,_,_,_,hm,_,_,_,_,_=>by omega
theorem M4 (s:aa) (hs:SOK s) (k:KW) (N:Nat) (hN:N≤100) (Q:List ak×aj→Prop) (n10:Int) (hk:Cy s k n10 (N+1) Q) (a1:List ai) (a2:Int) (c:aj) (hc:ba c) (st:an) (hst:rR s st.J) (ws:List ak) (hws:ew s none ws=0) (hl:ws.length≤N) (w:ak) (hw:mL s w) (n:Nat) (hn:1000<n) (cs:List Int) (vs:List I):
  Ok (uE k n n10 a1 a2 c s st ws ⟨w.fOp,w.ar,w.av,cs,vs⟩ w.af w.aJ) Q:=by
 unfold uE;rw[bZ (by omega) (by omega)]
 exact uB s hs k N hN Q n10 0 hk a1 a2 c hc st hst ws hws hl w hw n ws.length n ws.length false _ _ (Nat.le_refl _) (by omega) (Nat.le_refl _) (Nat.le_refl _) (fun j y h1 h2=>by omega) (fun y hy=>by rw[List.getElem?_eq_none (Nat.le_refl _)] at hy;cases hy) (fun _ j y h1 hy=>by have:=(List.getElem?_eq_some_iff.1 hy).1;omega)
theorem aaJ (s:aa) (hs:SOK s) (k:KW) (N:Nat) (hN:N≤100) (Q:List ak×aj→Prop) (n10:Int) (hk:Cy s k n10 (N+1) Q) (a1:List ai) (a2:Int) (st:an) (hst:rR s st.J) (ws:List ak) (hws:ew s none ws=0) (hl:ws.length≤N) (t:Int) (T:ai) (hT:idx s.J t=some T) (row:List I) (gQ:bt (aZ T) row=true) (key:List I) (rE:bt (kZ T) key=true) (op:Int) (hop:op=2∨op=3) (n0:Nat) (hn0:1000<n0):∀(x:List I) (i m:Nat) (c:aj) (cs0 cs:List Int) (vs0 vs:List I) (l:List Int),row.drop i=x→x.length<m→ba c→dB (aZ T) (T.av-1) cs=some l→bt l vs=true→AQ (T.av-1) cs<(i:Int)→cs.length≤i→vs.length≤i→(op=3→cs= []∧vs= [])→
  Ok (yd (uE k n0) m n10 (i:Int) a1 a2 c s st ws row ⟨op,t,key,cs0,vs0⟩ cs vs) Q:=by
 have ht:=hs.tab _ _ hT;have hcl:=ht.aE;have hkl:=cr T;have hrl:=dD gQ;have k1:=ht.jG;have fin:∀(c:aj) (cs0 cs:List Int) (vs0 vs:List I) (l:List Int),ba c→dB (aZ T) (T.av-1) cs=some l→bt l vs=true→(op=3→cs= []∧vs= [])→Ok (uE k n0 n10 a1 a2 c s st ws ⟨op,t,key,cs0,vs0⟩ cs vs) Q:=by
  intro c cs0 cs vs0 vs l hc h1 h2 h3;refine M4 s hs k N hN Q n10 hk a1 a2 c hc st hst ws hws hl ⟨op,t,key,cs,vs⟩ ⟨T,hT,by simp only;omega,?_⟩ n0 hn0 _ _
  rcases hop with rfl|rfl
  ·simp[wOK,rE,hX,h1,h2]
  ·obtain ⟨rfl,rfl⟩:=h3 rfl;simp[wOK,rE,hX]
 intro x;induction x with
 |nil=>
  intro i m c cs0 cs vs0 vs l hd hm hc h1 h2 h3 _ _ h4;obtain ⟨m,rfl⟩:∃m',m=m'+1:=⟨m-1,by simp at hm;omega⟩
  have hq':row.length≤i:=by simpa using hd
  have hq:¬((i:Int)<(row.length:Int)):=by omega
  simp only[yd,HM,hq,decide_false,Bool.false_eq_true,if_false];exact fin c _ cs _ vs l hc h1 h2 h4
 |cons v x ih=>
  intro i m c cs0 cs vs0 vs l hd hm hc h1 h2 h3 hcs hvs h4;obtain ⟨m,rfl⟩:∃m',m=m'+1:=⟨m-1,by simp at hm;omega⟩
  obtain ⟨g1,g2,g3⟩:=aO hd;have hq:(i:Int)<(row.length:Int):=by omega
  simp only[yd,HM,hq,decide_true,if_true];refine Ok.ite (fun ho=> ?_) fun _=>fin c _ cs _ vs l hc h1 h2 h4
  have ho:op=2:=by simpa using ho
  refine Ok.bind (jV m c 2 hc) fun b hb=> ?_
  rw[bj g3 (by omega)]
  refine Ok.ite (fun _=> ?_) fun _=> ?_
  ·have e1:bnd row.length (i:Int)=some i:=by unfold bnd;rw[if_pos (by omega)];rfl
   obtain ⟨kk,q1,q2,q3⟩:=JJ gQ g1;rw[cD _ _ (by simp;omega),Option.bind_some,e1,Option.bind_some,Nat.zero_add,g1,Option.bind_some,cD _ _ (by simp;omega),Option.bind_some]
   refine ih (i+1) m b.2 _ _ _ _ (l++ [kk]) g2 (by simp at hm;omega) hb (BB _ h1 h3 (by omega) (by simpa using q1)) (vf h2 q2 q3) (by rw[AP];omega) (by simp;omega) (by simp;omega) (fun h=>by omega)
  ·exact ih (i+1) m b.2 _ _ _ _ l g2 (by simp at hm;omega) hb h1 h2 (by omega) (by omega) (by omega) h4
theorem aaT (s:aa) (hs:SOK s) (k:KW) (N:Nat) (hN:N≤100) (Q:List ak×aj→Prop) (n10:Int) (hk:Cy s k n10 (N+1) Q) (a1:List ai) (a2:Int) (c:aj) (hc:ba c) (st:an) (hst:rR s st.J) (ws:List ak) (hws:ew s none ws=0) (hl:ws.length≤N) (t:Nat) (T:ai) (hT:s.J[t]? =some T) (row:List I) (gQ:bt (aZ T) row=true) (n:Nat) (hn:2000<n):
  Ok (yp k n n10 (t:Int) a1 a2 c s st ws row) Q:=by
 have hTi:idx s.J (t:Int)=some T:=by rw[aL];exact hT
 have ht:=hs.tab _ _ hTi;have hcl:=ht.aE;have hkl:=cr T;have hrl:=dD gQ;have k1:=ht.jG;have k2:=ht.bS;have htl:t<s.J.length:=(List.getElem?_eq_some_iff.1 hT).1;have hsl:t<st.J.length:=by rw[hst.len];exact htl
 have cZ:st.J[t]? =some st.J[t]:=List.getElem?_eq_getElem hsl;generalize st.J[t]=rows at cZ;obtain ⟨r1,r2⟩:=hst.row t T rows hT cZ;have e1:hJ row.length T.av=some T.av.toNat:=by unfold hJ;rw[if_pos (by omega)]
 have rE:bt (kZ T) (row.take T.av.toNat)=true:=Ev _ gQ;unfold yp;rw[hTi,Option.bind_some];simp only[e1,Option.bind_some,List.drop_zero];rw[cD _ _ (by simp;omega),Option.bind_some,List.nil_append]
 refine Ok.bind (aii n (by omega) s t T hT ht _ st rows cZ (by omega) (fun r h=>by rw[dD (r2 r h),hkl])) fun f _=> ?_
 refine Ok.bind (jV n c 8 hc) fun b hb=> ?_
 refine Ok.ite (fun _=> ?_) fun _=> ?_
 ·refine Ok.bind (dt n b.2 2 hb) fun o ⟨ho,o0,o1,_⟩=> ?_
  have o1:=o1 (by omega)
  rw[bZ (by omega) (by omega)]
  have e:T.av=((T.av.toNat:Nat):Int):=by omega
  rw[e];exact aaJ s hs k N hN Q n10 hk a1 a2 st hst ws hws hl (t:Int) T hTi row gQ _ rE (2+o.1) (by omega) n (by omega) (row.drop T.av.toNat) T.av.toNat n o.2 [] [] [] [] [] rfl (by simp;omega) ho rfl rfl (by simp only[AQ];omega) (by simp) (by simp) (fun _=>⟨rfl,rfl⟩)
 ·refine M4 s hs k N hN Q n10 hk a1 a2 b.2 hb st hst ws hws hl ⟨1,(t:Int),row.take T.av.toNat,[],row⟩ ⟨T,hTi,by simp,?_⟩ n (by omega) [] row
  simp[wOK,rE,hX,gQ,vk]
theorem Ms (s:aa) (hs:SOK s) (mI:2≤s.J.length) (n0:Nat):∀(j m:Nat) (c:aj) (st:an) (ws:List ak),j+3000<m→ba c→rR s st.J→ew s none ws=0→ws.length+j≤50→
  Ok (rh (yo n0) m (j:Int) c s st ws) fun r=>ba r.2∧ew s none r.1=0∧r.1.length≤ws.length+j
 |0,m+1,c,st,ws,hm,hc,hst,hws,hl=>by
  have hq:¬(0:Int)<((0:Nat):Int):=by omega
  simp only[rh,HJ,yo,hq,decide_false,Bool.false_eq_true,if_false];exact Ok.pure ⟨hc,hws,by simp⟩
 |j+1,m+1,c,st,ws,hm,hc,hst,hws,hl=>by
  have hq:(0:Int)<((j+1:Nat):Int):=by omega
  have hq2:(0:Int)<(s.J.length:Int):=by omega
  have hl8:=hs.len;simp only[rh,HJ,hq,hq2,decide_true,if_true];refine Ok.bind (dt m c _ hc) fun t ⟨ht,t0,t1,_⟩=> ?_
  have t1:=t1 (by omega)
  obtain ⟨tn,te⟩:∃tn:Nat,t.1=(tn:Int):=⟨t.1.toNat,by omega⟩
  rw[te];have htn:tn<s.J.length:=by omega
  have hT:s.J[tn]? =some s.J[tn]:=List.getElem?_eq_getElem htn;generalize s.J[tn]=T at hT;have hTi:idx s.J (tn:Int)=some T:=by rw[aL];exact hT
  have hto:=hs.tab _ _ hTi;have hcl:=hto.aE;have hkl:=cr T;have k1:=hto.jG;have k2:=hto.bS;have hsl:tn<st.J.length:=by rw[hst.len];exact htn
  have cZ:st.J[tn]? =some st.J[tn]:=List.getElem?_eq_getElem hsl;generalize st.J[tn]=rows at cZ;obtain ⟨r1,r2⟩:=hst.row tn T rows hT cZ;rw[sJ hTi (by omega) (by omega:1000<m),Option.bind_some,hTi,Option.bind_some]
  refine Ok.bind (Yu m (by omega) t.2 (aZ T) T.av hto.ks (by omega) ht) fun r ⟨h1,h2⟩=> ?_
  have hrl:=dD h2;rw[aL,cZ,Option.bind_some];have hw:w64 (((j+1:Nat):Int)-1)=(j:Int):=by rw[bZ (by omega) (by omega)];omega
  have hk:Cy s (rh (yo n0) m) ((j+1:Nat):Int) (ws.length+1) fun r=>ba r.2∧ew s none r.1=0∧r.1.length≤ws.length+(j+1):=by
   intro c' st' ws' h1 h2 h3 h4;rw[hw];exact (Ms s hs mI n0 j m c' st' ws' (by omega) h1 h2 h3 (by omega)).mono fun q ⟨q1,q2,q3⟩=>⟨q1,q2,by omega⟩
  have fin:=fun c' (hc':ba c') row gQ=>aaT s hs (rh (yo n0) m) ws.length (by omega) _ ((j+1:Nat):Int) hk s.J (s.J.length:Int) c' hc' st hst ws hws (Nat.le_refl _) tn T hT row gQ m (by omega)
  refine Ok.ite (fun hne=> ?_) fun _=>fin _ h1 _ h2
  refine Ok.bind (jV m r.2 3 h1) fun b hb=> ?_
  refine Ok.ite (fun _=> ?_) fun _=>fin _ hb _ h2
  simp at hne;refine Ok.bind (dt m b.2 (rows.length:Int) hb) fun q ⟨hq',q0,q1,_⟩=> ?_
  have q1:=q1 (by omega)
  have hg:idx rows q.1=some (rows[q.1.toNat]'(by omega)):=by unfold idx;rw[if_pos q0];exact List.getElem?_eq_getElem _
  have hold:=r2 _ (List.getElem_mem (by omega:q.1.toNat<rows.length))
  generalize rows[q.1.toNat]=old at hg hold;have hol:=dD hold;rw[hg,Option.bind_some,nD (n:=m) hTi hto old (by omega),Option.bind_some]
  have tC:r.1≠ []:=fun e=>by rw[e] at hrl;simp at hrl;omega
  have hcp:cpy r.1 (old.take T.av.toNat)=some (old.take T.av.toNat++r.1.drop T.av.toNat):=by
   unfold cpy;rw[if_neg tC];have:min (old.take T.av.toNat).length r.1.length=T.av.toNat:=by simp;omega
   rw[this,List.take_take,Nat.min_self]
  rw[hcp,Option.bind_some];exact fin _ hq' _ (JI _ hold h2)
 |_,0,_,_,_,hm,_,_,_,_=>by omega
theorem ait (n:Nat) (hn:5000≤n) (s:aa) (hs:SOK s) (mI:2≤s.J.length) (c:aj) (hc:ba c) (st:an) (hst:rR s st.J) (Zl:Nat) (hmost:Zl≤10):Ok (F10 n c s st (Zl:Int)) fun r=>ba r.2∧ew s none r.1=0∧r.1.length≤Zl:=by
 unfold F10 Tw;rw[bZ (by omega) (by omega)]
 refine Ok.bind (dt n c _ hc) fun r ⟨hr,r0,r1,_⟩=> ?_
 have r1:=r1 (by omega)
 have e:r.1=((r.1.toNat:Nat):Int):=by omega
 rw[e];exact (Ms s hs mI n r.1.toNat n r.2 st [] (by omega) hr hst rfl (by simp;omega)).mono fun q ⟨q1,q2,q3⟩=>⟨q1,q2,by simp at q3;omega⟩
structure Few (w:ak) (N:Nat):Prop where
 key:w.av.length≤N
 col:w.af.length≤N
 cel:w.aJ.length≤N
theorem Few.wB {w:ak} {N:Nat} (h:Few w N) (hN:N≤1000):wB w:=⟨by have:=h.col;omega,by have:=h.key;omega⟩
theorem Z5 {s:aa} (hs:SOK s) {w:ak} (h:mL s w):Few w 100:=by
 refine ⟨by have:=pP hs h;omega,vI hs h,?_⟩
 have hcols:=vI hs h;obtain ⟨T,hT,h1,h2⟩:=h;have ht:=hs.tab _ _ hT;have hc:=ht.aE;have k1:=ht.jG;have hkl:=cr T;simp only[wOK,hX,Bool.and_eq_true] at h2;have h2:=h2.2;split at h2
 ·simp at h2;have:=dD h2.2.1;omega
 ·split at h2
  ·cases hcl:dB (aZ T) (T.av-1) w.af with
   |none=>rw[hcl] at h2;cases h2
   |some l=>
    rw[hcl] at h2;have:=dD h2;have:=(l7 ht.ks (by omega) hcl).1
    omega
  ·simp at h2;simp[h2.2]
theorem Db {l:List ak} {i:Nat} {w y:ak} (h:y∈l.set i w):y∈l∨y=w:=by
 rcases List.mem_or_eq_of_mem_set h with h|h
 ·exact .inl h
 ·exact .inr h
theorem aiq (n:Nat) (hn:1000≤n) (c:aj) (hc:ba c) (l:List ak) (hl:l.length≤100) (hf:∀w∈l,Few w 100):Ok (F13 n c l) fun r=>ba r.2∧∀w∈r.1,Few w 101:=by
 have up:∀w∈l,Few w 101:=fun w hw=>by have:=hf w hw;exact ⟨by have:=this.key;omega,by have:=this.col;omega,by have:=this.cel;omega⟩
 unfold F13 Tt;rw[cD _ _ (by simp;omega),Option.bind_some,List.nil_append]
 refine Ok.ite (fun h0=> ?_) fun h0=> ?_
 ·refine Ok.bind (dt n c 5 hc) fun a ⟨ha,_⟩=>Ok.bind (dt n a.2 4 ha) fun b ⟨hb,_⟩=>Ok.pure ⟨hb,fun w hw=> ?_⟩
  simp at hw;subst hw;exact ⟨by simp,by simp,by simp⟩
 ·have mI:0<l.length:=by
   rcases Nat.eq_zero_or_pos l.length with h|h
   ·rw[h] at h0;cases h0
   ·exact h
  refine Ok.bind (dt n c _ hc) fun i ⟨hi,i0,i1,_⟩=> ?_
  have i1:=i1 (by omega)
  have e1:bnd l.length i.1=some i.1.toNat:=by unfold bnd;rw[if_pos (by omega)]
  have hlt:i.1.toNat<l.length:=by omega
  have e2:l[0+i.1.toNat]? =some l[i.1.toNat]:=by rw[Nat.zero_add];exact List.getElem?_eq_getElem hlt
  have hw:=hf _ (List.getElem_mem hlt);generalize l[i.1.toNat]=w at e2 hw;have e3:∀w',setAt l (0+i.1.toNat) w'=some (l.set i.1.toNat w'):=fun w'=>by rw[Nat.zero_add];unfold setAt;rw[if_pos hlt]
  have iI:∀w',Few w' 101→∀y∈l.set i.1.toNat w',Few y 101:=fun w' h y hy=>by
   rcases Db hy with h'|h'
   ·exact up y h'
   ·rw[h'];exact h
  have b0:bnd l.length 0=some 0:=by unfold bnd;rw[if_pos (by omega)];rfl
  have g0:l[0+0]? =some l[0]:=List.getElem?_eq_getElem mI;have hw0:=List.getElem_mem mI;generalize l[0]=w0 at g0 hw0;have hk:=hw.key;have hcl:=hw.col;have hce:=hw.cel;rw[e1,Option.bind_some];refine Ok.bind (dt n i.2 8 hi) fun q ⟨hq,q0,q1,_⟩=> ?_
  simp only[e2,e3,Option.bind_some,b0,g0];refine Ok.ite (fun _=>Ok.bind (dt n q.2 5 hq) fun a ⟨ha,_⟩=>Ok.pure ⟨ha,iI _ ⟨by simp only;omega,by simp only;omega,by simp only;omega⟩⟩) fun _=> ?_
  refine Ok.ite (fun _=>Ok.bind (dt n q.2 7 hq) fun a ⟨ha,_⟩=>Ok.pure ⟨ha,iI _ ⟨by simp only;omega,by simp only;omega,by simp only;omega⟩⟩) fun _=> ?_
  refine Ok.ite (fun _=> ?_) fun _=> ?_
  ·rw[cD _ _ (by simp;omega),Option.bind_some,List.nil_append]
   refine Ok.bind (My n (by omega) q.2 hq) fun a ⟨ha,_⟩=> ?_
   rw[cD _ _ (by simp;omega),Option.bind_some]
   exact Ok.pure ⟨ha,iI _ ⟨by simp;omega,by simp only;omega,by simp only;omega⟩⟩
  refine Ok.ite (fun _=> ?_) fun _=> ?_
  ·rw[cD _ _ (by simp;omega),Option.bind_some,List.nil_append]
   refine Ok.bind (My n (by omega) q.2 hq) fun a ⟨ha,_⟩=> ?_
   rw[cD _ _ (by simp;omega),Option.bind_some]
   exact Ok.pure ⟨ha,iI _ ⟨by simp only;omega,by simp only;omega,by simp;omega⟩⟩
  refine Ok.ite (fun _=> ?_) fun _=> ?_
  ·rw[cD _ _ (by simp;omega),Option.bind_some,List.nil_append]
   refine Ok.bind (dt n q.2 5 hq) fun a ⟨ha,_⟩=> ?_
   rw[cD _ _ (by simp;omega),Option.bind_some]
   exact Ok.pure ⟨ha,iI _ ⟨by simp only;omega,by simp;omega,by simp only;omega⟩⟩
  refine Ok.ite (fun _=> ?_) fun _=> ?_
  ·rw[cD _ _ (by simp;omega),Option.bind_some]
   refine Ok.pure ⟨hq,fun y hy=> ?_⟩
   rcases List.mem_append.1 hy with h|h
   ·exact up y h
   ·simp at h;subst h;exact up _ hw0
  refine Ok.ite (fun _=> ?_) fun _=> ?_
  ·have hw1:w64 ((l.length:Int)-1)=((l.length-1:Nat):Int):=by rw[bZ (by omega) (by omega)];omega
   have b1:bnd l.length ((l.length-1:Nat):Int)=some (l.length-1):=by unfold bnd;rw[if_pos (by omega)];simp
   have g1:l[0+(l.length-1)]? =some (l[l.length-1]'(by omega)):=by rw[Nat.zero_add];exact List.getElem?_eq_getElem _
   have hm1:=List.getElem_mem (by omega:l.length-1<l.length)
   generalize l[l.length-1]=w1 at g1 hm1;have s0:setAt l (0+0) w1=some (l.set 0 w1):=by unfold setAt;rw[if_pos (by omega)]
   have g2:(l.set 0 w1)[0+(l.length-1)]? =some ((l.set 0 w1)[l.length-1]'(by simp;omega)):=by rw[Nat.zero_add];exact List.getElem?_eq_getElem _
   have s1:setAt (l.set 0 w1) (0+(l.length-1)) w0=some ((l.set 0 w1).set (l.length-1) w0):=by rw[Nat.zero_add];unfold setAt;rw[if_pos (by simp;omega)]
   simp only[hw1,b1,g1,Option.bind_some,s0,g2,s1];refine Ok.pure ⟨hq,fun y hy=> ?_⟩
   rcases Db hy with h|h
   ·rcases Db h with h|h
    ·exact up y h
    ·rw[h];exact up _ hm1
   ·rw[h];exact up _ hw0
  ·refine Ok.ite (fun h5=> ?_) fun _=>Ok.pure ⟨hq,up⟩
   simp at h5;rw[cD _ _ (by simp;omega),Option.bind_some,List.nil_append]
   refine Ok.bind (dt n q.2 _ hq) fun j ⟨hj,j0,j1,_⟩=> ?_
   have j1:=j1 (by omega)
   refine Ok.bind (My n (by omega) j.2 hj) fun a ⟨ha,_⟩=> ?_
   have b1:bnd w.aJ.length j.1=some j.1.toNat:=by unfold bnd;rw[if_pos (by omega)]
   have g1:w.aJ[0+j.1.toNat]? =some (w.aJ[j.1.toNat]'(by omega)):=by rw[Nat.zero_add];exact List.getElem?_eq_getElem _
   have s1:setAt w.aJ (0+j.1.toNat) a.1=some (w.aJ.set j.1.toNat a.1):=by rw[Nat.zero_add];unfold setAt;rw[if_pos (by omega)]
   simp only[b1,g1,s1,Option.bind_some];exact Ok.pure ⟨ha,iI _ ⟨by simp only;omega,by simp only;omega,by simp;omega⟩⟩
section
theorem fa {T:ai} {r:List I} (h:bt (aZ T) r=true):r.length=T.af.length:=by rw[dD h,cr]
def behind (T:ai):Option (List I)→List I→Bool
 |none,_=>true
 |some q,r=>decide (dx (q.take T.av.toNat) (r.take T.av.toNat)<0)
def jZ (T:ai):Option (List I)→List (List I)→Bool
 |_,[]=>true
 |p,r::rs=>bt (aZ T) r&&(behind T p r&&jZ T (some r) rs)
def lM:List ai→List (List (List I))→Bool
 |T::Ts,rs::rss=>jZ T none rs&&lM Ts rss
 |_,_=>true
def total:List (List (List I))→Nat
 | []=>0
 |rs::rss=>rs.length+total rss
variable {s:aa} {t n:Nat} {T:ai}
theorem Mx (hT:idx s.J t=some T) (ht:cI T) (r:List I) (hr:r.length=T.af.length):F71 n s t r=some (r.take T.av.toNat):=by
 obtain ⟨h0,h1,_⟩:=pG hT;have:=ht.aE;have k1:=ht.jG;have k2:=ht.bS;have e1:¬(t:Int)<0:=by omega
 have e2:(t:Int)<(s.J.length:Int):=by omega
 have e3:¬(r.length:Int)<T.av:=by omega
 have e4:0<T.av:=by omega
 simp only[F71,SN,e1,e2,decide_false,decide_true,Bool.not_true,Bool.false_eq_true,if_false,hT,Option.bind_some,e3,e4,if_true];rw[Bv (by omega) (by omega),Option.bind_some]
theorem Mn (hT:idx s.J (t:Int)=some T) (ht:cI T) (rows:List (List I)) (hl:rows.length≤2000000) (k:Int→List (List (List I))→Int→Int→aa→Option Int) (a:List (List (List I))) (a1 a2:Int):
  ∀(x:List (List I)) (i m:Nat),rows.drop i=x→x.length+1100<m→(i=0∨∃q,rows[i-1]? =some q∧q.length=T.af.length)→
   xU k m 1 (t:Int) rows a a1 a2 rows (rows.length:Int) (i:Int) s=if jZ T (if i=0 then none else rows[i-1]?) x then k 1 a a1 a2 s else some 80
 | [],i,m+1,hd,hm,_=>by
  have hq':rows.length≤i:=by simpa using hd
  have hq:¬((i:Int)<(rows.length:Int)):=by omega
  simp only[xU,Hu,hq,decide_false,Bool.false_eq_true,if_false,jZ,if_true]
 |r::x,i,m+1,hd,hm,hp=>by
  obtain ⟨g1,g2,g3⟩:=aO hd;have hq:(i:Int)<(rows.length:Int):=by omega
  simp at hm;simp only[xU,Hu,hq,decide_true,if_true,aL,g1,Option.bind_some,Yq hT ht r (by omega:1000<m),jZ]
  rcases Bool.eq_false_or_eq_true (bt (aZ T) r) with hr|hr
  rotate_left
  ·simp[hr]
  ·have hc:=fa hr;have h8:=ht.aE;have ih:=Mn hT ht rows hl k a a1 a2 x (i+1) m g2 (by omega) (.inr ⟨r,by rw[Nat.add_sub_cancel];exact g1,hc⟩)
   rw[if_neg (by omega:¬i+1=0),Nat.add_sub_cancel,g1] at ih
   simp only[hr,Bool.not_true,Bool.false_eq_true,if_false,Bool.true_and,bj g3 (by omega:rows.length<4294967296),ih]
   by_cases h0:i=0
   ·subst h0;simp[behind]
   ·obtain ⟨q,hg,hql⟩:=hp.resolve_left h0;have h0':0<(i:Int):=by omega
    have hw:w64 ((i:Int)-1)=((i-1:Nat):Int):=by rw[bZ (by omega) (by omega)];omega
    simp only[h0',decide_true,if_true,hw,aL,hg,Option.bind_some,h0,if_false,Mx hT ht q hql,Mx hT ht r hc,wx m (q.take T.av.toNat) (r.take T.av.toNat) (by simp;omega) (by simp;omega),behind]
    by_cases h5:dx (q.take T.av.toNat) (r.take T.av.toNat)<0
    ·simp[h5]
    ·simp[h5]
 |_,_,0,_,hm,_=>by simp at hm
theorem Ma (hT:idx s.J (t:Int)=some T) (ht:cI T) (rows:List (List I)) (hl:rows.length≤2000000) (k:Int→List (List (List I))→Int→Int→aa→Option Int) (a:List (List (List I))) (a1 a2:Int):
  ∀(x:List (List I)) (i m:Nat),rows.drop i=x→x.length+1100<m→(i=0∨∃q,rows[i-1]? =some q∧q.length=T.af.length)→
   xJ k m 1 (t:Int) rows a a1 a2 rows (rows.length:Int) (i:Int) s=if jZ T (if i=0 then none else rows[i-1]?) x then k 1 a a1 a2 s else some 80
 | [],i,m+1,hd,hm,_=>by
  have hq':rows.length≤i:=by simpa using hd
  have hq:¬((i:Int)<(rows.length:Int)):=by omega
  simp only[xJ,GV,hq,decide_false,Bool.false_eq_true,if_false,jZ,if_true]
 |r::x,i,m+1,hd,hm,hp=>by
  obtain ⟨g1,g2,g3⟩:=aO hd;have hq:(i:Int)<(rows.length:Int):=by omega
  simp at hm;simp only[xJ,GV,hq,decide_true,if_true,aL,g1,Option.bind_some,Yn hT ht r (by omega:1000<m),jZ]
  rcases Bool.eq_false_or_eq_true (bt (aZ T) r) with hr|hr
  rotate_left
  ·simp[hr]
  ·have hc:=fa hr;have h8:=ht.aE;have ih:=Ma hT ht rows hl k a a1 a2 x (i+1) m g2 (by omega) (.inr ⟨r,by rw[Nat.add_sub_cancel];exact g1,hc⟩)
   rw[if_neg (by omega:¬i+1=0),Nat.add_sub_cancel,g1] at ih
   simp only[hr,Bool.not_true,Bool.false_eq_true,if_false,Bool.true_and,bj g3 (by omega:rows.length<4294967296),ih]
   by_cases h0:i=0
   ·subst h0;simp[behind]
   ·obtain ⟨q,hg,hql⟩:=hp.resolve_left h0;have h0':0<(i:Int):=by omega
    have hw:w64 ((i:Int)-1)=((i-1:Nat):Int):=by rw[bZ (by omega) (by omega)];omega
    simp only[h0',decide_true,if_true,hw,aL,hg,Option.bind_some,h0,if_false,nD (n:=m) hT ht q hql,nD (n:=m) hT ht r hc,kI m (q.take T.av.toNat) (r.take T.av.toNat) (by simp;omega) (by simp;omega),behind]
    by_cases h5:dx (q.take T.av.toNat) (r.take T.av.toNat)<0
    ·simp[h5]
    ·simp[h5]
 |_,_,0,_,hm,_=>by simp at hm
theorem uR {x:List (List (List I))} {rs:List (List I)} (h:rs∈x):rs.length≤total x:=by
 induction x with
 |nil=>simp at h
 |cons y x ih=>
  simp only[total];rcases List.mem_cons.1 h with rfl|h
  ·omega
  ·have:=ih h;omega
theorem Mm (hs:SOK s) (n0:Nat) (ts:List (List (List I))) (hlen:ts.length=s.J.length) (hl:total ts≤512):
  ∀(x:List (List (List I))) (i m:Nat),ts.drop i=x→x.length+2000<m→
   uz (B9 n0) m 1 ts (ts.length:Int) (i:Int) s=some (if lM (s.J.drop i) x then 0 else 80)
 | [],i,m+1,hd,hm=>by
  have hq':ts.length≤i:=by simpa using hd
  have hq:¬((i:Int)<(ts.length:Int)):=by omega
  simp only[uz,Hr,B9,hq,decide_false,Bool.false_eq_true,if_false];cases s.J.drop i<;>simp[lM]
 |rs::x,i,m+1,hd,hm=>by
  obtain ⟨g1,g2,g3⟩:=aO hd;have hq:(i:Int)<(ts.length:Int):=by omega
  have h8:=hs.len;have hrs:=uR (List.mem_of_getElem? g1);simp at hm;have hi:i<s.J.length:=by omega
  have hT:idx s.J (i:Int)=some (s.J[i]):=by rw[aL];exact List.getElem?_eq_getElem _
  have ih:=Mm hs n0 ts hlen hl x (i+1) m g2 (by omega)
  simp only[uz,Hr,hq,decide_true,if_true,aL,g1,Option.bind_some];have e:=Mn hT (hs.tab _ _ hT) rs (by omega) (Ht (uz (B9 n0) m) m) ts (ts.length:Int) (i:Int) rs 0 m rfl (by omega) (.inl rfl)
  rw[if_pos rfl,show ((0:Nat):Int)=0 from rfl] at e;rw[e,List.drop_eq_getElem_cons hi];simp only[Ht,bj g3 (by omega:ts.length<4294967296),ih,lM]
  rcases Bool.eq_false_or_eq_true (jZ s.J[i] none rs) with hb|hb<;>simp[hb]
 |_,_,0,_,hm=>by simp at hm
theorem L9 (hs:SOK s) (n0:Nat) (ts:List (List (List I))) (hlen:ts.length=s.J.length) (hl:total ts≤512):
  ∀(x:List (List (List I))) (i m:Nat),ts.drop i=x→x.length+2000<m→
   uv (B5 n0) m 1 ts (ts.length:Int) (i:Int) s=some (if lM (s.J.drop i) x then 0 else 80)
 | [],i,m+1,hd,hm=>by
  have hq':ts.length≤i:=by simpa using hd
  have hq:¬((i:Int)<(ts.length:Int)):=by omega
  simp only[uv,GS,B5,hq,decide_false,Bool.false_eq_true,if_false];cases s.J.drop i<;>simp[lM]
 |rs::x,i,m+1,hd,hm=>by
  obtain ⟨g1,g2,g3⟩:=aO hd;have hq:(i:Int)<(ts.length:Int):=by omega
  have h8:=hs.len;have hrs:=uR (List.mem_of_getElem? g1);simp at hm;have hi:i<s.J.length:=by omega
  have hT:idx s.J (i:Int)=some (s.J[i]):=by rw[aL];exact List.getElem?_eq_getElem _
  have ih:=L9 hs n0 ts hlen hl x (i+1) m g2 (by omega)
  simp only[uv,GS,hq,decide_true,if_true,aL,g1,Option.bind_some];have e:=Ma hT (hs.tab _ _ hT) rs (by omega) (GU (uv (B5 n0) m) m) ts (ts.length:Int) (i:Int) rs 0 m rfl (by omega) (.inl rfl)
  rw[if_pos rfl,show ((0:Nat):Int)=0 from rfl] at e;rw[e,List.drop_eq_getElem_cons hi];simp only[GU,bj g3 (by omega:ts.length<4294967296),ih,lM]
  rcases Bool.eq_false_or_eq_true (jZ s.J[i] none rs) with hb|hb<;>simp[hb]
 |_,_,0,_,hm=>by simp at hm
theorem Ya (k:Int→Option Int) (ts:List (List (List I))) (hl:ts.length+total ts≤2000000):∀(x:List (List (List I))) (i m a:Nat),ts.drop i=x→x.length<m→a+total x≤2000000→xH k m (a:Int) ts (ts.length:Int) (i:Int)=k ((a+total x:Nat):Int)
 | [],i,m+1,a,hd,hm,ha=>by
  have hq':ts.length≤i:=by simpa using hd
  have hq:¬((i:Int)<(ts.length:Int)):=by omega
  simp only[xH,GO,hq,decide_false,Bool.false_eq_true,if_false,total,Nat.add_zero]
 |rs::x,i,m+1,a,hd,hm,ha=>by
  obtain ⟨g1,g2,g3⟩:=aO hd;have hq:(i:Int)<(ts.length:Int):=by omega
  simp at hm;simp only[total] at ha;have hw:w64 ((a:Int)+(rs.length:Int))=((a+rs.length:Nat):Int):=by rw[bZ (by omega) (by omega)];omega
  simp only[xH,GO,hq,decide_true,if_true,aL,g1,Option.bind_some,bj g3 (by omega:ts.length<4294967296),hw]
  rw[Ya k ts hl x (i+1) m (a+rs.length) g2 (by omega) (by omega)]
  simp only[total,Nat.add_assoc]
 |_,_,0,_,_,hm,_=>by simp at hm
theorem Mb (k:Int→aa→an→Option Int) (st:an) (ts:List (List (List I))) (hl:ts.length+total ts≤2000000):∀(x:List (List (List I))) (i m a:Nat),ts.drop i=x→x.length<m→a≤512→total x≤total ts→(512<a+total x→oI k m 1 (a:Int) ts (ts.length:Int) (i:Int) s st=some 2)∧(a+total x≤512→oI k m 1 (a:Int) ts (ts.length:Int) (i:Int) s st=k 1 s st)
 | [],i,m+1,a,hd,hm,ha,_=>by
  have hq':ts.length≤i:=by simpa using hd
  have hq:¬((i:Int)<(ts.length:Int)):=by omega
  refine ⟨fun h=> ?_,fun _=> ?_⟩
  ·simp only[total] at h;omega
  ·simp only[oI,GW,hq,decide_false,Bool.false_eq_true,if_false]
 |rs::x,i,m+1,a,hd,hm,ha,hx=>by
  obtain ⟨g1,g2,g3⟩:=aO hd;have hq:(i:Int)<(ts.length:Int):=by omega
  simp at hm;simp only[total] at hx ⊢;have hw:w64 ((a:Int)+(rs.length:Int))=((a+rs.length:Nat):Int):=by rw[bZ (by omega) (by omega)];omega
  have hv:w64 (512-(a:Int))=512-(a:Int):=bZ (by omega) (by omega)
  have e:oI k (m+1) 1 (a:Int) ts (ts.length:Int) (i:Int) s st=if decide (512-(a:Int)<(rs.length:Int)) then some 2 else oI k m 1 ((a+rs.length:Nat):Int) ts (ts.length:Int) ((i+1:Nat):Int) s st:=by
   simp only[oI,GW,hq,decide_true,if_true,aL,g1,Option.bind_some,bj g3 (by omega:ts.length<4294967296),hw,hv]
  rw[e];by_cases h:512-(a:Int)<(rs.length:Int)
  ·simp only[h,decide_true,if_true];exact ⟨fun _=>trivial,fun h'=>by omega⟩
  ·simp only[h,decide_false,Bool.false_eq_true,if_false];obtain ⟨h1,h2⟩:=Mb k st ts hl x (i+1) m (a+rs.length) g2 (by omega) (by omega) (by omega)
   exact ⟨fun h'=>h1 (by omega),fun h'=>h2 (by omega)⟩
 |_,_,0,_,_,hm,_,_=>by simp at hm
def kK (s:aa) (e:Int) (ts:List (List (List I))):Int:=
 if e=0 then (if 512<total ts then 2 else if ts.length=s.J.length then (if lM s.J ts then 0 else 80) else 80) else e
theorem ail (n:Nat) (s:aa) (e:Int) (he:F38 n s=some e) (hs:e=0→SOK s) (st:an) (hl:st.J.length+total st.J≤2000000) (hn:2000100≤n):F28 n s 1 st=some (kK s e st.J):=by
 unfold F28 Tj F69 SQ kK;rw[he,Option.bind_some];by_cases h0:e=0
 ·subst h0;have h57:=Ya (GN n) st.J hl st.J 0 n 0 rfl (by omega) (by omega)
  simp only[bne_self_eq_false,Bool.false_eq_true,if_false,if_true,Option.bind_some,F57,SX,show ((0:Nat):Int)=0 from rfl,Nat.zero_add] at h57 ⊢;rw[h57];simp only[GN,Option.bind_some];by_cases h1:512<total st.J
  ·have h1':(512:Int)<(total st.J:Int):=by omega
   simp only[h1,h1',decide_true,if_true]
  ·have h1':¬(512:Int)<(total st.J:Int):=by omega
   simp only[h1,h1',decide_false,Bool.false_eq_true,if_false];by_cases h2:st.J.length=s.J.length
   ·have h2':((st.J.length:Int) !=(s.J.length:Int))=false:=by simp[h2]
    rw[h2',if_pos h2,if_neg (by simp)]
    have h8:=(hs rfl).len;have:=Mm (hs rfl) n st.J h2 (by omega) st.J 0 n rfl (by omega)
    rw[List.drop_zero,show ((0:Nat):Int)=0 from rfl] at this;exact this
   ·have h2':((st.J.length:Int) !=(s.J.length:Int))=true:=by simp;omega
    simp only[h2',if_true,h2,if_false]
 ·have:(e !=0)=true:=by simpa using h0
  simp[this,h0]
theorem ahZ (n:Nat) (s:aa) (e:Int) (he:F44 n s=some e) (hs:e=0→SOK s) (st:an) (hl:st.J.length+total st.J≤2000000) (hn:2000100≤n):F53 n s 1 st=some (kK s e st.J):=by
 unfold F53 S1 kK;rw[he,Option.bind_some];by_cases h0:e=0
 ·subst h0;obtain ⟨h57,h58⟩:=Mb (s:=s) (GR n) st st.J hl st.J 0 n 0 rfl (by omega) (by omega) (by omega)
  rw[show ((0:Nat):Int)=0 from rfl] at h57 h58;simp only[bne_self_eq_false,Bool.false_eq_true,if_false,if_true,show ¬((1:Int)<1) by omega,show ¬((3:Int)<1) by omega,decide_false]
  by_cases h1:512<total st.J
  ·rw[h57 (by omega),if_pos h1]
  ·rw[h58 (by omega),if_neg h1]
   unfold GR;by_cases h2:st.J.length=s.J.length
   ·have h2':((st.J.length:Int) !=(s.J.length:Int))=false:=by simp[h2]
    rw[h2',if_pos h2,if_neg (by simp)]
    have h8:=(hs rfl).len;have:=L9 (hs rfl) n st.J h2 (by omega) st.J 0 n rfl (by omega)
    rw[List.drop_zero,show ((0:Nat):Int)=0 from rfl] at this;exact this
   ·have h2':((st.J.length:Int) !=(s.J.length:Int))=true:=by simp;omega
    simp only[h2',if_true,h2,if_false]
 ·have:(e !=0)=true:=by simpa using h0
  simp[this,h0]
end
end Go.Proofs.YtmealahmjddpcaaGreatDoor
end
