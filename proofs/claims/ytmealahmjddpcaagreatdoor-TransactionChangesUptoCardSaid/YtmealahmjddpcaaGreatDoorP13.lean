/- Texts that belong together. The first: Plain laws: the changes of writes, in the program and in the reference. Condition: valid tables, a valid state, valid writes, enough steps. -/
import Derived.Test.YtmealahmjddpcaaGreatDoorP12
import Derived.Test.YtmealahmjddpcaaGreatDoorP11
set_option linter.all false
noncomputable section
namespace Go.Proofs.YtmealahmjddpcaaGreatDoor
open Go.Sim
section
def lY (T:ai) (key:List I) (rows:List (List I)):Option (List I):=rows.find? fun r=>dx (r.take T.av.toNat) key==0
def mK:Option (List I)→List I×Bool
 |some r=>(r,true)
 |none=>([],false)
def Fit (s:aa) (ts:List (List (List I))):Prop:=ts.length=s.J.length∧∀(t:Nat) T rows,s.J[t]? =some T→ts[t]? =some rows→rows.length≤512∧∀r∈rows,bt (aZ T) r=true
theorem Et {T:ai}:∀{rs:List (List I)} {p:Option (List I)},jZ T p rs=true→∀r∈rs,bt (aZ T) r=true
 |r::rs,p,h,y,hy=>by
  simp only[jZ,Bool.and_eq_true] at h;rcases List.mem_cons.1 hy with rfl|hy
  ·exact h.1
  ·exact Et h.2.2 y hy
theorem Ep:∀{Ts:List ai} {rss:List (List (List I))} {t:Nat} {T:ai} {rows:List (List I)},lM Ts rss=true→Ts[t]? =some T→rss[t]? =some rows→jZ T none rows=true
 | [],_,_,_,_,_,h,_=>by simp at h
 |_::_,[],_,_,_,_,_,h=>by simp at h
 |U::Ts,rs::rss,0,T,rows,h,h1,h2=>by
  simp only[lM,Bool.and_eq_true] at h;simp at h1 h2;subst h1;subst h2;exact h.1
 |U::Ts,rs::rss,t+1,T,rows,h,h1,h2=>by
  simp only[lM,Bool.and_eq_true] at h;exact Ep h.2 (by simpa using h1) (by simpa using h2)
theorem uW {s:aa} {ts:List (List (List I))} (h:kK s 0 ts=0):Fit s ts:=by
 unfold kK at h;rw[if_pos rfl] at h;split at h
 ·cases h
 ·rename_i h1;split at h
  ·rename_i h2;split at h
   ·rename_i h3;refine ⟨h2,fun t T rows hT hr=>⟨?_,Et (Ep h3 hT hr)⟩⟩
    have:=uR (List.mem_of_getElem? hr);omega
   ·cases h
  ·cases h
variable {s:aa} {t n:Nat} {T:ai}
theorem X9 (n0:Nat) (hT:idx s.J (t:Int)=some T) (ht:cI T) (key:List I) (rows:List (List I)) (hl:rows.length≤512) (hr:∀r∈rows,bt (aZ T) r=true):∀(x:List (List I)) (i m:Nat),rows.drop i=x→x.length+1100<m→
  xG (GL n0) m (t:Int) key rows (rows.length:Int) (i:Int) s=some (mK (lY T key x))
 | [],i,m+1,hd,hm=>by
  have hq':rows.length≤i:=by simpa using hd
  have hq:¬((i:Int)<(rows.length:Int)):=by omega
  simp only[xG,GM,GL,hq,decide_false,Bool.false_eq_true,if_false,lY,List.find?_nil,mK]
 |r::x,i,m+1,hd,hm=>by
  obtain ⟨g1,g2,g3⟩:=aO hd;have hq:(i:Int)<(rows.length:Int):=by omega
  have hc:=fa (hr r (List.mem_of_getElem? g1));have h8:=ht.aE;simp at hm;simp only[xG,GM,hq,decide_true,if_true,aL,g1,Option.bind_some,Mx hT ht r hc,wx m (r.take T.av.toNat) key (by simp;omega) (by simp;omega),bj g3 (by omega:rows.length<4294967296),lY,List.find?_cons]
  cases h:dx (r.take T.av.toNat) key==0 with
  |true=>simp[mK]
  |false=>
   simp only[Bool.false_eq_true,if_false];exact X9 n0 hT ht key rows hl hr x (i+1) m g2 (by omega)
 |_,_,0,_,hm=>by simp at hm
theorem X6 (n0:Nat) (hT:idx s.J (t:Int)=some T) (ht:cI T) (key:List I) (rows:List (List I)) (hl:rows.length≤512) (hr:∀r∈rows,bt (aZ T) r=true):∀(x:List (List I)) (i m:Nat),rows.drop i=x→x.length+1100<m→
  Ok (oH (yi n0) m (t:Int) key rows (rows.length:Int) (i:Int) s) fun q=>(q= -1∧lY T key x=none)∨∃(j:Nat) (r:List I),q=(j:Int)∧rows[j]? =some r∧lY T key x=some r
 | [],i,m+1,hd,hm=>by
  have hq':rows.length≤i:=by simpa using hd
  have hq:¬((i:Int)<(rows.length:Int)):=by omega
  simp only[oH,yj,yi,hq,decide_false,Bool.false_eq_true,if_false];exact Ok.pure (.inl ⟨rfl,rfl⟩)
 |r::x,i,m+1,hd,hm=>by
  obtain ⟨g1,g2,g3⟩:=aO hd;have hq:(i:Int)<(rows.length:Int):=by omega
  have hc:=fa (hr r (List.mem_of_getElem? g1));have h8:=ht.aE;simp at hm;simp only[oH,yj,hq,decide_true,if_true,aL,g1,Option.bind_some,nD (n:=m) hT ht r hc,kI m (r.take T.av.toNat) key (by simp;omega) (by simp;omega),bj g3 (by omega:rows.length<4294967296),lY,List.find?_cons]
  cases h:dx (r.take T.av.toNat) key==0 with
  |true=>simp only[if_true];exact Ok.pure (.inr ⟨i,r,rfl,g1,rfl⟩)
  |false=>
   simp only[Bool.false_eq_true,if_false];exact X6 n0 hT ht key rows hl hr x (i+1) m g2 (by omega)
 |_,_,0,_,hm=>by simp at hm
theorem wu (n:Nat) (r:List I) (h:r.length≤1000000):F62 n r=some r:=by
 unfold F62 SS;rw[cD _ _ (by simpa using h)];rfl
theorem Yr (n:Nat) (r:List I) (h:r.length≤1000000):F56 n r=some r:=by
 unfold F56 SY;rw[cD _ _ (by simpa using h)];rfl
theorem tH {key:List I} {rows:List (List I)} {r:List I} (h:lY T key rows=some r):r∈rows:=List.mem_of_find?_eq_some h
theorem aim (hT:s.J[t]? =some T) (ht:cI T) (st:an) (rows:List (List I)) (cZ:st.J[t]? =some rows) (hl:rows.length≤512) (hr:∀r∈rows,bt (aZ T) r=true) (key:List I) (hn:2000<n):F21 n s st (t:Int) key=some (mK (lY T key rows)):=by
 have h1:t<s.J.length:=(List.getElem?_eq_some_iff.1 hT).1;have h2:t<st.J.length:=(List.getElem?_eq_some_iff.1 cZ).1;have e1:¬(t:Int)<0:=by omega
 have e2:(t:Int)<(s.J.length:Int):=by omega
 have e3:(t:Int)<(st.J.length:Int):=by omega
 have hTi:idx s.J (t:Int)=some T:=by rw[aL];exact hT
 unfold F21 Tl F60 SW;have h:=X9 n hTi ht key rows hl hr rows 0 n rfl (by omega)
 rw[show ((0:Nat):Int)=0 from rfl] at h;simp only[e1,e2,e3,decide_false,decide_true,Bool.not_true,Bool.false_eq_true,if_false,aL,cZ,Option.bind_some,h];cases hg:lY T key rows with
 |none=>simp only[mK];rw[Yr _ _ (by simp)];rfl
 |some r=>
  have hc:=fa (hr r (tH hg));have h8:=ht.aE;simp only[mK];rw[Yr _ _ (by omega)];rfl
theorem aij (hT:s.J[t]? =some T) (ht:cI T) (st:an) (rows:List (List I)) (cZ:st.J[t]? =some rows) (hl:rows.length≤512) (hr:∀r∈rows,bt (aZ T) r=true) (key:List I) (hn:2000<n):F35 n s st (t:Int) key=some (mK (lY T key rows)):=by
 have h1:t<s.J.length:=(List.getElem?_eq_some_iff.1 hT).1;have h2:t<st.J.length:=(List.getElem?_eq_some_iff.1 cZ).1;have e1:¬(t:Int)<0:=by omega
 have e2:(t:Int)<(s.J.length:Int):=by omega
 have e3:(t:Int)<(st.J.length:Int):=by omega
 have hTi:idx s.J (t:Int)=some T:=by rw[aL];exact hT
 unfold F35 Hm F75 GF;obtain ⟨q,h,hq⟩:=X6 n hTi ht key rows hl hr rows 0 n rfl (by omega)
 rw[show ((0:Nat):Int)=0 from rfl] at h;simp only[e1,e2,e3,decide_false,decide_true,Bool.not_true,Bool.false_eq_true,if_false,aL,cZ,Option.bind_some,h];rcases hq with ⟨rfl,hg⟩|⟨j,r,rfl,hj,hg⟩
 ·simp[hg,mK]
 ·have hc:=fa (hr r (List.mem_of_getElem? hj));have h8:=ht.aE;have e4:¬(j:Int)<0:=by omega
  simp only[e4,decide_false,Bool.false_eq_true,if_false,aL,hj,Option.bind_some,jU (n:=n) r (by omega),hg,mK]
def fI:List I→List Int→List I→List I
 |r,c::cs,v::vs=>fI (r.set c.toNat v) cs vs
 |r,_,_=>r
theorem sR:∀(r:List I) (cs:List Int) (vs:List I),(fI r cs vs).length=r.length
 |r,[],vs=>by simp[fI]
 |r,c::cs,[]=>by simp[fI]
 |r,c::cs,v::vs=>by simp only[fI];rw[sR];simp
theorem X8 (n0:Nat) (w:ak) (hl:w.af.length<4294967296) (hc:w.aJ.length=w.af.length):∀(x:List Int) (i m:Nat) (b:List I),w.af.drop i=x→x.length<m→(∀c∈x,0≤c∧c.toNat<b.length)→
  xF (GJ n0) m w.af (w.af.length:Int) (i:Int) w b=some (fI b x (w.aJ.drop i))
 | [],i,m+1,b,hd,hm,_=>by
  have hq':w.af.length≤i:=by simpa using hd
  have hq:¬((i:Int)<(w.af.length:Int)):=by omega
  simp only[xF,GK,GJ,hq,decide_false,Bool.false_eq_true,if_false,fI]
 |c::x,i,m+1,b,hd,hm,hb=>by
  obtain ⟨g1,g2,g3⟩:=aO hd;have hq:(i:Int)<(w.af.length:Int):=by omega
  have hi:i<w.aJ.length:=by omega
  have hv:w.aJ[i]? =some w.aJ[i]:=List.getElem?_eq_getElem _;obtain ⟨c1,c2⟩:=hb c (by simp)
  have b1:bnd b.length c=some c.toNat:=by unfold bnd;rw[if_pos ⟨c1,c2⟩]
  have b2:b[0+c.toNat]? =some (b[c.toNat]):=by rw[Nat.zero_add];exact List.getElem?_eq_getElem _
  have b3:setAt b (0+c.toNat) w.aJ[i]=some (b.set c.toNat w.aJ[i]):=by rw[Nat.zero_add];unfold setAt;rw[if_pos c2]
  simp at hm;simp only[xF,GK,hq,decide_true,if_true,aL,g1,hv,Option.bind_some,b1,b2,b3,bj g3 hl];rw[X8 n0 w hl hc x (i+1) m _ g2 (by omega) (fun d hd=>by rw[List.length_set];exact hb d (List.mem_cons_of_mem _ hd)),List.drop_eq_getElem_cons hi]
  simp only[fI]
 |_,_,0,_,_,hm,_=>by simp at hm
theorem Yb (n0:Nat) (w:ak) (hl:w.af.length<4294967296) (hc:w.aJ.length=w.af.length):∀(x:List Int) (i m:Nat) (b:List I),w.af.drop i=x→x.length<m→(∀c∈x,0≤c∧c.toNat<b.length)→
  xI (GP n0) m w.af (w.af.length:Int) (i:Int) w b=some (fI b x (w.aJ.drop i))
 | [],i,m+1,b,hd,hm,_=>by
  have hq':w.af.length≤i:=by simpa using hd
  have hq:¬((i:Int)<(w.af.length:Int)):=by omega
  simp only[xI,GQ,GP,hq,decide_false,Bool.false_eq_true,if_false,fI]
 |c::x,i,m+1,b,hd,hm,hb=>by
  obtain ⟨g1,g2,g3⟩:=aO hd;have hq:(i:Int)<(w.af.length:Int):=by omega
  have hi:i<w.aJ.length:=by omega
  have hv:w.aJ[i]? =some w.aJ[i]:=List.getElem?_eq_getElem _;obtain ⟨c1,c2⟩:=hb c (by simp)
  have b1:bnd b.length c=some c.toNat:=by unfold bnd;rw[if_pos ⟨c1,c2⟩]
  have b2:b[0+c.toNat]? =some (b[c.toNat]):=by rw[Nat.zero_add];exact List.getElem?_eq_getElem _
  have b3:setAt b (0+c.toNat) w.aJ[i]=some (b.set c.toNat w.aJ[i]):=by rw[Nat.zero_add];unfold setAt;rw[if_pos c2]
  simp at hm;simp only[xI,GQ,hq,decide_true,if_true,aL,g1,hv,Option.bind_some,b1,b2,b3,bj g3 hl];rw[Yb n0 w hl hc x (i+1) m _ g2 (by omega) (fun d hd=>by rw[List.length_set];exact hb d (List.mem_cons_of_mem _ hd)),List.drop_eq_getElem_cons hi]
  simp only[fI]
 |_,_,0,_,_,hm,_=>by simp at hm
theorem KX (hs:SOK s) {w:ak} (hT:idx s.J w.ar=some T) (h:wOK T w=true) (h2:w.fOp=2):w.af.length≤100∧w.aJ.length=w.af.length∧∀c∈w.af,0≤c∧c.toNat<T.af.length:=by
 have ht:=hs.tab _ _ hT;have k1:=ht.jG;have hlen:=vI hs (w:=w) ⟨T,hT,by omega,h⟩
 simp only[wOK,hX,Bool.and_eq_true] at h;have h:=h.2;rw[if_neg (by omega),if_pos h2] at h
 cases hcl:dB (aZ T) (T.av-1) w.af with
 |none=>rw[hcl] at h;cases h
 |some l=>
  rw[hcl] at h;obtain ⟨a1,a2⟩:=l7 ht.ks (by omega) hcl
  have h3:=dD h;refine ⟨hlen,by omega,fun c hc=> ?_⟩
  obtain ⟨i,hi,rfl⟩:=List.mem_iff_getElem.1 hc;have:=a2 i _ (List.getElem?_eq_getElem hi);rw[cr] at this;exact ⟨this.1,this.2.1⟩
theorem ahW (hs:SOK s) {w:ak} (hT:idx s.J w.ar=some T) (h:wOK T w=true) (h2:w.fOp=2) (r:List I) (hr:bt (aZ T) r=true) (hn:1000<n):F65 n r w=some (fI r w.af w.aJ):=by
 obtain ⟨a1,a2,a3⟩:=KX hs hT h h2;have hc:=fa hr;have h8:=(hs.tab _ _ hT).aE;unfold F65 SR;rw[wu _ _ (by omega),Option.bind_some]
 exact X8 n w (by omega) a2 w.af 0 n r rfl (by omega) (fun c hc'=>by rw[hc];exact a3 c hc')
theorem ahY (hs:SOK s) {w:ak} (hT:idx s.J w.ar=some T) (h:wOK T w=true) (h2:w.fOp=2) (r:List I) (hr:bt (aZ T) r=true) (hn:1000<n):F55 n r w=some (fI r w.af w.aJ):=by
 obtain ⟨a1,a2,a3⟩:=KX hs hT h h2;have hc:=fa hr;have h8:=(hs.tab _ _ hT).aE;unfold F55 SZ;rw[jU _ (by omega),Option.bind_some]
 exact Yb n w (by omega) a2 w.af 0 n r rfl (by omega) (fun c hc'=>by rw[hc];exact a3 c hc')
end
section
abbrev Fw:az:=az.mk 0 0 0 []
def jQ (s:aa) (ts:List (List (List I))):List ak→List aD→List aD×az×Int
 | [],acc=>(acc,Fw,0)
 |w::ws,acc=>
  match idx s.J w.ar,idx ts w.ar with
  |some T,some rows=>
   match lY T w.av rows with
   |some r=>if w.fOp=1 then ([],az.mk 4 0 w.ar w.av,0) else if w.fOp=2 then (if dx r (fI r w.af w.aJ)=0 then jQ s ts ws acc else jQ s ts ws (acc++ [aD.mk w.ar r (fI r w.af w.aJ)])) else jQ s ts ws (acc++ [aD.mk w.ar r []])
   |none=>if w.fOp=1 then jQ s ts ws (acc++ [aD.mk w.ar [] w.aJ]) else ([],az.mk 5 0 w.ar w.av,0)
  |_,_=>([],Fw,0)
variable {s:aa} {n:Nat}
theorem DO (hs:SOK s) {st:an} (hf:Fit s st.J) {w:ak} (h:mL s w):∃(t:Nat) (T:ai) (rows:List (List I)),w.ar=(t:Int)∧s.J[t]? =some T∧cI T∧st.J[t]? =some rows∧rows.length≤512∧(∀r∈rows,bt (aZ T) r=true)∧wOK T w=true∧idx s.J w.ar=some T:=by
 obtain ⟨T,hT,_,h2⟩:=h;obtain ⟨i1,i2,i3⟩:=pG hT;have hlt:w.ar.toNat<st.J.length:=by rw[hf.1];exact i2
 obtain ⟨f1,f2⟩:=hf.2 w.ar.toNat T st.J[w.ar.toNat] i3 (List.getElem?_eq_getElem hlt);exact ⟨w.ar.toNat,T,_,by omega,i3,hs.tab _ _ hT,List.getElem?_eq_getElem hlt,f1,f2,h2,hT⟩
theorem zt {T:ai} {w:ak} (h:wOK T w=true) (h1:w.fOp=1):w.aJ.length=T.af.length:=by
 simp only[wOK,hX,Bool.and_eq_true] at h;have h:=h.2;rw[if_pos h1] at h;simp only[Bool.and_eq_true] at h;exact fa (by simp_all)
theorem Yj (n0:Nat) (hs:SOK s) (st:an) (hf:Fit s st.J) (ws:List ak) (hl:ws.length≤64) (hg:∀w∈ws,mL s w):∀(x:List ak) (i m:Nat) (z:az) (acc:List aD),ws.drop i=x→x.length+3000<m→acc.length+x.length≤64→
  xY (HA n0) m ws (ws.length:Int) (i:Int) s st z acc=some (jQ s st.J x acc)
 | [],i,m+1,z,acc,hd,hm,ha=>by
  have hq':ws.length≤i:=by simpa using hd
  have hq:¬((i:Int)<(ws.length:Int)):=by omega
  simp only[xY,HB,HA,hq,decide_false,Bool.false_eq_true,if_false,jQ]
 |w::x,i,m+1,z,acc,hd,hm,ha=>by
  obtain ⟨g1,g2,g3⟩:=aO hd;have hq:(i:Int)<(ws.length:Int):=by omega
  have hw:=hg w (List.mem_of_getElem? g1);have hk:=pP hs hw;obtain ⟨t,T,rows,ht,hT,hT',cZ,hrl,hrr,hok,hTi⟩:=DO hs hf hw;have h8:=hT'.aE;have k1:=hT'.jG;have k2:=hT'.bS;simp at hm ha;have ih:=fun z acc h=>Yj n0 hs st hf ws hl hg x (i+1) m z acc g2 (by omega) h
  have hri:idx st.J w.ar=some rows:=by rw[ht,aL];exact cZ
  have f21:=aim hT hT' st rows cZ hrl hrr w.av (by omega:2000<m)
  rw[←ht] at f21;simp only[xY,HB,hq,decide_true,if_true,aL,g1,Option.bind_some,F50,S2,f21,jQ,hTi,hri];cases hgk:lY T w.av rows with
  |none=>
   simp only[mK];by_cases h1:w.fOp=1
   ·have hcl:=zt hok h1;simp only[h1,beq_self_eq_true,if_true,Bool.false_eq_true,if_false,wu m w.aJ (by omega),Option.bind_some,lT,oL,List.length_nil,Int.ofNat_zero,show ¬((0:Int)<0) by omega,decide_false,uD,oM,cD acc [aD.mk w.ar [] w.aJ] (by simp;omega),bj g3 (by omega:ws.length<4294967296)]
    exact ih _ _ (by simp;omega)
   ·have h1':(w.fOp==1)=false:=by simpa using h1
    simp only[h1',h1,Bool.not_false,if_true,Bool.false_eq_true,if_false,F93,Gd,wu m w.av (by omega),Option.bind_some,lT,oL,F51,GX]
  |some r=>
   have hrk:=hrr r (tH hgk);have hc:=fa hrk;have mI:0<(r.length:Int):=by omega
   simp only[mK];by_cases h1:w.fOp=1
   ·simp only[h1,beq_self_eq_true,if_true,F93,Gd,wu m w.av (by omega),Option.bind_some,lT,oL,F51,GX]
   ·have h1':(w.fOp==1)=false:=by simpa using h1
    simp only[h1',h1,Bool.not_true,Bool.false_eq_true,if_false,wu m r (by omega),Option.bind_some]
    by_cases h2:w.fOp=2
    ·have hu:=sR r w.af w.aJ;have aiV:0<((fI r w.af w.aJ).length:Int):=by omega
     simp only[h2,beq_self_eq_true,if_true,ahW hs hTi hok h2 r hrk (by omega:1000<m),Option.bind_some,lT,oL,mI,aiV,decide_true,wx m r (fI r w.af w.aJ) (by omega) (by omega)]
     by_cases h3:dx r (fI r w.af w.aJ)=0
     ·simp only[h3,beq_self_eq_true,if_true,oM,bj g3 (by omega:ws.length<4294967296)]
      exact ih _ _ (by omega)
     ·have h3':(dx r (fI r w.af w.aJ)==0)=false:=by simpa using h3
      simp only[h3',h3,Bool.false_eq_true,if_false,uD,oM,cD acc [aD.mk w.ar r (fI r w.af w.aJ)] (by simp;omega),Option.bind_some,bj g3 (by omega:ws.length<4294967296)]
      exact ih _ _ (by simp;omega)
    ·have h2':(w.fOp==2)=false:=by simpa using h2
     simp only[h2',h2,Bool.false_eq_true,if_false,lT,oL,mI,decide_true,if_true,List.length_nil,Int.ofNat_zero,show ¬((0:Int)<0) by omega,decide_false,uD,oM,cD acc [aD.mk w.ar r []] (by simp;omega),Option.bind_some,bj g3 (by omega:ws.length<4294967296)]
     exact ih _ _ (by simp;omega)
 |_,_,0,_,_,_,hm,_=>by simp at hm
theorem Yi (n0:Nat) (hs:SOK s) (st:an) (hf:Fit s st.J) (ws:List ak) (hl:ws.length≤64) (hg:∀w∈ws,mL s w):∀(x:List ak) (i m:Nat) (z:az) (acc:List aD),ws.drop i=x→x.length+3000<m→acc.length+x.length≤64→
  xX (Hy n0) m ws (ws.length:Int) (i:Int) s st z acc=some (jQ s st.J x acc)
 | [],i,m+1,z,acc,hd,hm,ha=>by
  have hq':ws.length≤i:=by simpa using hd
  have hq:¬((i:Int)<(ws.length:Int)):=by omega
  simp only[xX,Hz,Hy,hq,decide_false,Bool.false_eq_true,if_false,jQ]
 |w::x,i,m+1,z,acc,hd,hm,ha=>by
  obtain ⟨g1,g2,g3⟩:=aO hd;have hq:(i:Int)<(ws.length:Int):=by omega
  have hw:=hg w (List.mem_of_getElem? g1);have hk:=pP hs hw;obtain ⟨t,T,rows,ht,hT,hT',cZ,hrl,hrr,hok,hTi⟩:=DO hs hf hw;have hop:¬(w.fOp<1∨3<w.fOp):=by obtain ⟨_,_,h,_⟩:=hw;exact h
  have h8:=hT'.aE;have k1:=hT'.jG;have k2:=hT'.bS;simp at hm ha;have ih:=fun z acc h=>Yi n0 hs st hf ws hl hg x (i+1) m z acc g2 (by omega) h
  have hri:idx st.J w.ar=some rows:=by rw[ht,aL];exact cZ
  have f35:=aij hT hT' st rows cZ hrl hrr w.av (by omega:2000<m)
  rw[←ht] at f35;simp only[xX,Hz,hq,decide_true,if_true,aL,g1,Option.bind_some,f35,jQ,hTi,hri];cases hgk:lY T w.av rows with
  |none=>
   simp only[mK];by_cases h1:w.fOp=1
   ·have hcl:=zt hok h1;simp only[h1,beq_self_eq_true,bne_self_eq_false,if_true,Bool.false_eq_true,if_false,jU (n:=m) w.aJ (by omega),Option.bind_some,rj,cD acc [aD.mk w.ar [] w.aJ] (by simp;omega),bj g3 (by omega:ws.length<4294967296)]
    exact ih _ _ (by simp;omega)
   ·have h1':(w.fOp==1)=false:=by simpa using h1
    have Z3:(w.fOp !=1)=true:=by simpa using h1
    simp only[h1',Z3,h1,Bool.not_false,if_true,Bool.false_eq_true,if_false,jU (n:=m) w.av (by omega),Option.bind_some]
  |some r=>
   have hrk:=hrr r (tH hgk);have hc:=fa hrk;simp only[mK];by_cases h1:w.fOp=1
   ·simp only[h1,beq_self_eq_true,if_true,jU (n:=m) w.av (by omega),Option.bind_some]
   ·have h1':(w.fOp==1)=false:=by simpa using h1
    have Z3:(w.fOp !=1)=true:=by simpa using h1
    simp only[h1',Z3,h1,Bool.not_true,Bool.false_eq_true,if_false,if_true];by_cases h2:w.fOp=2
    ·have hu:=sR r w.af w.aJ;have h3:(w.fOp==3)=false:=by simp[h2]
     simp only[h3,Cb,Bool.false_eq_true,if_false,ahY hs hTi hok h2 r hrk (by omega:1000<m),Option.bind_some,kI m (fI r w.af w.aJ) r (by omega) (by omega),h2,if_true]
     have hn:=ta r (fI r w.af w.aJ);by_cases h3:dx r (fI r w.af w.aJ)=0
     ·have h4:(dx (fI r w.af w.aJ) r !=0)=false:=by rw[hn,h3];rfl
      simp only[h3,h4,Bool.false_eq_true,if_false,if_true,rj,bj g3 (by omega:ws.length<4294967296)]
      exact ih _ _ (by omega)
     ·have h4:(dx (fI r w.af w.aJ) r !=0)=true:=by simp;omega
      simp only[h3,h4,if_false,if_true,jU (n:=m) r (by omega),rj,cD acc [aD.mk w.ar r (fI r w.af w.aJ)] (by simp;omega),Option.bind_some,bj g3 (by omega:ws.length<4294967296)]
      exact ih _ _ (by simp;omega)
    ·have h3:w.fOp=3:=by omega
     simp only[h3,beq_self_eq_true,if_true,show ¬((3:Int)=2) by omega,if_false,Cb,jU (n:=m) r (by omega),rj,cD acc [aD.mk w.ar r []] (by simp;omega),Option.bind_some,bj g3 (by omega:ws.length<4294967296)]
     exact ih _ _ (by simp;omega)
 |_,_,0,_,_,_,hm,_=>by simp at hm
def v8 (s:aa) (e:Int) (st:an) (ws:List ak):List aD×az×Int:=
 if nF s e ws=0 then (if kK s e st.J=0 then jQ s st.J ws [] else ([],Fw,kK s e st.J)) else ([],Fw,nF s e ws)
theorem uT {s:aa} {e:Int} {ws:List ak} (h:nF s e ws=0):e=0∧ws.length≤64∧∀w∈ws,mL s w:=by
 unfold nF at h;split at h
 ·rename_i h0;split at h
  ·cases h
  ·exact ⟨h0,by omega,uN h⟩
 ·exact absurd h (by assumption)
theorem aio (n:Nat) (s:aa) (e:Int) (he:F38 n s=some e) (hs:e=0→SOK s) (ws:List ak) (hb:∀w∈ws,wB w) (st:an) (hl:st.J.length+total st.J≤2000000) (hn:2000100≤n):F16 n s st ws=some (v8 s e st ws):=by
 unfold F16 Tp v8;rw[air n s e he hs ws hb hn,Option.bind_some];by_cases h1:nF s e ws=0
 ·obtain ⟨h0,KO,hg⟩:=uT h1;simp only[h1,bne_self_eq_false,Bool.false_eq_true,if_false,if_true,ail n s e he hs st hl hn,Option.bind_some];by_cases h2:kK s e st.J=0
  ·simp only[h2,bne_self_eq_false,Bool.false_eq_true,if_false,if_true];subst h0;exact Yj n (hs rfl) st (uW h2) ws KO hg ws 0 n _ [] rfl (by omega) (by simpa using KO)
  ·have h2':(kK s e st.J !=0)=true:=by simpa using h2
   simp only[h2',h2,if_true,if_false]
 ·have h1':(nF s e ws !=0)=true:=by simpa using h1
  simp only[h1',h1,if_true,if_false]
theorem ain (n:Nat) (s:aa) (e:Int) (he:F44 n s=some e) (hs:e=0→SOK s) (ws:List ak) (hb:∀w∈ws,wB w) (st:an) (hl:st.J.length+total st.J≤2000000) (hn:2000100≤n):F17 n s st ws=some (v8 s e st ws):=by
 unfold F17 To v8;rw[aip n s e he hs ws hb hn,Option.bind_some];by_cases h1:nF s e ws=0
 ·obtain ⟨h0,KO,hg⟩:=uT h1;simp only[h1,bne_self_eq_false,Bool.false_eq_true,if_false,if_true,ahZ n s e he hs st hl hn,Option.bind_some];by_cases h2:kK s e st.J=0
  ·simp only[h2,bne_self_eq_false,Bool.false_eq_true,if_false,if_true];subst h0;exact Yi n (hs rfl) st (uW h2) ws KO hg ws 0 n _ [] rfl (by omega) (by simpa using KO)
  ·have h2':(kK s e st.J !=0)=true:=by simpa using h2
   simp only[h2',h2,if_true,if_false]
 ·have h1':(nF s e ws !=0)=true:=by simpa using h1
  simp only[h1',h1,if_true,if_false]
def Small (c:aD):Prop:=c.nP.length≤100∧c.pW.length≤100
theorem BC (hs:SOK s) (st:an) (hf:Fit s st.J):∀(ws:List ak) (acc:List aD),(∀w∈ws,mL s w)→acc.length+ws.length≤64→(∀c∈acc,Small c)→(jQ s st.J ws acc).1.length≤64∧(∀c∈(jQ s st.J ws acc).1,Small c)∧(jQ s st.J ws acc).2.1.av.length≤100
 | [],acc,_,hl,h=>⟨by simpa[jQ] using hl,h,by simp[jQ]⟩
 |w::ws,acc,hg,hl,h=>by
  have hw:=hg w (by simp)
  have hk:=pP hs hw;obtain ⟨t,T,rows,ht,hT,hT',cZ,hrl,hrr,hok,hTi⟩:=DO hs hf hw;have h8:=hT'.aE;have hri:idx st.J w.ar=some rows:=by rw[ht,aL];exact cZ
  simp at hl;have ih:=fun acc' h1 h2=>BC hs st hf ws acc' (fun v hv=>hg v (by simp[hv])) h1 h2
  have add:∀c:aD,Small c→∀x∈acc++ [c],Small x:=fun c hc x hx=>by
   rcases List.mem_append.1 hx with hx|hx
   ·exact h x hx
   ·rw[List.mem_singleton.1 hx];exact hc
  simp only[jQ,hTi,hri];cases hgk:lY T w.av rows with
  |none=>
   simp only;split
   ·rename_i h1;have:=zt hok h1;exact ih _ (by simp;omega) (add _ ⟨by simp,by simp only;omega⟩)
   ·exact ⟨by simp,by simp,by simp only;omega⟩
  |some r=>
   have hc:=fa (hrr r (tH hgk));have hu:=sR r w.af w.aJ;simp only;split
   ·exact ⟨by simp,by simp,by simp only;omega⟩
   ·split
    ·split
     ·exact ih _ (by omega) h
     ·exact ih _ (by simp;omega) (add _ ⟨by simp only;omega,by simp only;omega⟩)
    ·exact ih _ (by simp;omega) (add _ ⟨by simp only;omega,by simp⟩)
theorem RT (hs:SOK s) (st:an) (ws:List ak):(v8 s 0 st ws).1.length≤64∧(∀c∈(v8 s 0 st ws).1,Small c)∧(v8 s 0 st ws).2.1.av.length≤100:=by
 unfold v8;split
 ·rename_i h1;obtain ⟨_,h2,h3⟩:=uT h1;split
  ·rename_i h4;exact BC hs st (uW h4) ws [] h3 (by simpa using h2) (by simp)
  ·exact ⟨by simp,by simp,by simp⟩
 ·exact ⟨by simp,by simp,by simp⟩
theorem aaM (n:Nat) (a:az) (h:a.av.length≤100) (hn:1000<n):F18 n a a=some true:=by
 unfold F18 Tn;simp only[beq_self_eq_true,if_true,kI n a.av a.av (by omega) (by omega),Option.bind_some,vk]
theorem Mp (n0:Nat) (a:List aD) (hl:a.length≤64) (hs:∀c∈a,Small c):∀(x:List aD) (i m:Nat),a.drop i=x→x.length+1000<m→xW (Hw n0) m a a (a.length:Int) (i:Int)=some true
 | [],i,m+1,hd,hm=>by
  have hq':a.length≤i:=by simpa using hd
  have hq:¬((i:Int)<(a.length:Int)):=by omega
  simp only[xW,Hx,Hw,hq,decide_false,Bool.false_eq_true,if_false]
 |c::x,i,m+1,hd,hm=>by
  obtain ⟨g1,g2,g3⟩:=aO hd;have hq:(i:Int)<(a.length:Int):=by omega
  obtain ⟨h1,h2⟩:=hs c (List.mem_of_getElem? g1);simp at hm;simp only[xW,Hx,hq,decide_true,if_true,aL,g1,Option.bind_some,bne_self_eq_false,Bool.false_eq_true,if_false,kI m c.nP c.nP (by omega) (by omega),kI m c.pW c.pW (by omega) (by omega),vk,bj g3 (by omega:a.length<4294967296)]
  exact Mp n0 a hl hs x (i+1) m g2 (by omega)
 |_,_,0,_,hm=>by simp at hm
theorem aaL (n:Nat) (a:List aD) (hl:a.length≤64) (hs:∀c∈a,Small c) (hn:2000<n):F19 n a a=some true:=by
 unfold F19 Tm;simp only[bne_self_eq_false,Bool.false_eq_true,if_false];exact Mp n a hl hs a 0 n rfl (by omega)
theorem changes (aR:List Int) (hb:∀x∈aR,0≤x∧x≤255) (raw:List ak) (hraw:∀w∈raw,wB w) (rs:an) (hrs:rs.J.length+total rs.J≤2000000):F4 3000000 aR raw rs=some true:=by
 unfold F4 aaS;obtain ⟨c,hc,c1⟩:=amD 3000000 aR 300 hb (by omega) (by omega)
 rw[hc,Option.bind_some];obtain ⟨s,hs,s1,s2⟩:=amC 3000000 (by omega) (by omega) c c1
 have hok:=s2.ok;rw[hs,Option.bind_some];obtain ⟨st,hst,st1,st2⟩:=ais 3000000 (by omega) s.1 hok s.2 s1
 rw[hst,Option.bind_some];have ZV:st.1.J.length+total st.1.J≤2000000:=by
  have h1:∀(x:List (List (List I))),(∀rows∈x,rows.length≤8)→total x≤8*x.length:=by
   intro x;induction x with
   |nil=>intro _;simp[total]
   |cons y x ih=>intro h;have:=ih (fun r hr=>h r (by simp[hr]));have:=h y (by simp);simp only[total,List.length_cons];omega
  have h2:=h1 st.1.J (fun rows hr=>by
   obtain ⟨i,hi,rfl⟩:=List.mem_iff_getElem.1 hr;have hi':i<s.1.J.length:=by rw[←st2.len];exact hi
   exact (st2.row i _ _ (List.getElem?_eq_getElem hi') (List.getElem?_eq_getElem hi)).1)
  have h3:=st2.len;have h4:=hok.len;omega
 have round:∀(n:Nat) (i:Nat) (c':aj) (x:an) (l:List ak),2000100≤n→n<4294967296→i<4→(∀w∈l,wB w)→x.J.length+total x.J≤2000000→
   zK (rS (wD 3000000) n) n raw (i:Int) l rs c' s.1 st.1 x=rS (wD 3000000) n raw ((i+1:Nat):Int) rs c' s.1 st.1:=by
  intro n i c' x l h1 h2 h3 h4 h5;have e:=s2.chk;have he1:=aif n s.1 s2.sz (by omega) h2
  have he2:=aib n s.1 s2.sz (by omega) h2
  rw[e] at he1 he2;obtain ⟨q1,q2,q3⟩:=RT hok x l;have hw:w64 ((i:Int)+1)=((i+1:Nat):Int):=by rw[bZ (by omega) (by omega)];rfl
  unfold zK;rw[aio n s.1 0 he1 (fun _=>hok) l h4 x h5 h1,Option.bind_some,ain n s.1 0 he2 (fun _=>hok) l h4 x h5 h1,Option.bind_some]
  simp only[bne_self_eq_false,Bool.false_eq_true,if_false,aaM n _ q3 (by omega),aaL n _ q1 q2 (by omega),Option.bind_some,Bool.not_true,hw]
 have writes:∀(n:Nat) (c':aj),5000≤n→ba c'→Ok (F10 n c' s.1 st.1 4) fun r=>ba r.2∧r.1.length≤100∧∀w∈r.1,Few w 100:=fun n c' hn hc'=>by
  have h:=ait n hn s.1 hok s2.pos c' hc' st.1 st2 4 (by omega)
  rw[show ((4:Nat):Int)=4 from rfl] at h;exact h.mono fun r ⟨r1,r2,r3⟩=>⟨r1,by omega,fun w hw=>Z5 hok (uN r2 w hw)⟩
 have few:∀{l:List ak} {N:Nat},N≤1000→(∀w∈l,Few w N)→∀w∈l,wB w:=fun hN h w hw=>(h w hw).wB hN
 have fin:∀(n:Nat) (c':aj),rS (wD 3000000) (n+1) raw ((3+1:Nat):Int) rs c' s.1 st.1=some true:=by
  intro n c';have hq:¬(((3+1:Nat):Int)<4):=by omega
  simp only[rS,S3,hq,decide_false,Bool.false_eq_true,if_false,wD,F15,Option.bind_some]
 have step:∀(n i:Nat) (c':aj),2000100≤n→n<4294967296→i<4→ba c'→∃c2,ba c2∧rS (wD 3000000) (n+1) raw (i:Int) rs c' s.1 st.1=rS (wD 3000000) n raw ((i+1:Nat):Int) rs c2 s.1 st.1:=by
  intro n i c' h1 h2 h3 hc';obtain ⟨l,hl,l1,l2,l3⟩:=writes n c' (by omega) hc'
  have hq:(i:Int)<4:=by omega
  have g:∀(c':aj) (x:an) (l:List ak),(∀w∈l,wB w)→x.J.length+total x.J≤2000000→_:=fun c' x l=>round n i c' x l h1 h2 h3
  simp only[rS,S3,hq,decide_true,if_true,hl,Option.bind_some];by_cases e1:i=1
  ·obtain ⟨sp,hsp,sp1,sp2⟩:=aiq n (by omega) l.2 l1 l.1 l2 l3
   have e1':((i:Int)==1)=true:=by simp[e1]
   simp only[e1',if_true,hsp,Option.bind_some];exact ⟨_,sp1,g sp.2 st.1 sp.1 (few (by omega) sp2) ZV⟩
  ·have e1':((i:Int)==1)=false:=by simp;omega
   simp only[e1',Bool.false_eq_true,if_false];by_cases e2:i=2
   ·have e2':((i:Int)==2)=true:=by simp[e2]
    simp only[e2',if_true];exact ⟨_,l1,g l.2 st.1 raw hraw ZV⟩
   ·have e2':((i:Int)==2)=false:=by simp;omega
    simp only[e2',Bool.false_eq_true,if_false];by_cases e3:i=3
    ·have e3':((i:Int)==3)=true:=by simp[e3]
     simp only[e3',if_true];exact ⟨_,l1,g l.2 rs l.1 (few (by omega) l3) hrs⟩
    ·have e3':((i:Int)==3)=false:=by simp;omega
     simp only[e3',Bool.false_eq_true,if_false];exact ⟨_,l1,g l.2 st.1 l.1 (few (by omega) l3) ZV⟩
 obtain ⟨c2,d2,e2⟩:=step 2999999 0 st.2 (by omega) (by omega) (by omega) st1
 obtain ⟨c3,d3,e3⟩:=step 2999998 1 c2 (by omega) (by omega) (by omega) d2
 obtain ⟨c4,d4,e4⟩:=step 2999997 2 c3 (by omega) (by omega) (by omega) d3
 obtain ⟨c5,d5,e5⟩:=step 2999996 3 c4 (by omega) (by omega) (by omega) d4
 exact ((e2.trans e3).trans (e4.trans e5)).trans (fin 2999995 c5)
end
theorem ZN {k:IntKind} {n:Int} (h:Bg (.int k n)):k.min≤n∧n≤k.max:=by
 simpa[Bg,Lit.wf] using h
theorem vO:∀{rows:List (List AV)},pU rows→∀r∈rows,j6 r
 | [],_,_,h=>by simp at h
 |r::rs,h,x,hx=>by
  rcases List.mem_cons.1 hx with rfl|hx
  ·exact h.1
  ·exact vO h.2 x hx
theorem RW {aR:List Int} (h:Bg (.slice 5 1 (mU aR))):∀x∈aR,0≤x∧x≤255:=by
 intro x hx;have h1:=vO (show pU (mU aR) from h) (Lr x) (List.mem_map.2 ⟨x,hx,rfl⟩);have h2:=ZN (show Bg (.int .u8 x) from h1.1);simpa[IntKind.min,IntKind.max,IntKind.signed,IntKind.bits] using h2
theorem ub {α:Type} {en:α→List AV} (he:∀x,1≤cU (en x)):∀xs:List α,xs.length≤gg (xs.map en)
 | []=>by simp
 |x::xs=>by
  have:=ub he xs;have:=he x;simp only[List.map_cons,gg,List.length_cons];omega
theorem LF {α:Type} {en:α→List AV} {x:α}:∀{xs:List α},x∈xs→cU (en x)≤gg (xs.map en)
 |y::xs,h=>by
  simp only[List.map_cons,gg];rcases List.mem_cons.1 h with rfl|h
  ·omega
  ·have:=LF (en:=en) h;omega
 | [],h=>by cases h
theorem YW {raw:List ak} (h:cU [.slice 55 5 (cn raw)]≤1048576):∀w∈raw,wB w:=by
 intro w hw;have h1:=LF (en:=fq) hw;rw[←sY] at h1;simp only[cU,ka] at h;simp only[fq,cU,ka] at h1;have h2:=ub (en:=D4) (fun x=>by simp[D4,cU,ka]) w.af
 have h3:=ub (en:=fF) (fun x=>by simp[fF,cU,ka]) w.av
 rw[←ve] at h2;rw[←sX] at h3;exact ⟨by omega,by omega⟩
theorem zT:∀(ts:List (List (List I))),ts.length+total ts≤gg (dK ts)
 | []=>by simp[total]
 |rs::ts=>by
  have h1:=zT ts;have h2:=ub (en:=Bo) (fun x=>by simp[Bo,cU,ka]) rs
  rw[←sZ] at h2;rw[sW] at h1 ⊢;simp only[List.map_cons,gg,FV,cU,ka,total,List.length_cons] at h1 ⊢;omega
theorem PQ {s:an} (h:cU (cN s)≤1048576):s.J.length+total s.J≤2000000:=by
 have:=zT s.J;simp only[cN,cU,ka] at h;omega
theorem vn (y0:List Int) (y1:List ak) (y2:an) (h0:j6 [.slice 5 1 (mU y0)]) (h1:j6 [.slice 55 5 (cn y1)]) (h2:j6 (cN y2)) (hb:cU [.slice 5 1 (mU y0)]+cU [.slice 55 5 (cn y1)]+cU (cN y2)≤1048576):∃n,F4 n y0 y1 y2=some true:=
 ⟨3000000,changes y0 (RW h0.1) y1 (YW (by omega)) y2 (PQ (by omega))⟩
end Go.Proofs.YtmealahmjddpcaaGreatDoor
end
