/- Texts that belong together. The first: Plain laws: the changes of writes, in the program and in the reference, are the same. Condition: valid tables, bounded lists, enough steps. -/
import Derived.Test.YtmealahmjddpcaaGreatDoorP11
import Derived.Test.YtmealahmjddpcaaGreatDoorP10
set_option linter.all false
noncomputable section
namespace Go.Proofs.YtmealahmjddpcaaGreatDoor
open Go.Sim
section
abbrev ug:aQ:=aQ.mk 0 0 0 []
def iM (s:af) (ts:aF):Wq3->Wq5->Wq5×aQ×Int
 | [],acc=>(acc,ug,0)
 |w::ws,acc=>
  match idx s.ag w.aq,idx ts w.aq with
  |some T,some rows=>
   match cE T w.au rows with
   |some r=>if w.fOp=1 then ([],aQ.mk 4 0 w.aq w.au,0) else if w.fOp=2 then (if bL r (cH r w.ak w.aR)=0 then iM s ts ws acc else iM s ts ws (acc++ [aB.mk w.aq r (cH r w.ak w.aR)])) else iM s ts ws (acc++ [aB.mk w.aq r []])
   |none=>if w.fOp=1 then iM s ts ws (acc++ [aB.mk w.aq [] w.aR]) else ([],aQ.mk 5 0 w.aq w.au,0)
  |_,_=>([],ug,0)
variable {s:af} {n:Nat}
theorem afa (hs:SOK s) {st:ah} (hf:Fit s st.ag) {w:az} (h:la s w):∃(t:Nat) (T:ay) (rows:Wq9),w.aq=(t:Int)/\s.ag[t]? =some T/\bZ T/\st.ag[t]? =some rows/\rows.length<=512/\(∀r∈rows,bg (aW T) r=true)/\wOK T w=true/\idx s.ag w.aq=some T:=by
 obtain ⟨T,hT,_,h2⟩:=h;obtain ⟨i1,i2,i3⟩:=mK hT;have hlt:w.aq.toNat<st.ag.length:=by rw[hf.1];exact i2
 obtain ⟨f1,f2⟩:=hf.2 w.aq.toNat T st.ag[w.aq.toNat] i3 (List.getElem?_eq_getElem hlt);exact ⟨w.aq.toNat,T,_,by omega,i3,hs.tab _ _ hT,List.getElem?_eq_getElem hlt,f1,f2,h2,hT⟩
theorem ZT {T:ay} {w:az} (h:wOK T w=true) (h1:w.fOp=1):w.aR.length=T.ak.length:=by
 simp only[wOK,gM,Bool.and_eq_true] at h;have h:=h.2;rw[if_pos h1] at h;simp only[Bool.and_eq_true] at h;exact dD (by simp_all)
theorem Yd (n0:Nat) (hs:SOK s) (st:ah) (hf:Fit s st.ag) (ws:Wq3) (hl:ws.length<=64) (hg:∀w∈ws,la s w):∀(x:Wq3) (i m:Nat) (z:aQ) (acc:Wq5),ws.drop i=x->x.length+3000<m->acc.length+x.length<=64->
  yx (HU n0) m ws (ws.length:Int) (i:Int) s st z acc=some (iM s st.ag x acc)
 | [],i,m+1,z,acc,hd,hm,ha=>by
  have hq':ws.length<=i:=by simpa using hd
  have hq:¬((i:Int)<(ws.length:Int)):=by omega
  simp only[yx,HV,HU,hq,decide_false,Bool.false_eq_true,if_false,iM]
 |w::x,i,m+1,z,acc,hd,hm,ha=>by
  obtain ⟨g1,g2,g3⟩:=aX hd;have hq:(i:Int)<(ws.length:Int):=by omega
  have hw:=hg w (List.mem_of_getElem? g1);have hk:=zU hs hw;obtain ⟨t,T,rows,ht,hT,hT',du,hrl,hrr,hok,hTi⟩:=afa hs hf hw;have h8:=hT'.aG;have k1:=hT'.gx;have k2:=hT'.cr;simp at hm ha;have ih:=fun z acc h=>Yd n0 hs st hf ws hl hg x (i+1) m z acc g2 (by omega) h
  have hri:idx st.ag w.aq=some rows:=by rw[ht,aM];exact du
  have f21:=aii hT hT' st rows du hrl hrr w.au (by omega:2000<m)
  rw[<-ht] at f21;simp only[yx,HV,hq,decide_true,if_true,aM,g1,Option.bind_some,F50,Ta,f21,iM,hTi,hri];cases hgk:cE T w.au rows with
  |none=>
   simp only[wo];by_cases h1:w.fOp=1
   ·have hcl:=ZT hok h1;simp only[h1,beq_self_eq_true,if_true,Bool.false_eq_true,if_false,oK m w.aR (by omega),Option.bind_some,mL,pS,List.length_nil,Int.ofNat_zero,show ¬((0:Int)<0) by omega,decide_false,vj,pT,cV acc [aB.mk w.aq [] w.aR] (by simp;omega),bz g3 (by omega:ws.length<4294967296)]
    exact ih _ _ (by simp;omega)
   ·have h1':(w.fOp==1)=false:=by simpa using h1
    simp only[h1',h1,Bool.not_false,if_true,Bool.false_eq_true,if_false,F93,GW,oK m w.au (by omega),Option.bind_some,mL,pS,F51,Hq]
  |some r=>
   have hrk:=hrr r (jm hgk);have hc:=dD hrk;have sJ:0<(r.length:Int):=by omega
   simp only[wo];by_cases h1:w.fOp=1
   ·simp only[h1,beq_self_eq_true,if_true,F93,GW,oK m w.au (by omega),Option.bind_some,mL,pS,F51,Hq]
   ·have h1':(w.fOp==1)=false:=by simpa using h1
    simp only[h1',h1,Bool.not_true,Bool.false_eq_true,if_false,oK m r (by omega),Option.bind_some]
    by_cases h2:w.fOp=2
    ·have hu:=Ic r w.ak w.aR;have aiM:0<((cH r w.ak w.aR).length:Int):=by omega
     simp only[h2,beq_self_eq_true,if_true,ahS hs hTi hok h2 r hrk (by omega:1000<m),Option.bind_some,mL,pS,sJ,aiM,decide_true,lC m r (cH r w.ak w.aR) (by omega) (by omega)]
     by_cases h3:bL r (cH r w.ak w.aR)=0
     ·simp only[h3,beq_self_eq_true,if_true,pT,bz g3 (by omega:ws.length<4294967296)]
      exact ih _ _ (by omega)
     ·have h3':(bL r (cH r w.ak w.aR)==0)=false:=by simpa using h3
      simp only[h3',h3,Bool.false_eq_true,if_false,vj,pT,cV acc [aB.mk w.aq r (cH r w.ak w.aR)] (by simp;omega),Option.bind_some,bz g3 (by omega:ws.length<4294967296)]
      exact ih _ _ (by simp;omega)
    ·have h2':(w.fOp==2)=false:=by simpa using h2
     simp only[h2',h2,Bool.false_eq_true,if_false,mL,pS,sJ,decide_true,if_true,List.length_nil,Int.ofNat_zero,show ¬((0:Int)<0) by omega,decide_false,vj,pT,cV acc [aB.mk w.aq r []] (by simp;omega),Option.bind_some,bz g3 (by omega:ws.length<4294967296)]
     exact ih _ _ (by simp;omega)
 |_,_,0,_,_,_,hm,_=>by simp at hm
def aau (s:af) (e:Int) (st:ah) (ws:Wq3):Wq5×aQ×Int:=
 if mB s e ws=0 then (if nP s e st.ag=0 then iM s st.ag ws [] else ([],ug,nP s e st.ag)) else ([],ug,mB s e ws)
theorem EY {s:af} {e:Int} {ws:Wq3} (h:mB s e ws=0):e=0/\ws.length<=64/\∀w∈ws,la s w:=by
 unfold mB at h;split at h
 ·rename_i h0;split at h
  ·cases h
  ·exact ⟨h0,by omega,vt h⟩
 ·exact absurd h (by assumption)
theorem aik (n:Nat) (s:af) (e:Int) (he:F38 n s=some e) (hs:e=0->SOK s) (ws:Wq3) (hb:∀w∈ws,wB w) (st:ah) (hl:st.ag.length+total st.ag<=2000000) (hn:2000100<=n):F16 n s st ws=some (aau s e st ws):=by
 unfold F16 Tx aau;rw[Ym n s e he hs ws hb hn,Option.bind_some];by_cases h1:mB s e ws=0
 ·obtain ⟨h0,hl64,hg⟩:=EY h1;simp only[h1,bne_self_eq_false,Bool.false_eq_true,if_false,if_true,Yk n s e he hs st hl hn,Option.bind_some];by_cases h2:nP s e st.ag=0
  ·simp only[h2,bne_self_eq_false,Bool.false_eq_true,if_false,if_true];subst h0;exact Yd n (hs rfl) st (TG h2) ws hl64 hg ws 0 n _ [] rfl (by omega) (by simpa using hl64)
  ·have h2':(nP s e st.ag !=0)=true:=by simpa using h2
   simp only[h2',h2,if_true,if_false]
 ·have h1':(mB s e ws !=0)=true:=by simpa using h1
  simp only[h1',h1,if_true,if_false]
end
theorem E3 {T:ay}:∀{rs:Wq9} {p:Option Wq2},kQ T p rs=true↔(∀r∈rs,bg (aW T) r=true)/\(∀q,p=some q->∀r∈rs,lt (kOf T q) (kOf T r))/\Ord T rs
 | [],p=>by simp[kQ,Ord]
 |r::rs,p=>by
  have ih:=E3 (T:=T) (rs:=rs) (p:=some r);simp only[kQ,Bool.and_eq_true];rw[ih];constructor
  ·rintro ⟨h1,h2,h3,h4,h5⟩;refine ⟨fun y hy=> ?_,fun q hq y hy=> ?_,?_⟩
   ·rcases List.mem_cons.1 hy with rfl|hy
    ·exact h1
    ·exact h3 y hy
   ·subst hq;have h2:lt (kOf T q) (kOf T r):=eQ.1 (by simpa[behind] using h2)
    rcases List.mem_cons.1 hy with rfl|hy
    ·exact h2
    ·exact lt_trans h2 (h4 r rfl y hy)
   ·exact List.pairwise_cons.2 ⟨fun y hy=>h4 r rfl y hy,h5⟩
  ·rintro ⟨h1,h2,h3⟩;obtain ⟨h4,h5⟩:=List.pairwise_cons.1 h3;refine ⟨h1 r (by simp),?_,fun y hy=>h1 y (by simp[hy]),fun q hq y hy=> ?_,h5⟩
   ·cases p with
    |none=>rfl
    |some q=>simp only[behind,decide_eq_true_eq];exact eQ.2 (h2 q rfl r (by simp))
   ·cases hq;exact h4 y hy
section
section
variable {s:af} {t n:Nat} {T:ay}
theorem Yg (n:Nat) (a b:Wq2) (ha:a.length<4294967296) (hn:a.length<n):F96 n a b=some (bL a b==0):=by
 unfold F96 SH;rw[lC n a b ha hn];rfl
theorem half (i j:Nat) (h:i+j<=2000000):w64 (Int.fdiv (IntKind.wrap .u64 (w64 ((i:Int)+(j:Int)))) 2)=(((i+j) / 2:Nat):Int):=by
 rw[bS (x:=(i:Int)+(j:Int)) (by omega) (by omega),IntWalk.u64_in _ (by omega),Int.fdiv_eq_ediv_of_nonneg _ (by omega),bS (by omega) (by omega)]
 omega
structure Place (T:ay) (key:Wq2) (rows:Wq9) (p:Nat):Prop where
 le:p<=rows.length
 lo:∀k r,rows[k]? =some r->k<p->lt (kOf T r) key
 hi:∀k r,rows[k]? =some r->p<=k->¬lt (kOf T r) key
theorem Ord.get {rows:Wq9} (h:Ord T rows) {i j:Nat} {a b:Wq2} (hi:rows[i]? =some a) (hj:rows[j]? =some b) (hij:i<j):lt (kOf T a) (kOf T b):=by
 obtain ⟨h1,rfl⟩:=List.getElem?_eq_some_iff.1 hi;obtain ⟨h2,rfl⟩:=List.getElem?_eq_some_iff.1 hj;exact List.pairwise_iff_getElem.1 h i j h1 h2 hij
theorem Yf (hT:idx s.ag (t:Int)=some T) (ht:bZ T) (c:aB) (hc:c.aq=(t:Int)) (row key:Wq2) (hr:row.length=T.ak.length) (hn:1000<n):F99 n row key s c=some (bL (kOf T row) key,s,c):=by
 have h8:=ht.aG;unfold F99 SE;rw[hc,lB hT ht row hr,Option.bind_some,lC n _ key (by simp;omega) (by simp;omega)]
 rfl
theorem Mb (n0:Nat) (hT:idx s.ag (t:Int)=some T) (ht:bZ T) (c:aB) (hc:c.aq=(t:Int)) (key:Wq2) (rows:Wq9) (hl:rows.length<=1000000) (hr:∀r∈rows,bg (aW T) r=true) (hO:Ord T rows):
  ∀(d i j m:Nat),j-i<=d->d+1000<m->i<=j->j<=rows.length->(∀k r,rows[k]? =some r->k<i->lt (kOf T r) key)->(∀k r,rows[k]? =some r->j<=k->¬lt (kOf T r) key)->
   ∃p,Place T key rows p/\ya (Cm n0) m rows key (rows.length:Int) (i:Int) (j:Int) s c=Cm n0 rows key (rows.length:Int) (p:Int) s c
 |d,i,j,0,_,hm,_,_,_,_=>by omega
 |d,i,j,m+1,hd,hm,hij,hj,hlo,hhi=>by
  by_cases h:i<j
  ·have hq:(i:Int)<(j:Int):=by omega
   have hh:(i+j) / 2<rows.length:=by omega
   have hg:rows[(i+j) / 2]? =some rows[(i+j) / 2]:=List.getElem?_eq_getElem hh;have hrl:=dD (hr _ (List.getElem_mem hh));simp only[ya,GU,hq,decide_true,if_true,half i j (by omega),aM,hg,Option.bind_some,Yf hT ht c hc _ key hrl (by omega:1000<m)]
   by_cases hc':bL (kOf T rows[(i+j) / 2]) key<0
   ·have e:w64 ((((i+j) / 2:Nat):Int)+1)=(((i+j) / 2+1:Nat):Int):=by rw[bS (by omega) (by omega)];rfl
    simp only[hc',decide_true,if_true,e];refine Mb n0 hT ht c hc key rows hl hr hO (d-1) ((i+j) / 2+1) j m (by omega) (by omega) (by omega) hj (fun k r hk hlt=> ?_) hhi
    by_cases hk':k=(i+j) / 2
    ·subst hk';rw[hg] at hk;cases hk;exact eQ.1 hc'
    ·exact lt_trans (hO.get hk hg (by omega)) (eQ.1 hc')
   ·simp only[hc',decide_false,Bool.false_eq_true,if_false];refine Mb n0 hT ht c hc key rows hl hr hO (d-1) i ((i+j) / 2) m (by omega) (by omega) (by omega) (by omega) hlo (fun k r hk hle=> ?_)
    by_cases hk':k=(i+j) / 2
    ·subst hk';rw[hg] at hk;cases hk;exact fun h=>hc' (eQ.2 h)
    ·exact fun h=>hc' (eQ.2 (lt_trans (hO.get hg hk (by omega)) h))
  ·have e:i=j:=by omega
   subst e;have hq:¬((i:Int)<(i:Int)):=by omega
   refine ⟨i,⟨hj,hlo,hhi⟩,?_⟩;simp only[ya,GU,hq,decide_false,Bool.false_eq_true,if_false]
def atK (T:ay) (key:Wq2):Option Wq2->Bool
 |some r=>bL (kOf T r) key==0
 |none=>false
theorem ahL (hT:idx s.ag (t:Int)=some T) (ht:bZ T) (c:aB) (hc:c.aq=(t:Int)) (key:Wq2) (rows:Wq9) (hl:rows.length<=100000) (hr:∀r∈rows,bg (aW T) r=true) (hO:Ord T rows) (hn:200000<n):
  ∃p,Place T key rows p/\F97 n rows key s c=some ((p:Int),atK T key rows[p]?,s,c):=by
 obtain ⟨p,h1,h2⟩:=Mb n hT ht c hc key rows (by omega) hr hO rows.length 0 rows.length n (by omega) (by omega) (by omega) (Nat.le_refl _) (fun k r _ h=>by omega) (fun k r hk h=>by
  have:=(List.getElem?_eq_some_iff.1 hk).1;omega)
 refine ⟨p,h1,?_⟩;unfold F97 SG;rw[show (0:Int)=((0:Nat):Int) from rfl,h2];unfold Cm;by_cases h:p<rows.length
 ·have hq:(p:Int)<(rows.length:Int):=by omega
  have hg:rows[p]? =some rows[p]:=List.getElem?_eq_getElem h;have hrl:=dD (hr _ (List.getElem_mem h));simp only[hq,decide_true,if_true,aM,hg,Option.bind_some,Yf hT ht c hc _ key hrl (by omega:1000<n),atK]
 ·have hq:¬(p:Int)<(rows.length:Int):=by omega
  have hg:rows[p]? =none:=List.getElem?_eq_none (by omega)
  simp only[hq,decide_false,Bool.false_eq_true,if_false,hg,atK]
def dN (T:ay) (c:aB):Wq2:=if c.cC= [] then kOf T c.ea else kOf T c.cC
def gd (c:aB):Wq9:=if c.ea= [] then [] else [c.ea]
structure EP (T:ay) (rows:Wq9) (c:aB):Prop where
 new:c.ea= []\/(bg (aW T) c.ea=true/\kOf T c.ea=dN T c)
 old:(c.cC= []/\c.ea≠ []/\∀r∈rows,kOf T r≠dN T c)\/(c.cC≠ []/\c.cC∈rows)
theorem O4 {rows:Wq9} {c:aB} (h:EP T rows c):gd c= []\/∃r,gd c= [r]/\kOf T r=dN T c:=by
 unfold gd;split
 ·exact .inl rfl
 ·rename_i hn;exact .inr ⟨_,rfl,(h.new.resolve_left hn).2⟩
theorem Ku (c:aB):(gd c).length<=1:=by unfold gd;split<;>simp
theorem xr {α:Type} {l:List α}:decide (0<(l.length:Int))= !l.isEmpty:=by cases l<;>simp
theorem ahK (hT:idx s.ag (t:Int)=some T) (ht:bZ T) (c:aB) (hc:c.aq=(t:Int)) {rows:Wq9} (hr:∀r∈rows,bg (aW T) r=true) (h:EP T rows c):F98 n s c=some (dN T c):=by
 unfold F98 SF dN;rw[hc,xr];rcases h.old with ⟨h1,h2,_⟩|⟨h1,h2⟩
 ·have hl:=dD (h.new.resolve_left h2).1;simp only[h1,List.isEmpty_nil,Bool.not_true,Bool.false_eq_true,if_false,if_true,lB hT ht c.ea hl,Option.bind_some]
 ·have hl:=dD (hr _ h2);have e:c.cC.isEmpty=false:=by simpa using h1
  simp only[e,Bool.not_false,if_true,h1,if_false,lB hT ht c.cC hl,Option.bind_some]
theorem EB {α:Type} {xs:List α} {k:Nat} (h:k<=xs.length):lj xs (k:Int) (k:Int)=some (xs.take k):=by
 unfold lj;rw[if_pos ⟨rfl,by omega,by omega⟩];rfl
theorem Ab {α:Type} {xs:List α} {k:Nat} (h:k<=xs.length):cut xs (some (k:Int)) none=some (xs.drop k):=by
 unfold cut;simp only[Option.getD_some,Option.getD_none,Option.map_none,Int.toNat_natCast];rw[if_pos ⟨by omega,by omega,h,by omega⟩,List.take_length]
theorem MR (h tl:Wq9) (hl:h.length+tl.length<=1000000):Cv n h tl=some (h++tl,true):=by
 unfold Cv;rw[EB (Nat.le_refl _),List.take_length,Option.bind_some];cases tl with
 |nil=>simp
 |cons y tl=>rw[cV _ _ hl];rfl
theorem MQ (h tl:Wq9) (hl:h.length+tl.length<=999999) (c:aB) (hn:c.ea.length<=1000000):Cu n h tl c=some (h++gd c++tl,true):=by
 unfold Cu gd;rw[xr];cases hc:c.ea with
 |nil=>simp only[List.isEmpty_nil,Bool.not_true,Bool.false_eq_true,if_false,if_true,List.append_nil];exact MR h tl (by omega)
 |cons y l=>
  rw[hc] at hn;simp only[List.isEmpty_cons,Bool.not_false,if_true,Ch n (y::l) hn,Option.bind_some,List.cons_ne_nil,if_false];rw[cV _ _ (by simp;omega),Option.bind_some]
  exact MR _ tl (by simp;omega)
theorem ahW (hT:idx s.ag (t:Int)=some T) (ht:bZ T) (c:aB) (hc:c.aq=(t:Int)) (rows:Wq9) (hl:rows.length<=100000) (hr:∀r∈rows,bg (aW T) r=true) (hO:Ord T rows) (h:EP T rows c) (hn:200000<n):F59 n s rows c=some (cc T (dN T c) (gd c) rows,true):=by
 have h8:=ht.aG;have hnl:c.ea.length<=1000000:=by
  rcases h.new with h|h
  ·simp[h]
  ·have:=dD h.1;omega
 obtain ⟨p,hp,hf⟩:=ahL hT ht c hc (dN T c) rows hl hr hO hn;have hA:∀r∈rows.take p,lt (kOf T r) (dN T c):=fun r hr'=>by
  obtain ⟨k,hk,rfl⟩:=List.mem_iff_getElem.1 hr';rw[List.length_take] at hk;exact hp.lo k _ (by rw[List.getElem_take];exact List.getElem?_eq_getElem _) (by omega)
 have hB:∀k r,rows[k]? =some r->p<=k->kOf T r≠dN T c->lt (dN T c) (kOf T r):=fun k r hk hle hne=>by
  rcases tq (kOf T r) (dN T c) with h|h|h
  ·exact absurd h (hp.hi k r hk hle)
  ·exact absurd h hne
  ·exact h
 have hpl:=hp.le;unfold F59 S4;rw[ahK hT ht c hc hr h,Option.bind_some,hf,Option.bind_some];simp only[xr];rcases h.old with ⟨h1,h2,h3⟩|⟨h1,h2⟩
 ·have e:atK T (dN T c) rows[p]? =false:=by
   cases hg:rows[p]? with
   |none=>rfl
   |some r=>
    simp only[atK,beq_eq_false_iff_ne];exact fun he=>h3 r (List.mem_of_getElem? hg) (iO he)
  simp only[e,h1,List.isEmpty_nil,Bool.not_true,beq_self_eq_true,Bool.false_eq_true,if_false];unfold Ct;rw[EB hpl,Option.bind_some,Ab hpl,Option.bind_some,if_neg (by simp),MQ _ _ (by simp;omega) c hnl]
  rw[<-JY (k:=dN T c) (N:=gd c) hA (B:=rows.drop p) (fun r hr'=>by
   obtain ⟨k,hk⟩:=List.getElem?_of_mem hr';rw[List.getElem?_drop] at hk;exact hB (p+k) r hk (by omega) (h3 r (List.mem_of_getElem? hk))),List.take_append_drop]
 ·have eo:c.cC.isEmpty=false:=by simpa using h1
  have ek:dN T c=kOf T c.cC:=by unfold dN;rw[if_neg h1]
  obtain ⟨k,hk⟩:=List.getElem?_of_mem h2;have hkp:p<=k:=by
   by_cases hh:p<=k
   ·exact hh
   ·exact absurd (hp.lo k _ hk (by omega)) (by rw[ek];exact lt_irrefl _)
  have hkl:=(List.getElem?_eq_some_iff.1 hk).1;have hpk:p=k:=by
   by_cases hh:p=k
   ·exact hh
   ·exact absurd (hO.get (List.getElem?_eq_getElem (by omega)) hk (by omega:p<k)) (by rw[<-ek];exact hp.hi p _ (List.getElem?_eq_getElem (by omega)) (Nat.le_refl _))
  subst hpk;have e:atK T (dN T c) (some c.cC)=true:=by rw[ek];simp only[atK,jb,beq_self_eq_true]
  have hol:=dD (hr _ h2);simp only[e,eo,Bool.not_false,beq_self_eq_true,Bool.not_true,Bool.false_eq_true,if_false,if_true,aM,hk,Option.bind_some,Yg n c.cC c.cC (by omega) (by omega),jb]
  unfold Ct;have hw:w64 ((p:Int)+1)=((p+1:Nat):Int):=by rw[bS (by omega) (by omega)];rfl
  rw[EB hpl,Option.bind_some,Ab hpl,Option.bind_some,if_pos rfl,hw,Ab (by omega),Option.bind_some,MQ _ _ (by simp;omega) c hnl]
  have hs:rows=rows.take p++c.cC::rows.drop (p+1):=by
   obtain ⟨h3,h4⟩:=List.getElem?_eq_some_iff.1 hk;rw[<-h4,<-List.drop_eq_getElem_cons h3,List.take_append_drop]
  conv=>rhs;rw[hs]
  rw[rI hA ek.symm (fun r hr'=>by
   obtain ⟨k,hk'⟩:=List.getElem?_of_mem hr';rw[List.getElem?_drop] at hk';rw[ek];exact hO.get hk hk' (by omega))]
theorem ahX (hT:s.ag[t]? =some T) (ht:bZ T) (c:aB) (hc:c.aq=(t:Int)) (rows:Wq9) (hr:∀r∈rows,bg (aW T) r=true) (h:EP T rows c) (hn:2000<n):F58 n s 1 c=some true:=by
 have h8:=ht.aG;have hTi:idx s.ag (t:Int)=some T:=by rw[aM];exact hT
 have hlt:=(List.getElem?_eq_some_iff.1 hT).1;obtain ⟨m,rfl⟩:∃m,n=m+3:=⟨n-3,by omega⟩
 have e1:¬(t:Int)<0:=by omega
 have e2:(t:Int)<(s.ag.length:Int):=by omega
 have hk:∀row:Wq2,row= []\/bg (aW T) row=true->∀(k:Int->rq->Int->af->aB->Option Bool) (n1:Nat) (q:rq) (j:Int),1000<n1->Cy k n1 1 row q j s c=k 1 q (w64 (j+1)) s c:=by
  intro row eV k n1 q j hn1;unfold Cy;rw[xr];rcases eV with rfl|eV
  ·simp
  ·rw[hc,MC hTi ht row hn1,eV];simp
 have hO:c.cC= []\/bg (aW T) c.cC=true:=by
  rcases h.old with h|h
  ·exact .inl h.1
  ·exact .inr (hr _ h.2)
 have hN:c.ea= []\/bg (aW T) c.ea=true:=h.new.imp id (·.1)
 have h3:Cw (m+3) 1 s c=some true:=by
  unfold Cw;simp only[GS,S7,show w64 (0+1)=1 from by rw[bS]<;>omega,show w64 (1+1)=2 from by rw[bS]<;>omega,hk _ hO _ (m+2) _ 0 (by omega),hk _ hN _ (m+1) _ 1 (by omega),show decide ((0:Int)<2)=true from rfl,show decide ((1:Int)<2)=true from rfl,show decide ((2:Int)<2)=false from rfl,if_true,show ((0:Int)==0)=true from rfl,show ((1:Int)==0)=false from rfl,show ((1:Int)==1)=true from rfl,Bool.false_eq_true,if_false]
  unfold S6;rw[D6,D6];cases ho:c.cC.isEmpty with
  |true=>rfl
  |false=>
   cases hnw:c.ea.isEmpty with
   |true=>rfl
   |false=>
    have ho':c.cC≠ []:=by simpa using ho
    have hn':c.ea≠ []:=by simpa using hnw
    have ek:dN T c=kOf T c.cC:=by unfold dN;rw[if_neg ho']
    have hol:=dD (hO.resolve_left ho');obtain ⟨k1,k2⟩:=h.new.resolve_left hn';have hnl:=dD k1;simp only[Bool.false_eq_true,if_false,hc,lB hTi ht _ hol,lB hTi ht _ hnl,Option.bind_some];rw[Yg _ _ _ (by simp;omega) (by simp;omega)]
    rw[show c.ea.take T.au.toNat=c.cC.take T.au.toNat from k2.trans ek,jb];rfl
 unfold F58 S5;rw[hc];simp only[e1,e2,decide_false,decide_true,Bool.not_true,Bool.false_eq_true,if_false,D6,h3];rcases h.old with ⟨h1,h2,_⟩|⟨h1,_⟩
 ·have:c.ea.isEmpty=false:=by simpa using h2
  simp[h1,this]
 ·have:c.cC.isEmpty=false:=by simpa using h1
  simp[this]
theorem Mx (k:Int->Wq5->Int->aF->Int->Int->af->ah->ah->aF->Wq9->Option (ah×Int)) (mode:Int) (ch:Wq5) (ts:aF) (a b:Int) (b32:aF) (tt:Nat) (htt:tt<b32.length) (rows:Wq9) (hl:rows.length<=100000) (hr:∀r∈rows,r.length<=1000000):∀(x:Wq9) (i m:Nat) (z1 z2:ah) (o:Wq9),rows.drop i=x->x.length+1<=m->o.length+x.length<=1000000->
  yw k m mode ch (tt:Int) ts a b rows (rows.length:Int) (i:Int) s z1 z2 b32 o=k mode ch (tt:Int) ts a b s ⟨[]⟩ ⟨b32⟩ b32 (o++x)
 | [],i,m+1,z1,z2,o,hd,hm,ho=>by
  have hq':rows.length<=i:=by simpa using hd
  have hq:¬((i:Int)<(rows.length:Int)):=by omega
  simp only[yw,HT,hq,decide_false,Bool.false_eq_true,if_false,List.append_nil]
 |r::x,i,m+1,z1,z2,o,hd,hm,ho=>by
  obtain ⟨g1,g2,g3⟩:=aX hd;have hq:(i:Int)<(rows.length:Int):=by omega
  have e1:bnd b32.length (tt:Int)=some tt:=by unfold bnd;rw[if_pos (by omega)];rfl
  simp at hm ho;simp only[yw,HT,hq,decide_true,if_true,aM,g1,Option.bind_some,e1,Ch m r (hr r (List.mem_of_getElem? g1)),cV o [r] (by simp;omega),bz g3 (by omega:rows.length<4294967296)]
  rw[Mx k mode ch ts a b b32 tt htt rows hl hr x (i+1) m _ _ _ g2 (by omega) (by simp;omega),List.append_assoc]
  rfl
 |_,_,0,_,_,_,_,hm,_=>by omega
theorem Mw (n0 N:Nat) (hN:100001<N) (mode:Int) (ch:Wq5) (ts:aF) (hlt:ts.length<=1000) (hl:∀rows∈ts,rows.length<=100000/\∀r∈rows,r.length<=1000000):∀(x:aF) (i m:Nat) (z1 z2:ah),ts.drop i=x->x.length+N<=m->
  vh (yO n0) m mode ch ts (ts.length:Int) (i:Int) s z1 z2 (ts.take i++List.replicate (ts.length-i) [])=yO n0 mode ch s ⟨[]⟩ ⟨ts⟩ ts
 | [],i,m+1,z1,z2,hd,hm=>by
  have hq':ts.length<=i:=by simpa using hd
  have hq:¬((i:Int)<(ts.length:Int)):=by omega
  have e:ts.take i++List.replicate (ts.length-i) []=ts:=by rw[List.take_of_length_le hq',show ts.length-i=0 by omega];simp
  simp only[vh,HQ,hq,decide_false,Bool.false_eq_true,if_false,e]
 |rows::x,i,m+1,z1,z2,hd,hm=>by
  obtain ⟨g1,g2,g3⟩:=aX hd;have hq:(i:Int)<(ts.length:Int):=by omega
  have hti:(ts.take i).length=i:=by rw[List.length_take];omega
  have hlen:(ts.take i++List.replicate (ts.length-i) ([]:Wq9)).length=ts.length:=by simp;omega
  have hg:(ts.take i++List.replicate (ts.length-i) ([]:Wq9))[i]? =some []:=by
   rw[List.getElem?_append_right (by omega),hti,Nat.sub_self,List.getElem?_replicate,if_pos (by omega)]
  have e0:Bc (ts.take i++List.replicate (ts.length-i) []) (0+(i:Int).toNat)=some ():=by
   unfold Bc;rw[show 0+(i:Int).toNat=i by omega,hg]
  obtain ⟨r1,r2⟩:=hl rows (List.mem_of_getElem? g1);have e2:setAt (ts.take i++List.replicate (ts.length-i) []) (0+(i:Int).toNat) rows=some (ts.take (i+1)++List.replicate (ts.length-(i+1)) []):=by
   unfold setAt;rw[show 0+(i:Int).toNat=i by omega,if_pos (by rw[hlen];exact g3)]
   congr 1;rw[List.set_append_right _ _ (by omega),hti,Nat.sub_self,show ts.length-i=(ts.length-(i+1))+1 by omega,List.replicate_succ,List.set_cons_zero,List.take_succ,g1]
   simp
  simp at hm;simp only[vh,HQ,hq,decide_true,if_true,aM,g1,Option.bind_some,e0];have:=Mx (s:=s) (HS (vh (yO n0) m) m) mode ch ts (ts.length:Int) (i:Int) (ts.take i++List.replicate (ts.length-i) []) i (by omega) rows r1 r2 rows 0 m ⟨[]⟩ ⟨ts.take i++List.replicate (ts.length-i) []⟩ [] rfl (by omega) (by simp;omega)
  rw[show ((0:Nat):Int)=0 from rfl] at this;rw[this];simp only[HS,List.nil_append,e2,Option.bind_some,bz g3 (by omega:ts.length<4294967296)]
  exact Mw n0 N hN mode ch ts hlt hl x (i+1) m _ _ g2 (by omega)
 |_,_,0,_,_,_,hm=>by omega
end
end
section
abbrev cU:=aF
def fU (s:af) (ts:cU) (c:aB):cU:=
 match idx s.ag c.aq,idx ts c.aq with
 |some T,some rows=>ts.set c.aq.toNat (cc T (dN T c) (gd c) rows)
 |_,_=>ts
structure StB (s:af) (ts:cU):Prop where
 len:ts.length=s.ag.length
 row:∀(t:Nat) T rows,s.ag[t]? =some T->ts[t]? =some rows->(∀r∈rows,bg (aW T) r=true)/\Ord T rows
def Mz (s:af) (ts:cU) (c:aB):Prop:=∃(t:Nat) (T:ay) (rows:Wq9),c.aq=(t:Int)/\s.ag[t]? =some T/\ts[t]? =some rows/\EP T rows c
def MJ (s:af):cU->Wq5->Prop
 |_,[]=>True
 |ts,c::cs=>Mz s ts c/\MJ s (fU s ts c) cs
section
variable {s:af} {t n:Nat} {T:ay} {ts:cU} {rows:Wq9} {c:aB}
theorem nI (hc:c.aq=(t:Int)) (hT:s.ag[t]? =some T) (hr:ts[t]? =some rows):fU s ts c=ts.set t (cc T (dN T c) (gd c) rows):=by
 unfold fU;rw[hc,aM,aM,hT,hr];rfl
theorem StB.set (h:StB s ts) (hT:s.ag[t]? =some T) {rows':Wq9} (h1:∀r∈rows',bg (aW T) r=true) (h2:Ord T rows'):StB s (ts.set t rows'):=by
 refine ⟨by rw[List.length_set];exact h.len,fun u U rs hU hrs=> ?_⟩
 have hlt:=(List.getElem?_eq_some_iff.1 hT).1;by_cases e:u=t
 ·subst e;rw[hT] at hU;cases hU;rw[List.getElem?_set_self (by rw[h.len];exact hlt)] at hrs
  cases hrs;exact ⟨h1,h2⟩
 ·rw[List.getElem?_set_ne (fun e'=>e e'.symm)] at hrs
  exact h.row u U rs hU hrs
theorem StB.fU (h:StB s ts) (hc:Mz s ts c):StB s (fU s ts c):=by
 obtain ⟨t,T,rows,h1,h2,h3,h4⟩:=hc;obtain ⟨r1,r2⟩:=h.row t T rows h2 h3;rw[nI h1 h2 h3];refine h.set h2 (fun r hr=> ?_) (ub r2 (O4 h4))
 rcases lY.1 hr with ⟨hr,_⟩|hr
 ·exact r1 r hr
 ·unfold gd at hr;split at hr
  ·simp at hr
  ·rename_i hn;rw[List.mem_singleton.1 hr];exact (h4.new.resolve_left hn).1
theorem iV:∀{ts:cU} {t:Nat} {rows rows':Wq9},ts[t]? =some rows->total (ts.set t rows')+rows.length=total ts+rows'.length
 | [],_,_,_,h=>by simp at h
 |y::ts,0,rows,rows',h=>by
  simp at h;subst h;simp only[List.set_cons_zero,total];omega
 |y::ts,t+1,rows,rows',h=>by
  have:=iV (rows':=rows') (show ts[t]? =some rows by simpa using h)
  simp only[List.set_cons_succ,total];omega
theorem zf (k:Wq2):∀rows:Wq9,(rows.filter fun r=>decide (lt (kOf T r) k)).length+(rows.filter fun r=>decide (lt k (kOf T r))).length<=rows.length
 | []=>by simp
 |r::rows=>by
  have ih:=zf k rows;rw[List.filter_cons,List.filter_cons];by_cases h1:lt (kOf T r) k
  ·have h2:¬lt k (kOf T r):=lt_asymm h1;simp only[h1,h2,decide_true,decide_false,if_true,Bool.false_eq_true,if_false,List.length_cons];omega
  ·by_cases h2:lt k (kOf T r)
   ·simp only[h1,h2,decide_true,decide_false,if_true,Bool.false_eq_true,if_false,List.length_cons];omega
   ·simp only[h1,h2,decide_false,Bool.false_eq_true,if_false,List.length_cons];omega
theorem zx (k:Wq2) (N rows:Wq9):(cc T k N rows).length<=rows.length+N.length:=by
 have:=zf (T:=T) k rows;unfold cc;simp only[List.length_append];omega
theorem Mv (hs:SOK s) (n0 N:Nat) (hN:300000<=N) (cs0:Wq5) (hcl:cs0.length<=1000):∀(x:Wq5) (i m:Nat) (b:cU) (z1 z2:ah),cs0.drop i=x->x.length+N<m->StB s b->MJ s b x->total b+x.length<=512->
  yv (HO n0) m 1 ((total b:Nat):Int) cs0 (cs0.length:Int) (i:Int) s z1 z2 b=some (⟨x.foldl (fU s) b⟩,0)
 | [],i,m+1,b,z1,z2,hd,hm,hb,hc,qJ=>by
  have hq':cs0.length<=i:=by simpa using hd
  have hq:¬((i:Int)<(cs0.length:Int)):=by omega
  simp only[yv,HP,HO,hq,decide_false,Bool.false_eq_true,if_false,List.foldl_nil]
 |c::x,i,m+1,b,z1,z2,hd,hm,hb,hc,qJ=>by
  obtain ⟨g1,g2,g3⟩:=aX hd;have hq:(i:Int)<(cs0.length:Int):=by omega
  obtain ⟨hf,hc⟩:=hc;have hb':=hb.fU hf;obtain ⟨t,T,rows,h1,h2,h3,h4⟩:=hf;obtain ⟨r1,r2⟩:=hb.row t T rows h2 h3;rw[nI h1 h2 h3] at hc hb';have hlt:=(List.getElem?_eq_some_iff.1 h3).1;have ht:=hs.tab (t:Int) T (by rw[aM];exact h2)
  have hrl:=jE (List.mem_of_getElem? h3);have e1:bnd b.length (t:Int)=some t:=by unfold bnd;rw[if_pos (by omega)];rfl
  have e3:∀o,setAt b t o=some (b.set t o):=fun o=>by unfold setAt;rw[if_pos hlt]
  have hts:=iV (rows':=cc T (dN T c) (gd c) rows) h3;have hpl:=zx (T:=T) (dN T c) (gd c) rows;have hnl:=Ku c;simp at hm qJ;have ew:w64 (((total b:Nat):Int)+w64 (((cc T (dN T c) (gd c) rows).length:Int)-(rows.length:Int)))=((total (b.set t (cc T (dN T c) (gd c) rows)):Nat):Int):=by
   rw[bS (x:=((cc T (dN T c) (gd c) rows).length:Int)-(rows.length:Int)) (by omega) (by omega),bS (by omega) (by omega)]
   omega
  have e5:¬(512:Int)<((total (b.set t (cc T (dN T c) (gd c) rows)):Nat):Int):=by omega
  simp only[yv,HP,hq,decide_true,if_true,aM,g1,Option.bind_some,ahX (n:=m) h2 ht c h1 rows r1 h4 (by omega),Bool.not_true,Bool.false_eq_true,if_false,h1,e1,Nat.zero_add,h3,
   ahW (n:=m) (by rw[aM];exact h2) ht c h1 rows (by omega) r1 r2 h4 (by omega),ew,e5,decide_false,e3,bz g3 (by omega:cs0.length<4294967296)]
  rw[Mv hs n0 N hN cs0 hcl x (i+1) m _ _ _ g2 (by omega) hb' hc (by omega),List.foldl_cons,nI h1 h2 h3]
 |_,_,0,_,_,_,_,hm,_,_,_=>by omega
theorem Il:∀{Ts:Wq1} {rss:cU},(∀(t:Nat) T rows,Ts[t]? =some T->rss[t]? =some rows->kQ T none rows=true)->lG Ts rss=true
 | [],_,_=>by simp[lG]
 |_::_,[],_=>by simp[lG]
 |T::Ts,rs::rss,h=>by
  simp only[lG,Bool.and_eq_true];exact ⟨h 0 T rs rfl rfl,Il fun t U rows h1 h2=>h (t+1) U rows (by simpa using h1) (by simpa using h2)⟩
theorem StB.chk (h:StB s ts) (ht:total ts<=512):nP s 0 ts=0:=by
 unfold nP;rw[if_pos rfl,if_neg (by omega),if_pos h.len,Il fun t T rows h1 h2=>by
  obtain ⟨r1,r2⟩:=h.row t T rows h1 h2;exact E3.2 ⟨r1,by simp,r2⟩,if_pos rfl]
theorem aij (hs:SOK s) (he:F38 n s=some 0) (h:StB s ts) {cs:Wq5} (hc:MJ s ts cs) (qJ:total ts+cs.length<=512) (hn:2000100<=n):F20 n s 1 ⟨ts⟩ cs=some (⟨cs.foldl (fU s) ts⟩,0):=by
 have hl8:=hs.len;have hlen:=h.len;have e:kg (ts.length:Int) ([]:Wq9)=some (List.replicate ts.length []):=by
  unfold kg;rw[if_pos (by omega)];rfl
 have h57:=w5 (sv n) ts (by omega) ts 0 n 0 rfl (by omega) (by omega)
 have e57:F57 n ⟨ts⟩=some ((total ts:Nat):Int):=by
  unfold F57 yI;simp only[show ((0:Nat):Int)=0 from rfl,Nat.zero_add] at h57;rw[h57];rfl
 unfold F20 Tw;rw[Yk n s 0 he (fun _=>hs) ⟨ts⟩ (by simp only;omega) hn,Option.bind_some,h.chk (by omega),if_neg (by simp)]
 simp only[e,Option.bind_some];have e2:=Mw (s:=s) n 2000000 (by omega) 1 cs ts (by omega) (fun rows hr=>⟨by have:=jE hr;omega,fun r hr'=>by
  obtain ⟨t,hl,rfl⟩:=List.mem_iff_getElem.1 hr;have hT:s.ag[t]? =some s.ag[t]:=List.getElem?_eq_getElem (by omega)
  have:=dD ((h.row t _ _ hT (List.getElem?_eq_getElem hl)).1 r hr');have:=(hs.tab (t:Int) _ (by rw[aM];exact hT)).aG
  omega⟩) ts 0 n ⟨[]⟩ ⟨List.replicate ts.length []⟩ rfl (by omega)
 rw[show ((0:Nat):Int)=0 from rfl,List.take_zero,List.nil_append,Nat.sub_zero] at e2;rw[e2];unfold yO;rw[e57,Option.bind_some];exact Mv hs n 300000 (Nat.le_refl _) cs (by omega) cs 0 n ts _ _ rfl (by omega) h hc qJ
end
end
section
section
variable {s:af} {t n:Nat} {T:ay} {ts ts0:cU} {rows:Wq9} {c:aB} {key:Wq2} {r:Wq2}
instance decRow (a b:Wq2):Decidable (a=b):=decidable_of_iff (bL a b=0) sE
theorem Ord.inj (h:Ord T rows) {a b:Wq2} (ha:a∈rows) (hb:b∈rows) (e:kOf T a=kOf T b):a=b:=by
 obtain ⟨i,hi⟩:=List.getElem?_of_mem ha;obtain ⟨j,hj⟩:=List.getElem?_of_mem hb;by_cases h1:i=j
 ·subst h1;rw[hi] at hj;cases hj;rfl
 ·by_cases h2:i<j
  ·have:=h.get hi hj h2;rw[e] at this;exact absurd this (lt_irrefl _)
  ·have:=h.get hj hi (by omega);rw[e] at this;exact absurd this (lt_irrefl _)
theorem jd:cE T key rows=none↔∀r∈rows,kOf T r≠key:=by
 unfold cE;rw[List.find?_eq_none];constructor
 ·intro h r hr e;have:=h r hr;simp only[beq_iff_eq] at this;exact this (sE.2 e)
 ·intro h r hr hc;simp only[beq_iff_eq] at hc;exact h r hr (iO hc)
theorem kG (h:cE T key rows=some r):kOf T r=key:=by
 have:=List.find?_some h;simp only[beq_iff_eq] at this;exact iO this
theorem Fy (hO:Ord T rows):cE T key rows=some r↔r∈rows/\kOf T r=key:=by
 constructor
 ·exact fun h=>⟨jm h,kG h⟩
 ·rintro ⟨h1,h2⟩;cases hg:cE T key rows with
  |none=>exact absurd h2 (jd.1 hg r h1)
  |some r'=>rw[hO.inj (jm hg) h1 ((kG hg).trans h2.symm)]
theorem ZX {k:Wq2} {N:Wq9} (hO:Ord T rows) (hN:N= []\/∃r,N= [r]/\kOf T r=k):cE T key (cc T k N rows)=if key=k then N.head? else cE T key rows:=by
 have hO':=ub hO hN;split
 ·rename_i e;subst e;rcases hN with rfl|⟨r,rfl,e⟩
  ·refine jd.2 fun r hr=> ?_
   rcases lY.1 hr with h|h
   ·exact h.2
   ·simp at h
  ·exact (Fy hO').2 ⟨lY.2 (.inr (by simp)),e⟩
 ·rename_i e;cases hg:cE T key rows with
  |none=>
   refine jd.2 fun r hr=> ?_
   rcases lY.1 hr with h|h
   ·exact jd.1 hg r h.1
   ·rcases hN with rfl|⟨r',rfl,e'⟩
    ·simp at h
    ·rw[List.mem_singleton.1 h,e'];exact fun h=>e h.symm
  |some r=>
   exact (Fy hO').2 ⟨lY.2 (.inl ⟨jm hg,by rw[kG hg];exact e⟩),kG hg⟩
def wlt (a b:az):Prop:=gS a.aq a.au b.aq b.au<0
theorem TB {a b d:az} (h1:wlt a b) (h2:wlt b d):wlt a d:=by
 unfold wlt gS at*;by_cases e1:a.aq=b.aq
 ·rw[if_pos e1] at h1;by_cases e2:b.aq=d.aq
  ·rw[if_pos e2] at h2;rw[if_pos (e1.trans e2)];exact eQ.2 (lt_trans (eQ.1 h1) (eQ.1 h2))
  ·rw[if_neg e2] at h2;rw[if_neg (by rw[e1];exact e2),e1]
   exact h2
 ·rw[if_neg e1] at h1;by_cases e2:b.aq=d.aq
  ·rw[<-e2,if_neg e1];exact h1
  ·rw[if_neg e2] at h2;split at h1
   ·split at h2
    ·rw[if_neg (by omega),if_pos (by omega)];omega
    ·omega
   ·omega
theorem Ia {a b:az} (h:wlt a b) (e:a.aq=b.aq):a.au≠b.au:=by
 unfold wlt gS at h;rw[if_pos e] at h;intro hk;rw[hk,jb] at h;omega
theorem Ar:∀{ws:Wq3} {prev:Option az},fC s prev ws=0->ws.Pairwise wlt/\∀p,prev=some p->∀w∈ws,wlt p w
 | [],_,_=>⟨.nil,fun _ _ _ h=>by simp at h⟩
 |w::ws,prev,h=>by
  obtain ⟨h1,h2,h3⟩:=jK.1 h;obtain ⟨i1,i2⟩:=Ar h3;refine ⟨List.pairwise_cons.2 ⟨fun v hv=>i2 w rfl v hv,i1⟩,fun p hp v hv=> ?_⟩
  subst hp;have hw:wlt p w:=by
   simp only[pc,Bool.not_eq_false',decide_eq_true_eq] at h2;exact h2
  rcases List.mem_cons.1 hv with rfl|hv
  ·exact hw
  ·exact TB hw (i2 w rfl v hv)
theorem JN:∀{ks:Wq0} {r:Wq2} {i:Nat} {v:aH} {k:Int},bg ks r=true->ks[i]? =some k->fV v=true->v.aw=k->bg ks (r.set i v)=true
 |k::ks,w::r,0,v,k',h,hk,h1,h2=>by
  simp only[bg,Bool.and_eq_true,beq_iff_eq] at h;simp at hk;subst hk;simp[bg,h1,h2,h.2]
 |k::ks,w::r,i+1,v,k',h,hk,h1,h2=>by
  simp only[bg,Bool.and_eq_true] at h;simp only[List.set_cons_succ,bg,Bool.and_eq_true];exact ⟨h.1,JN h.2 (by simpa using hk) h1 h2⟩
 | [],[],_,_,_,_,hk,_,_=>by simp at hk
 | [],_::_,_,_,_,h,_,_,_=>by simp[bg] at h
 |_::_,[],_,_,_,h,_,_,_=>by simp[bg] at h
theorem NY {ks:Wq0}:∀{cs l:Wq0} {vs:Wq2} {last:Int} {r:Wq2}, -1<=last->dL ks last cs=some l->bg l vs=true->bg ks r=true->bg ks (cH r cs vs)=true/\(cH r cs vs).take (last+1).toNat=r.take (last+1).toNat
 | [],l,vs,last,r,_,h,hl,hr=>by simp[cH,hr]
 |c::cs,l,vs,last,r,Gs,h,hl,hr=>by
  simp only[dL] at h;split at h
  ·rename_i hc;cases h3:dL ks c cs with
   |none=>rw[h3] at h;cases h
   |some l'=>
    rw[h3] at h;simp at h;subst h;cases vs with
    |nil=>simp[bg] at hl
    |cons v vs=>
     simp only[bg,Bool.and_eq_true,beq_iff_eq] at hl;have hlt:c.toNat<ks.length:=by omega
     have hk:ks[c.toNat]? =some ks[c.toNat]:=List.getElem?_eq_getElem hlt;rw[hk] at hl;have hr':=JN (i:=c.toNat) hr hk hl.1.1 hl.1.2;obtain ⟨a,b⟩:=NY (by omega) h3 hl.2 hr'
     refine ⟨a,?_⟩;simp only[cH];have e:(last+1).toNat=min (last+1).toNat (c+1).toNat:=by omega
     rw[e,<-List.take_take,b,List.take_take,<-e,List.take_set_of_le (by omega)]
  ·cases h
theorem NW {w:az} (ht:bZ T) (h:wOK T w=true) (h2:w.fOp=2) (hr:bg (aW T) r=true):bg (aW T) (cH r w.ak w.aR)=true/\kOf T (cH r w.ak w.aR)=kOf T r:=by
 have k1:=ht.gx;simp only[wOK,gM,Bool.and_eq_true] at h;have h:=h.2;rw[if_neg (by omega),if_pos h2] at h
 split at h
 ·rename_i l hl;obtain ⟨a,b⟩:=NY (r:=r) (by omega) hl h hr
  refine ⟨a,?_⟩;rw[show T.au-1+1=T.au by omega] at b
  exact b
 ·cases h
theorem xl {w:az} (h:wOK T w=true) (h1:w.fOp=1):bg (aW T) w.aR=true/\kOf T w.aR=w.au:=by
 simp only[wOK,gM,Bool.and_eq_true] at h;have h:=h.2;rw[if_pos h1] at h;simp only[Bool.and_eq_true,beq_iff_eq] at h;exact ⟨h.2.1,iO h.2.2⟩
theorem tg (ht:bZ T) (hr:bg (aW T) r=true):r≠ []:=by
 rintro rfl;have:=dD hr;have k1:=ht.gx;have k2:=ht.cr;simp at this;omega
def cT (s:af) (ts0:cU) (w:az):Option aB:=
 match idx s.ag w.aq,idx ts0 w.aq with
 |some T,some rows=>
  match cE T w.au rows with
  |some r=>if w.fOp=2 then (if bL r (cH r w.ak w.aR)=0 then none else some (aB.mk w.aq r (cH r w.ak w.aR))) else some (aB.mk w.aq r [])
  |none=>some (aB.mk w.aq [] w.aR)
 |_,_=>none
def eff (T:ay) (db:Wq9) (w:az):Option Wq2:=
 match cE T w.au db with
 |some r=>if w.fOp=2 then some (cH r w.ak w.aR) else none
 |none=>some w.aR
def Acc (s:af) (ts0:cU) (w:az):Prop:=∃(t:Nat) (T:ay) (rows:Wq9),w.aq=(t:Int)/\s.ag[t]? =some T/\ts0[t]? =some rows/\wOK T w=true/\((cE T w.au rows=none/\w.fOp=1)\/∃r,cE T w.au rows=some r/\(w.fOp=2\/w.fOp=3))
theorem Pd (hlen:ts0.length=s.ag.length):∀(ws:Wq3) (acc:Wq5),(∀w∈ws,la s w)->((∀w∈ws,Acc s ts0 w)/\iM s ts0 ws acc=(acc++ws.filterMap (cT s ts0),ug,0))\/∃rf:aQ,rf.dI≠0/\iM s ts0 ws acc=([],rf,0)
 | [],acc,_=>.inl ⟨by simp,by simp[iM]⟩
 |w::ws,acc,hg=>by
  obtain ⟨T,hT,hop,hok⟩:=hg w (by simp)
  obtain ⟨i1,i2,i3⟩:=mK hT;have hlt:w.aq.toNat<ts0.length:=by rw[hlen];exact i2
  have hr:ts0[w.aq.toNat]? =some ts0[w.aq.toNat]:=List.getElem?_eq_getElem hlt;have ht:w.aq=(w.aq.toNat:Int):=by omega
  have hri:idx ts0 w.aq=some ts0[w.aq.toNat]:=by unfold idx;rw[if_pos i1];exact hr
  have ih:=fun acc'=>Pd hlen ws acc' fun v hv=>hg v (by simp[hv])
  have key:∀(o:Wq5),Acc s ts0 w->(match cT s ts0 w with|some c=> [c]|none=> [])=o->iM s ts0 (w::ws) acc=iM s ts0 ws (acc++o)->((∀v∈w::ws,Acc s ts0 v)/\iM s ts0 (w::ws) acc=(acc++(w::ws).filterMap (cT s ts0),ug,0))\/∃rf:aQ,rf.dI≠0/\iM s ts0 (w::ws) acc=([],rf,0):=by
   intro o ha ho he;rw[he];rcases ih (acc++o) with ⟨a,b⟩|⟨rf,a,b⟩
   ·refine .inl ⟨fun v hv=> ?_,?_⟩
    ·rcases List.mem_cons.1 hv with rfl|hv
     ·exact ha
     ·exact a v hv
    ·rw[b,List.filterMap_cons];cases hc:cT s ts0 w with
     |none=>rw[hc] at ho;subst ho;simp
     |some c=>rw[hc] at ho;subst ho;simp
   ·exact .inr ⟨rf,a,b⟩
  cases hgk:cE T w.au ts0[w.aq.toNat] with
  |none=>
   by_cases h1:w.fOp=1
   ·refine key [aB.mk w.aq [] w.aR] ⟨_,T,_,ht,i3,hr,hok,.inl ⟨hgk,h1⟩⟩ ?_ ?_
    ·simp only[cT,hT,hri,hgk]
    ·simp only[iM,hT,hri,hgk,h1,if_true]
   ·exact .inr ⟨aQ.mk 5 0 w.aq w.au,by simp,by simp only[iM,hT,hri,hgk,h1,if_false]⟩
  |some r=>
   by_cases h1:w.fOp=1
   ·exact .inr ⟨aQ.mk 4 0 w.aq w.au,by simp,by simp only[iM,hT,hri,hgk,h1,if_true]⟩
   ·have ha:Acc s ts0 w:=⟨_,T,_,ht,i3,hr,hok,.inr ⟨r,hgk,by omega⟩⟩
    by_cases h2:w.fOp=2
    ·by_cases h3:bL r (cH r w.ak w.aR)=0
     ·refine key [] ha ?_ ?_
      ·simp only[cT,hT,hri,hgk,h2,if_true,h3]
      ·simp only[iM,hT,hri,hgk,h2,h3,if_true,List.append_nil];rw[if_neg (by omega)]
     ·refine key [aB.mk w.aq r (cH r w.ak w.aR)] ha ?_ ?_
      ·simp only[cT,hT,hri,hgk,h2,if_true,h3,if_false]
      ·simp only[iM,hT,hri,hgk,h2,h3,if_true,if_false];rw[if_neg (by omega)]
    ·refine key [aB.mk w.aq r []] ha ?_ ?_
     ·simp only[cT,hT,hri,hgk,h2,if_false]
     ·simp only[iM,hT,hri,hgk,h1,h2,if_false]
theorem aaS (hs:SOK s) {w:az} {cur:cU} {db:Wq9} (hb:StB s cur) (ht:w.aq=(t:Int)) (hT:s.ag[t]? =some T) (h0:ts0[t]? =some db) (hc:cur[t]? =some rows) (hg:cE T w.au rows=cE T w.au db) (hok:wOK T w=true) (hop:(cE T w.au db=none/\w.fOp=1)\/∃r,cE T w.au db=some r/\(w.fOp=2\/w.fOp=3)):
  (∀c,cT s ts0 w=some c->Mz s cur c)/\∃rows',(match cT s ts0 w with|some c=>fU s cur c|none=>cur)=cur.set t rows'/\StB s (cur.set t rows')/\∀key,cE T key rows'=if key=w.au then eff T db w else cE T key rows:=by
 have hTi:idx s.ag w.aq=some T:=by rw[ht,aM];exact hT
 have h0i:idx ts0 w.aq=some db:=by rw[ht,aM];exact h0
 have htb:=hs.tab _ _ hTi;obtain ⟨r1,r2⟩:=hb.row t T rows hT hc;have fits:∀c:aB,c.aq=w.aq->EP T rows c->dN T c=w.au->eff T db w=(gd c).head? ->cT s ts0 w=some c->(∀c,cT s ts0 w=some c->Mz s cur c)/\∃rows',(match cT s ts0 w with|some c=>fU s cur c|none=>cur)=cur.set t rows'/\StB s (cur.set t rows')/\∀key,cE T key rows'=if key=w.au then eff T db w else cE T key rows:=by
  intro c e1 e2 e3 e4 e5;have hf:Mz s cur c:=⟨t,T,rows,e1.trans ht,hT,hc,e2⟩;have e6:=nI (e1.trans ht) hT hc;have hb':=hb.fU hf;rw[e6] at hb';refine ⟨fun c' hc'=>(by rw[e5] at hc';cases hc';exact hf),_,(by rw[e5];exact e6),hb',fun key=> ?_⟩
  rw[ZX r2 (O4 e2),e3,e4]
 cases hgk:cE T w.au db with
 |none=>
  have h1:w.fOp=1:=by
   rcases hop with h|⟨r,h,_⟩
   ·exact h.2
   ·rw[hgk] at h;cases h
  obtain ⟨a,b⟩:=xl hok h1;have hne:=tg htb a;have ek:dN T (aB.mk w.aq [] w.aR)=w.au:=by simp only[dN,if_true];exact b
  refine fits (aB.mk w.aq [] w.aR) rfl ⟨.inr ⟨a,by rw[ek];exact b⟩,.inl ⟨rfl,hne,fun r hr=> ?_⟩⟩ ek ?_ ?_
  ·rw[ek];exact jd.1 (hg.trans hgk) r hr
  ·simp only[eff,hgk,gd,hne,if_false];rfl
  ·simp only[cT,hTi,h0i,hgk]
 |some r=>
  have hop':w.fOp=2\/w.fOp=3:=by
   rcases hop with h|⟨r',h,h'⟩
   ·rw[hgk] at h;cases h.1
   ·exact h'
  have hgr:=hg.trans hgk;have jV:=jm hgr;have kj:=kG hgr;have hrk:=r1 r jV;have uA:=tg htb hrk;by_cases h2:w.fOp=2
  ·obtain ⟨a,b⟩:=NW htb hok h2 hrk;have hne:=tg htb a;by_cases h3:bL r (cH r w.ak w.aR)=0
   ·have e:=iO h3;have ec:cT s ts0 w=none:=by simp only[cT,hTi,h0i,hgk,h2,if_true,h3]
    have uM:cur.set t rows=cur:=by
     obtain ⟨q1,q2⟩:=List.getElem?_eq_some_iff.1 hc;rw[<-q2];exact List.set_getElem_self q1
    refine ⟨fun c hc'=>(by rw[ec] at hc';cases hc'),rows,by rw[ec,uM],by rw[uM];exact hb,fun key=> ?_⟩
    split
    ·rename_i ek;rw[ek,hgr];simp only[eff,hgk,h2,if_true];rw[<-e]
    ·rfl
   ·have ek:dN T (aB.mk w.aq r (cH r w.ak w.aR))=w.au:=by simp only[dN,uA,if_false];exact kj
    refine fits _ rfl ⟨.inr ⟨a,by rw[ek];exact b.trans kj⟩,.inr ⟨uA,jV⟩⟩ ek ?_ ?_
    ·simp only[eff,hgk,h2,if_true,gd,hne,if_false];rfl
    ·simp only[cT,hTi,h0i,hgk,h2,if_true,h3,if_false]
  ·have ek:dN T (aB.mk w.aq r [])=w.au:=by simp only[dN,uA,if_false];exact kj
   refine fits (aB.mk w.aq r []) rfl ⟨.inl rfl,.inr ⟨uA,jV⟩⟩ ek ?_ ?_
   ·simp only[eff,hgk,h2,if_false,gd,if_true];rfl
   ·simp only[cT,hTi,h0i,hgk,h2,if_false]
theorem writes (hs:SOK s):∀(ws:Wq3) (cur:cU),StB s cur->ws.Pairwise wlt->(∀w∈ws,Acc s ts0 w)->(∀w∈ws,∀(t:Nat) T db rows,w.aq=(t:Int)->s.ag[t]? =some T->ts0[t]? =some db->cur[t]? =some rows->cE T w.au rows=cE T w.au db)->
  MJ s cur (ws.filterMap (cT s ts0))/\StB s ((ws.filterMap (cT s ts0)).foldl (fU s) cur)/\
  (∀w∈ws,∀(t:Nat) T db kP,w.aq=(t:Int)->s.ag[t]? =some T->ts0[t]? =some db->((ws.filterMap (cT s ts0)).foldl (fU s) cur)[t]? =some kP->cE T w.au kP=eff T db w)/\
  (∀(t:Nat) T rows kP key,s.ag[t]? =some T->cur[t]? =some rows->((ws.filterMap (cT s ts0)).foldl (fU s) cur)[t]? =some kP->(∀w∈ws,w.aq=(t:Int)->w.au≠key)->cE T key kP=cE T key rows)
 | [],cur,hb,_,_,_=>⟨trivial,hb,fun _ h=>by simp at h,fun t T rows kP key _ h1 h2 _=>by
   have h2:cur[t]? =some kP:=h2;rw[h1] at h2;cases h2;rfl⟩
 |w::ws,cur,hb,hp,ha,hg=>by
  obtain ⟨p1,p2⟩:=List.pairwise_cons.1 hp;obtain ⟨t,T,db,ht,hT,h0,hok,hop⟩:=ha w (by simp)
  have hlt:t<cur.length:=by rw[hb.len];exact (List.getElem?_eq_some_iff.1 hT).1
  have hc:cur[t]? =some cur[t]:=List.getElem?_eq_getElem hlt;obtain ⟨s1,rows',s2,s3,s4⟩:=aaS hs hb ht hT h0 hc (hg w (by simp) t T db _ ht hT h0 hc) hok hop
  have get':∀{u:Nat} {rs:Wq9},(cur.set t rows')[u]? =some rs->(u=t/\rs=rows')\/(u≠t/\cur[u]? =some rs):=by
   intro u rs h;by_cases e:u=t
   ·subst e;rw[List.getElem?_set_self hlt] at h;cases h;exact .inl ⟨rfl,rfl⟩
   ·rw[List.getElem?_set_ne (fun e'=>e e'.symm)] at h;exact .inr ⟨e,h⟩
  obtain ⟨i1,i2,i3,i4⟩:=writes hs ws (cur.set t rows') s3 p2 (fun v hv=>ha v (by simp[hv])) fun v hv u U qp rs hu hU h0' hrs=>by
   rcases get' hrs with ⟨rfl,rfl⟩|⟨hne,hrs⟩
   ·rw[hT] at hU;cases hU;rw[s4,if_neg (fun e=>Ia (p1 v hv) (ht.trans hu.symm) e.symm)]
    exact hg v (by simp[hv]) u T qp _ hu hT h0' hc
   ·exact hg v (by simp[hv]) u U qp rs hu hU h0' hrs
  have RJ:((w::ws).filterMap (cT s ts0)).foldl (fU s) cur=(ws.filterMap (cT s ts0)).foldl (fU s) (cur.set t rows'):=by
   rw[List.filterMap_cons,<-s2];cases cT s ts0 w<;>rfl
  have hcs:MJ s cur ((w::ws).filterMap (cT s ts0)):=by
   rw[List.filterMap_cons];cases hch:cT s ts0 w with
   |none=>rw[hch] at s2;have s2:cur=cur.set t rows':=s2;simp only;rw[s2];exact i1
   |some c=>rw[hch] at s2;have s2:fU s cur c=cur.set t rows':=s2;exact ⟨s1 c hch,by rw[s2];exact i1⟩
  rw[RJ];have hltF:t<((ws.filterMap (cT s ts0)).foldl (fU s) (cur.set t rows')).length:=by rw[i2.len];exact (List.getElem?_eq_some_iff.1 hT).1
  refine ⟨hcs,i2,fun v hv u U qp kP hu hU h0' hF=> ?_,fun u U rs kP key hU hrs hF hk=> ?_⟩
  ·rcases List.mem_cons.1 hv with rfl|hv
   ·have e:u=t:=by omega
    subst e;rw[hT] at hU;cases hU;rw[h0] at h0';cases h0';rw[i4 u T rows' kP v.au hT (List.getElem?_set_self hlt) hF fun x hx hxt hxk=>Ia (p1 x hx) (ht.trans hxt.symm) hxk.symm,s4,if_pos rfl]
   ·exact i3 v hv u U qp kP hu hU h0' hF
  ·have hk':∀x∈ws,x.aq=(u:Int)->x.au≠key:=fun x hx=>hk x (by simp[hx])
   by_cases e:u=t
   ·subst e;rw[hT] at hU;cases hU;rw[hc] at hrs;cases hrs;rw[i4 u T rows' kP key hT (List.getElem?_set_self hlt) hF hk',s4,if_neg (fun e=>hk w (by simp) ht e.symm)]
   ·exact i4 u U rs kP key hU (by rw[List.getElem?_set_ne (fun e'=>e e'.symm)];exact hrs) hF hk'
end
end
section
def kV (md key:Int) (i:Nat) (k:Int) (v:aH):Bool:=fa v&&decide (v.aw=k\/(¬(i:Int)<key/\((v.aw=2/\md≠1)\/(v.aw=1/\md=3))))
def bW (md key:Int):Nat->Wq0->Wq2->Bool
 |_,[],[]=>true
 |i,k::ks,v::vs=>kV md key i k v&&bW md key (i+1) ks vs
 |_,_,_=>false
section
variable {md key:Int}
theorem tX:∀{i:Nat} {ks:Wq0} {vs:Wq2},bW md key i ks vs=true->vs.length=ks.length
 |_,[],[],_=>rfl
 |_,k::ks,v::vs,h=>by simp[bW] at h;simp[tX h.2]
 |_,[],_::_,h=>by simp[bW] at h
 |_,_::_,[],h=>by simp[bW] at h
theorem aey {i:Nat} {ks:Wq0} {r:Wq2} (h:¬r.length=ks.length):bW md key i ks r=false:=by
 cases hr:bW md key i ks r with
 |false=>rfl
 |true=>exact absurd (tX hr) h
theorem E6:∀{i:Nat} {ks:Wq0} {vs:Wq2} {k:Int} {v:aH},bW md key i ks vs=true->kV md key (i+ks.length) k v=true->bW md key i (ks++ [k]) (vs++ [v])=true
 |i,[],[],k,v,_,h1=>by simpa[bW] using h1
 |i,k'::ks,v'::vs,k,v,h,h1=>by
  simp only[bW,Bool.and_eq_true] at h;simp only[List.cons_append,bW,Bool.and_eq_true];exact ⟨h.1,E6 h.2 (by rw[show i+1+ks.length=i+(k'::ks).length by simp;omega];exact h1)⟩
 |_,[],_::_,_,_,h,_=>by simp[bW] at h
 |_,_::_,[],_,_,h,_=>by simp[bW] at h
theorem wS {i:Nat} {k:Int} {v:aH} (h1:v.aw=k) (h2:fV v=true):kV md key i k v=true:=by
 unfold fV at h2;rw[Bool.and_eq_true] at h2;unfold kV;rw[Bool.and_eq_true];exact ⟨h2.1,by simp[h1]⟩
theorem DE:∀{i:Nat} {ks:Wq0} {vs:Wq2},bg ks vs=true->bW md key i ks vs=true
 |_,[],[],_=>rfl
 |i,k::ks,v::vs,h=>by
  simp only[bg,Bool.and_eq_true,beq_iff_eq] at h;simp only[bW,Bool.and_eq_true];exact ⟨wS h.1.2 h.1.1,DE h.2⟩
 |_,[],_::_,h=>by simp[bg] at h
 |_,_::_,[],h=>by simp[bg] at h
theorem zu:∀{i:Nat} {ks:Wq0} {vs:Wq2},dY ks=true->bW 1 key i ks vs=bg ks vs
 |_,[],[],_=>rfl
 |i,k::ks,v::vs,h=>by
  have h1:kOK k=true:=l4 h (i:=0) rfl;have h2:dY ks=true:=vZ h 1;simp only[bW,bg,zu (i:=i+1) (vs:=vs) h2];have e:kV 1 key i k v=(fV v&&v.aw==k):=by
   unfold kV;by_cases he:v.aw=k
   ·rw[zN h1 he];simp[he]
   ·have e1:(v.aw==k)=false:=by simpa using he
    simp[he,e1]
  rw[e]
 |_,[],_::_,h=>rfl
 |_,_::_,[],h=>rfl
theorem JL:∀{i:Nat} {ks:Wq0} {r:Wq2} {j:Nat} {v:aH} {k:Int},bW md key i ks r=true->ks[j]? =some k->fV v=true->v.aw=k->bW md key i ks (r.set j v)=true
 |i,k::ks,w::r,0,v,k',h,hk,h1,h2=>by
  simp only[bW,Bool.and_eq_true] at h;simp at hk;subst hk;simp only[List.set_cons_zero,bW,Bool.and_eq_true];exact ⟨wS h2 h1,h.2⟩
 |i,k::ks,w::r,j+1,v,k',h,hk,h1,h2=>by
  simp only[bW,Bool.and_eq_true] at h;simp only[List.set_cons_succ,bW,Bool.and_eq_true];exact ⟨h.1,JL h.2 (by simpa using hk) h1 h2⟩
 |_,[],[],_,_,_,_,hk,_,_=>by simp at hk
 |_,[],_::_,_,_,_,h,_,_,_=>by simp[bW] at h
 |_,_::_,[],_,_,_,h,_,_,_=>by simp[bW] at h
theorem JM:∀{i:Nat} {ks:Wq0} {r:Wq2} {n:Nat},dY ks=true->bW md key i ks r=true->((i+n:Nat):Int)<=key->bg (ks.take n) (r.take n)=true
 |_,_,_,0,_,_,_=>by simp[bg]
 |_,[],[],n+1,_,_,_=>rfl
 |i,k::ks,v::r,n+1,h0,h,hk=>by
  simp only[bW,Bool.and_eq_true] at h;simp only[List.take_succ_cons,bg,Bool.and_eq_true];have h1:kOK k=true:=l4 h0 (i:=0) rfl;have hlt:(i:Int)<key:=by omega
  have hc:=h.1;unfold kV at hc;simp only[Bool.and_eq_true,decide_eq_true_eq] at hc;have he:v.aw=k:=hc.2.resolve_right fun q=>q.1 hlt
  exact ⟨⟨by rw[zN h1 he];exact hc.1,by simp[he]⟩,JM (vZ h0 1) h.2 (by omega)⟩
 |_,[],_::_,_+1,_,h,_=>by simp[bW] at h
 |_,_::_,[],_+1,_,h,_=>by simp[bW] at h
end
theorem adY (n0:Nat) (md:Int) (T:ay) (r:Wq2) (hr:r.length=T.ak.length) (hl:r.length<4294967296):∀(x:Wq2) (i m:Nat),r.drop i=x->i<=r.length->x.length<m->lR (pQ n0) m md r (r.length:Int) (i:Int) T=some (bW md T.au i ((aW T).drop i) (r.drop i))
 | [],i,m+1,hd,h1,hm=>by
  have hq':r.length<=i:=by simpa using hd
  have hq:¬((i:Int)<(r.length:Int)):=by omega
  simp only[lR,yG,pQ,hq,decide_false,Bool.false_eq_true,if_false];rw[hd,List.drop_of_length_le (by rw[cR];omega)]
  rfl
 |x::xs,i,m+1,hd,h1,hm=>by
  obtain ⟨g1,g2,g3⟩:=aX hd;have hq:(i:Int)<(r.length:Int):=by omega
  have hlt:i<T.ak.length:=by omega
  have hc:T.ak[i]? =some T.ak[i]:=List.getElem?_eq_getElem hlt;have hk:=y8 hc;generalize T.ak[i]=c at hc hk;have ih:=adY n0 md T r hr hl xs (i+1) m g2 (by omega) (by simp at hm;omega)
  rw[g2] at ih;have key:∀b:Bool,su (lR (pQ n0) m) m md (i:Int) b r (r.length:Int) (i:Int) T x=if x.aw=c.aw\/b=true\/(¬(i:Int)<T.au/\x.aw=1/\md=3) then some (bW md T.au (i+1) ((aW T).drop (i+1)) xs) else some false:=by
   intro b;unfold su yH;simp only[aM,hc,Option.bind_some,bz g3 hl,ih];by_cases he:x.aw=c.aw
   ·simp[he]
   ·by_cases e1:x.aw=1
    ·by_cases m3:md=3
     ·by_cases hk:(i:Int)<T.au<;>cases b<;>simp[he,e1,m3,hk]<;>(intro hh;exact absurd (e1.trans hh) he)
     ·cases b<;>simp[he,e1,m3]<;>(intro hh;exact absurd (e1.trans hh) he)
    ·cases b<;>simp[he,e1]
  simp only[lR,yG,hq,decide_true,if_true,aM,g1,Option.bind_some,EO,key];rw[hd,hk];simp only[bW,kV];cases hv:fa x with
  |false=>simp
  |true=>
   simp only[Bool.not_true,Bool.false_eq_true,if_false,Bool.true_and];by_cases he:x.aw=c.aw
   ·by_cases h2:x.aw=2
    ·by_cases m1:md=1<;>simp[he,h2,m1]
    ·by_cases h1:x.aw=1<;>simp[he,h1,h2]
   ·by_cases h2:x.aw=2
    ·have f2:¬(2:Int)=c.aw:=fun h=>he (h2.trans h)
     by_cases m1:md=1
     ·subst m1;simp[he,h2,f2]
     ·by_cases hk:(i:Int)<T.au<;>simp[he,h2,m1,hk,f2]
    ·by_cases h1:x.aw=1
     ·have f1:¬(1:Int)=c.aw:=fun h=>he (h1.trans h)
      by_cases m3:md=3<;>by_cases hk:(i:Int)<T.au<;>simp[he,h1,m3,hk,f1]
     ·simp[he,h1,h2]
 |_,_,0,_,_,hm=>by simp at hm
section
variable {s:af} {t md:Int} {T:ay} {n:Nat}
def Aj (md:Int):Prop:=md=1\/md=2\/md=3
theorem alX (hm:Aj md) (hT:idx s.ag t=some T) (ht:bZ T) (r:Wq2) (hn:1000<n):F70 n s t r md=some (bW md T.au 0 (aW T) r):=by
 have hc:=ht.aG;have hl:=cR T;have e0:F70 n s t r md=ss n t r md false s:=by
  rcases hm with rfl|rfl|rfl<;>simp[F70,Hb,w9 hT]
 rw[e0];simp only[ss,Bool.false_eq_true,if_false,hT,Option.bind_some];by_cases h:r.length=T.ak.length
 ·have e:((r.length:Int) !=(T.ak.length:Int))=false:=by simp[h]
  rw[e];simp only[Bool.false_eq_true,if_false];have:=adY n md T r h (by omega) r 0 n rfl (by omega) (by omega)
  simp only[List.drop_zero] at this;exact this
 ·have e:((r.length:Int) !=(T.ak.length:Int))=true:=by simp;omega
  rw[e,aey (by omega)]
  rfl
end
theorem ZN {md key k:Int} {i:Nat} (h1:md≠1) (h2:¬(i:Int)<key):kV md key i k ⟨2,0,ByteArray.empty⟩=true:=by
 have:fa ⟨2,0,ByteArray.empty⟩=true:=by simp[fa]
 simp[kV,this,h1,h2]
theorem Za {md key k:Int} {i:Nat} (h1:md=3) (h2:¬(i:Int)<key):kV md key i k ⟨1,0,ByteArray.empty⟩=true:=by
 have:fa ⟨1,0,ByteArray.empty⟩=true:=by simp[fa]
 simp[kV,this,h1,h2]
theorem adZ (md:Int) (ks:Wq0) (hk:dY ks=true) (hl:ks.length<=100) (key:Int) (n0:Nat):∀(xs:Wq0) (i m:Nat) (out:Wq2) (c:aj),ks.drop i=xs->300+xs.length<m->aZ c->bW md key 0 (ks.take i) out=true->
  Ok (lS (pR n0) m key md ks (ks.length:Int) (i:Int) c out) fun r=>aZ r.2/\bW md key 0 ks r.1=true
 | [],i,m+1,out,c,hd,hm,hc,ho=>by
  have:ks.length<=i:=by simpa using hd
  have hq:¬((i:Int)<(ks.length:Int)):=by omega
  simp only[lS,yK,pR,hq,decide_false,Bool.false_eq_true,if_false];exact Ok.pure ⟨hc,by rwa[List.take_of_length_le this] at ho⟩
 |x::xs,i,m+1,out,c,hd,hm,hc,ho=>by
  obtain ⟨g1,g2,g3⟩:=aX hd;have hq:((i:Int)<(ks.length:Int)):=by omega
  have hx:=l4 hk g1;have hkr:=ov hx;have hlen:=tX ho;rw[List.length_take] at hlen;have htl:(ks.take i).length=i:=by rw[List.length_take];omega
  simp only[lS,yK,hq,decide_true,if_true,aM,g1,Option.bind_some];simp at hm;have next:∀v c',aZ c'->kV md key i x v=true->Ok (lT (lS (pR n0) m) m key md ks (ks.length:Int) (i:Int) c' (out++ [v])) fun r=>aZ r.2/\bW md key 0 ks r.1=true:=by
   intro v c' hc' hv;unfold lT;rw[bz g3 (by omega)]
   refine adZ md ks hk hl key n0 xs (i+1) m _ _ g2 (by omega) hc' ?_
   rw[List.take_succ,g1];exact E6 ho (by rw[htl,Nat.zero_add];exact hv)
  have cell:∀c' b,aZ c'->(b=true->md=3/\¬(i:Int)<key)->Ok (od (lT (lS (pR n0) m) m) m key md x ks (ks.length:Int) (i:Int) b c' out) fun r=>aZ r.2/\bW md key 0 ks r.1=true:=by
   intro c' b hc' hb;unfold od;refine Ok.ite (fun h=> ?_) fun _=> ?_
   ·rw[cV _ _ (by simp;omega),Option.bind_some]
    exact next _ _ hc' (Za (hb h).1 (hb h).2)
   ·refine Ok.bind (Cg m (by omega) c' x hc' hkr.1 hkr.2) fun r ⟨hr,r1,r2⟩=> ?_
    rw[cV _ _ (by simp;omega),Option.bind_some]
    exact next _ _ hr (wS r1 r2)
  refine Ok.ite (fun hge=> ?_) fun _=>cell _ _ hc (fun h=>by cases h)
  have hge:¬(i:Int)<key:=by simpa using hge
  refine Ok.ite (fun h1=> ?_) fun _=> ?_
  ·have h1:md≠1:=by simpa using h1
   refine Ok.bind (jj m c 5 hc) fun b hb=> ?_
   refine Ok.ite (fun _=> ?_) fun _=> ?_
   ·rw[cV _ _ (by simp;omega),Option.bind_some]
    exact next _ _ hb (ZN h1 hge)
   ·refine Ok.ite (fun h3=> ?_) fun _=>cell _ _ hb (fun h=>by cases h)
    refine Ok.bind (jj m b.2 5 hb) fun d hd=> ?_
    exact cell _ _ hd fun _=>⟨by simpa using h3,hge⟩
  ·refine Ok.ite (fun h3=> ?_) fun _=>cell _ _ hc (fun h=>by cases h)
   refine Ok.bind (jj m c 5 hc) fun d hd=> ?_
   exact cell _ _ hd fun _=>⟨by simpa using h3,hge⟩
 |_,_,0,_,_,_,hm,_,_=>by simp at hm
theorem alZ (n:Nat) (md:Int) (hn:1000<=n) (c:aj) (ks:Wq0) (key:Int) (hk:dY ks=true) (hl:ks.length<=100) (hc:aZ c):Ok (F33 n c ks key md) fun r=>aZ r.2/\bW md key 0 ks r.1=true:=
 adZ md ks hk hl key n ks 0 n [] c rfl (by omega) hc rfl
end
section
theorem hZ {md key:Int} {T:ay} {r:Wq2} (h:bW md key 0 (aW T) r=true):r.length=T.ak.length:=by rw[tX h,cR]
def kO (md:Int) (T:ay):Option Wq2->Wq9->Bool
 |_,[]=>true
 |p,r::rs=>bW md T.au 0 (aW T) r&&(behind T p r&&kO md T (some r) rs)
def lF (md:Int):Wq1->aF->Bool
 |T::Ts,rs::rss=>kO md T none rs&&lF md Ts rss
 |_,_=>true
def j0 (md:Int) (s:af) (e:Int) (ts:aF):Int:=
 if e=0 then (if 512<total ts then 2 else if ts.length=s.ag.length then (if lF md s.ag ts then 0 else 80) else 80) else e
variable {s:af} {t n:Nat} {T:ay} {md:Int}
theorem alY (hmd:Aj md) {e:Int} (he:F38 n s=some e):F69 n s md=some e:=by
 unfold F69 Hc;rw[he,Option.bind_some];rcases hmd with rfl|rfl|rfl<;>simp<;>omega
theorem Pg (hmd:Aj md) (hT:idx s.ag (t:Int)=some T) (ht:bZ T) (rows:Wq9) (hl:rows.length<=2000000) (k:Int->aF->Int->Int->af->Option Int) (a:aF) (a1 a2:Int):
  ∀(x:Wq9) (i m:Nat),rows.drop i=x->x.length+1100<m->(i=0\/∃q,rows[i-1]? =some q/\q.length=T.ak.length)->
   pN k m md (t:Int) rows a a1 a2 rows (rows.length:Int) (i:Int) s=if kO md T (if i=0 then none else rows[i-1]?) x then k md a a1 a2 s else some 80
 | [],i,m+1,hd,hm,_=>by
  have hq':rows.length<=i:=by simpa using hd
  have hq:¬((i:Int)<(rows.length:Int)):=by omega
  simp only[pN,yN,hq,decide_false,Bool.false_eq_true,if_false,kO,if_true]
 |r::x,i,m+1,hd,hm,hp=>by
  obtain ⟨g1,g2,g3⟩:=aX hd;have hq:(i:Int)<(rows.length:Int):=by omega
  simp at hm;simp only[pN,yN,hq,decide_true,if_true,aM,g1,Option.bind_some,alX hmd hT ht r (by omega:1000<m),kO]
  rcases Bool.eq_false_or_eq_true (bW md T.au 0 (aW T) r) with hr|hr
  rotate_left
  ·simp[hr]
  ·have hc:=hZ hr;have h8:=ht.aG;have ih:=Pg hmd hT ht rows hl k a a1 a2 x (i+1) m g2 (by omega) (.inr ⟨r,by rw[Nat.add_sub_cancel];exact g1,hc⟩)
   rw[if_neg (by omega:¬i+1=0),Nat.add_sub_cancel,g1] at ih
   simp only[hr,Bool.not_true,Bool.false_eq_true,if_false,Bool.true_and,bz g3 (by omega:rows.length<4294967296),ih]
   by_cases h0:i=0
   ·subst h0;simp[behind]
   ·obtain ⟨q,hg,hql⟩:=hp.resolve_left h0;have h0':0<(i:Int):=by omega
    have hw:w64 ((i:Int)-1)=((i-1:Nat):Int):=by rw[bS (by omega) (by omega)];omega
    simp only[h0',decide_true,if_true,hw,aM,hg,Option.bind_some,h0,if_false,lB hT ht q hql,lB hT ht r hc,lC m (q.take T.au.toNat) (r.take T.au.toNat) (by simp;omega) (by simp;omega),behind]
    by_cases h5:bL (q.take T.au.toNat) (r.take T.au.toNat)<0
    ·simp[h5]
    ·simp[h5]
 |_,_,0,_,hm,_=>by simp at hm
theorem Pf (hmd:Aj md) (hs:SOK s) (n0:Nat) (ts:aF) (hlen:ts.length=s.ag.length) (hl:total ts<=512):
  ∀(x:aF) (i m:Nat),ts.drop i=x->x.length+2000<m->
   m5 (sw n0) m md ts (ts.length:Int) (i:Int) s=some (if lF md (s.ag.drop i) x then 0 else 80)
 | [],i,m+1,hd,hm=>by
  have hq':ts.length<=i:=by simpa using hd
  have hq:¬((i:Int)<(ts.length:Int)):=by omega
  simp only[m5,yL,sw,hq,decide_false,Bool.false_eq_true,if_false];cases s.ag.drop i<;>simp[lF]
 |rs::x,i,m+1,hd,hm=>by
  obtain ⟨g1,g2,g3⟩:=aX hd;have hq:(i:Int)<(ts.length:Int):=by omega
  have h8:=hs.len;have hrs:=jE (List.mem_of_getElem? g1);simp at hm;have hi:i<s.ag.length:=by omega
  have hT:idx s.ag (i:Int)=some (s.ag[i]):=by rw[aM];exact List.getElem?_eq_getElem _
  have ih:=Pf hmd hs n0 ts hlen hl x (i+1) m g2 (by omega)
  simp only[m5,yL,hq,decide_true,if_true,aM,g1,Option.bind_some];have e:=Pg hmd hT (hs.tab _ _ hT) rs (by omega) (yM (m5 (sw n0) m) m) ts (ts.length:Int) (i:Int) rs 0 m rfl (by omega) (.inl rfl)
  rw[if_pos rfl,show ((0:Nat):Int)=0 from rfl] at e;rw[e,List.drop_eq_getElem_cons hi];simp only[yM,bz g3 (by omega:ts.length<4294967296),ih,lF]
  rcases Bool.eq_false_or_eq_true (kO md s.ag[i] none rs) with hb|hb<;>simp[hb]
 |_,_,0,_,hm=>by simp at hm
theorem aea (hmd:Aj md) (n:Nat) (s:af) (e:Int) (he:F38 n s=some e) (hs:e=0->SOK s) (st:ah) (hl:st.ag.length+total st.ag<=2000000) (hn:2000100<=n):F28 n s md st=some (j0 md s e st.ag):=by
 unfold F28 HF j0;rw[alY hmd he,Option.bind_some];by_cases h0:e=0
 ·subst h0;have h57:=w5 (sv n) st.ag hl st.ag 0 n 0 rfl (by omega) (by omega)
  simp only[bne_self_eq_false,Bool.false_eq_true,if_false,if_true,Option.bind_some,F57,yI,show ((0:Nat):Int)=0 from rfl,Nat.zero_add] at h57 ⊢;rw[h57];simp only[sv,Option.bind_some];by_cases h1:512<total st.ag
  ·have h1':(512:Int)<(total st.ag:Int):=by omega
   simp only[h1,h1',decide_true,if_true]
  ·have h1':¬(512:Int)<(total st.ag:Int):=by omega
   simp only[h1,h1',decide_false,Bool.false_eq_true,if_false];by_cases h2:st.ag.length=s.ag.length
   ·have h2':((st.ag.length:Int) !=(s.ag.length:Int))=false:=by simp[h2]
    rw[h2',if_pos h2,if_neg (by simp)]
    have h8:=(hs rfl).len;have:=Pf hmd (hs rfl) n st.ag h2 (by omega) st.ag 0 n rfl (by omega)
    rw[List.drop_zero,show ((0:Nat):Int)=0 from rfl] at this;exact this
   ·have h2':((st.ag.length:Int) !=(s.ag.length:Int))=true:=by simp;omega
    simp only[h2',if_true,h2,if_false]
 ·have:(e !=0)=true:=by simpa using h0
  simp[this,h0]
end
section
def fO (T:ay) (key row:Wq2):Bool->Wq9->Wq9
 |done,[]=>if done=true then [] else [row]
 |done,r::x=>if bL (kOf T r) key<0 then r::fO T key row done x else (if done=true then [] else [row])++(if bL (kOf T r) key=0 then [] else [r])++fO T key row true x
section
variable {s:af} {t n:Nat} {T:ay} {md:Int} {ts:cU} {rows:Wq9} {key row:Wq2}
theorem OB:∀{x:Wq9},(∀y∈x,lt key (kOf T y))->fO T key row true x=x
 | [],_=>rfl
 |r::x,h=>by
  have h1:=h r (by simp)
  have h2:¬bL (kOf T r) key<0:=fun h=>lt_asymm h1 (eQ.1 h)
  have h3:¬bL (kOf T r) key=0:=fun e=>by rw[iO e] at h1;exact lt_irrefl _ h1
  have ih:=OB (x:=x) fun y hy=>h y (by simp[hy])
  simp only[fO,h2,h3,if_false,if_true,List.nil_append,List.singleton_append,ih]
theorem OC:∀{done:Bool} {x:Wq9},Ord T x->fO T key row done x=cc T key (if done=true then [] else [row]) x
 |done,[],_=>by simp[fO,cc]
 |done,r::x,h=>by
  obtain ⟨h1,h2⟩:=List.pairwise_cons.1 h;by_cases hl:bL (kOf T r) key<0
  ·have hl':=eQ.1 hl;have e1:decide (lt (kOf T r) key)=true:=by simpa using hl'
   have e2:decide (lt key (kOf T r))=false:=by simpa using lt_asymm hl'
   have ih:=OC (done:=done) h2;simp only[fO,hl,if_true,ih,cc,List.filter_cons,e1,e2,Bool.false_eq_true,if_false,List.cons_append]
  ·have hl':¬lt (kOf T r) key:=fun h=>hl (eQ.2 h)
   have gt:∀y∈x,lt key (kOf T y):=fun y hy=>by
    rcases tq (kOf T r) key with h|h|h
    ·exact absurd h hl'
    ·rw[<-h];exact h1 y hy
    ·exact lt_trans h (h1 y hy)
   have e1:decide (lt (kOf T r) key)=false:=by simpa using hl'
   have e3:x.filter (fun r=>decide (lt (kOf T r) key))= []:=filter_none fun y hy=>by simpa using lt_asymm (gt y hy)
   have e4:x.filter (fun r=>decide (lt key (kOf T r)))=x:=filter_all fun y hy=>by simpa using gt y hy
   simp only[fO,hl,if_false,OB gt,cc,List.filter_cons,e1,e3,e4,Bool.false_eq_true,List.nil_append];by_cases h0:bL (kOf T r) key=0
   ·have e5:decide (lt key (kOf T r))=false:=by
     rw[iO h0];simpa using lt_irrefl key
    simp only[h0,if_true,e5,Bool.false_eq_true,if_false,List.append_nil]
   ·have e5:decide (lt key (kOf T r))=true:=by
     rcases tq (kOf T r) key with h|h|h
     ·exact absurd h hl'
     ·exact absurd (sE.2 h) h0
     ·simpa using h
    simp only[h0,if_false,e5,if_true,List.append_assoc,List.singleton_append]
theorem EI (n0:Nat) (hT:s.ag[t]? =some T) (ht:bZ T) (hkl:key.length<=100) (eV:row.length<=100) (hr:∀r∈rows,r.length=T.ak.length) (hrs:rows.length<=1000) (hts:t<ts.length):∀(x:Wq9) (i m:Nat) (done:Bool) (out:Wq9) (z1 z2:ah),rows.drop i=x->x.length+1100<m->out.length+2*x.length<=100000->
  vf (CA n0) m (t:Int) key row done rows (rows.length:Int) (i:Int) ts s z1 z2 out=some (⟨ts.set t (out++fO T key row done x)⟩,ts.set t (out++fO T key row done x))
 | [],i,m+1,done,out,z1,z2,hd,hm,ho=>by
  have hq':rows.length<=i:=by simpa using hd
  have hq:¬((i:Int)<(rows.length:Int)):=by omega
  have e1:bnd ts.length (t:Int)=some t:=by unfold bnd;rw[if_pos (by omega)];rfl
  have e2:ts[0+t]? =some ts[t]:=by rw[Nat.zero_add];exact List.getElem?_eq_getElem hts
  have e3:∀o,setAt ts (0+t) o=some (ts.set t o):=fun o=>by rw[Nat.zero_add];unfold setAt;rw[if_pos hts]
  simp only[vf,HC,CA,HB,hq,decide_false,Bool.false_eq_true,if_false,e1,e2,e3,Option.bind_some,Ci (n:=n0) row (by omega),fO]
  cases done with
  |true=>simp
  |false=>
   simp only[Bool.not_false,if_true,Bool.false_eq_true,if_false];rw[cV _ _ (by simp at ho ⊢;omega),Option.bind_some]
 |r::x,i,m+1,done,out,z1,z2,hd,hm,ho=>by
  obtain ⟨g1,g2,g3⟩:=aX hd;have hq:(i:Int)<(rows.length:Int):=by omega
  have hrl:=hr r (List.mem_of_getElem? g1);have hcl:=ht.aG;have hk2:=ht.cr;simp at hm ho;have hTi:idx s.ag (t:Int)=some T:=by rw[aM];exact hT
  have step:∀(dn:Bool) (c:Int) (J9:Wq9),J9.length<=out.length+1->yJ (vf (CA n0) m) m (t:Int) key row dn r c rows (rows.length:Int) (i:Int) ts s ⟨ts⟩ ⟨[]⟩ J9=some (⟨ts.set t (J9++(if c=0 then [] else [r])++fO T key row dn x)⟩,ts.set t (J9++(if c=0 then [] else [r])++fO T key row dn x)):=by
   intro dn c J9 h1;unfold yJ;rw[bz g3 (by omega)]
   by_cases hc:c=0
   ·subst hc;simp only[bne_self_eq_false,Bool.false_eq_true,if_false,if_true,List.append_nil];exact EI n0 hT ht hkl eV hr hrs hts x (i+1) m dn _ _ _ g2 (by omega) (by omega)
   ·have hc':(c !=0)=true:=by simpa using hc
    simp only[hc',if_true,hc,if_false];rw[cV _ _ (by simp;omega),Option.bind_some]
    exact EI n0 hT ht hkl eV hr hrs hts x (i+1) m dn _ _ _ g2 (by omega) (by simp;omega)
  simp only[vf,HC,hq,decide_true,if_true,aM,g1,Option.bind_some,Cj (n:=m) hTi ht r hrl,Ck m (r.take T.au.toNat) key (by simp;omega) (by simp;omega),Ci (n:=m) row (by omega),fO]
  by_cases hl:bL (kOf T r) key<0
  ·have h0:¬bL (kOf T r) key=0:=by omega
   simp only[hl,decide_true,Bool.not_true,Bool.false_eq_true,if_false,if_true];rw[step done _ out (by omega)]
   simp only[h0,if_false,List.append_assoc,List.singleton_append]
  ·simp only[hl,decide_false,Bool.not_false,if_true,if_false];cases done with
   |true=>
    simp only[Bool.not_true,Bool.false_eq_true,if_false,if_true,List.nil_append];rw[step true _ out (by omega)]
    simp only[List.append_assoc]
   |false=>
    simp only[Bool.not_false,if_true,Bool.false_eq_true,if_false];rw[cV _ _ (by simp;omega),Option.bind_some,step true _ _ (by simp)]
    simp only[List.append_assoc]
 |_,_,0,_,_,_,_,_,hm,_=>by simp at hm
def qw (row:Wq2):Wq9:=if row= [] then [] else [row]
theorem afr (hT:s.ag[t]? =some T) (ht:bZ T) (hkl:key.length<=100) (eV:row.length<=100) (du:ts[t]? =some rows) (hr:∀r∈rows,r.length=T.ak.length) (hrs:rows.length<=1000) (hO:Ord T rows) (hn:3000<n):
  F37 n s ⟨ts⟩ (t:Int) key row=some (⟨ts.set t (cc T key (qw row) rows)⟩,ts.set t (cc T key (qw row) rows)):=by
 have hts:t<ts.length:=(List.getElem?_eq_some_iff.1 du).1;have e1:bnd ts.length (t:Int)=some t:=by unfold bnd;rw[if_pos (by omega)];rfl
 unfold F37 Th;simp only[e1,Option.bind_some,Nat.zero_add,du];have h:=EI (key:=key) n hT ht hkl eV hr hrs hts rows 0 n ((row.length:Int)==0) [] ⟨ts⟩ ⟨[]⟩ rfl (by omega) (by simp;omega)
 rw[show ((0:Nat):Int)=0 from rfl,List.nil_append,OC hO] at h;rw[h,D6];have:(if row.isEmpty=true then [] else [row])=qw row:=by unfold qw;cases row<;>simp
 rw[this]
end
structure StM (md:Int) (s:af) (ts:cU):Prop where
 len:ts.length=s.ag.length
 row:∀(t:Nat) T rows,s.ag[t]? =some T->ts[t]? =some rows->(∀r∈rows,bW md T.au 0 (aW T) r=true)/\Ord T rows
structure StG (md:Int) (s:af) (ts:cU):Prop where
 len:ts.length=s.ag.length
 row:∀(t:Nat) T rows,s.ag[t]? =some T->ts[t]? =some rows->rows.length<=8/\∀r∈rows,bW md T.au 0 (aW T) r=true
 ord:∀(t:Nat) T rows,s.ag[t]? =some T->ts[t]? =some rows->Ord T rows
theorem StG.m {md:Int} {s:af} {ts:cU} (h:StG md s ts):StM md s ts:=⟨h.len,fun t T rows hT hr=>⟨(h.row t T rows hT hr).2,h.ord t T rows hT hr⟩⟩
theorem mixM {md key:Int}:∀{i:Nat} {ks:Wq0} {a b:Wq2} (j:Nat),dY ks=true->bW md key i ks a=true->bg ks b=true->((i+j:Nat):Int)<=key->bg ks (a.take j++b.drop j)=true
 |_,_,_,_,0,_,_,h,_=>by simpa using h
 |_,[],[],[],j+1,_,_,_,_=>rfl
 |i,k::ks,v::a,w::b,j+1,h0,h1,h2,hk=>by
  have h3:=JM (n:=1) h0 h1 (by omega)
  simp only[List.take_succ_cons,List.take_zero,bg,Bool.and_eq_true,and_true] at h3;simp only[bW,bg,Bool.and_eq_true] at h1 h2;simp only[List.take_succ_cons,List.drop_succ_cons,List.cons_append,bg,Bool.and_eq_true];exact ⟨h3,mixM j (vZ h0 1) h1.2 h2.2 (by omega)⟩
 |_,[],_::_,_,_+1,_,h,_,_=>by simp[bW] at h
 |_,[],[],_::_,_+1,_,_,h,_=>by simp[bg] at h
 |_,_::_,[],_,_+1,_,h,_,_=>by simp[bW] at h
 |_,_::_,_::_,[],_+1,_,_,h,_=>by simp[bg] at h
theorem Pj (md:Int) (k:Int->Int->Int->aj->af->ah->ah->aF->Option (ah×aj)) (s:af) (t:Nat) (T:ay) (hT:s.ag[t]? =some T) (ht:bZ T) (a1 a2:Int) (Q:ah×aj->Prop):∀(j m:Nat) (c:aj) (z1 z2:ah) (ts:aF) (rows:Wq9),4000+j<m->aZ c->ts[t]? =some rows->rows.length+j<=8->(∀r∈rows,bW md T.au 0 (aW T) r=true)->Ord T rows->
  (∀c' z1' z2' rows',aZ c'->rows'.length<=8->(∀r∈rows',bW md T.au 0 (aW T) r=true)->Ord T rows'->Ok (k md a1 a2 c' s z1' z2' (ts.set t rows')) Q)->
  Ok (yz k m md (t:Int) (j:Int) a1 a2 c s z1 z2 ts) Q
 |0,m+1,c,z1,z2,ts,rows,hm,hc,hg,hl,hr,hO,hk=>by
  have hq:¬(0:Int)<((0:Nat):Int):=by omega
  simp only[yz,H0,hq,decide_false,Bool.false_eq_true,if_false];have:=hk c ⟨[]⟩ ⟨ts⟩ rows hc (by omega) hr hO
  have e:ts.set t rows=ts:=by
   obtain ⟨h1,h2⟩:=List.getElem?_eq_some_iff.1 hg;rw[<-h2];exact List.set_getElem_self h1
  rwa[e] at this
 |j+1,m+1,c,z1,z2,ts,rows,hm,hc,hg,hl,hr,hO,hk=>by
  have hq:(0:Int)<((j+1:Nat):Int):=by omega
  have hTi:idx s.ag (t:Int)=some T:=by rw[aM];exact hT
  have hcl:=ht.aG;have hkl:=cR T;simp only[yz,H0,hq,decide_true,if_true,MD hTi (by omega) (by omega:1000<m),Option.bind_some,hTi]
  refine Ok.bind (alZ m md (by omega) c (aW T) T.au ht.ks (by omega) hc) fun r ⟨h1,h2⟩=> ?_
  have hrl:=hZ h2;have k1:=ht.gx;have k2:=ht.cr;rw[Cj (n:=m) hTi ht r.1 hrl,Option.bind_some];rw[afr (n:=m) hT ht (by simp;omega) (by omega) hg (fun y hy=>hZ (hr y hy)) (by omega) hO (by omega),Option.bind_some]
  have hne:r.1≠ []:=fun e=>by rw[e] at hrl;simp at hrl;omega
  have e1:qw r.1= [r.1]:=by unfold qw;rw[if_neg hne]
  rw[e1];have q2:=zx (T:=T) (kOf T r.1) [r.1] rows;have q4:=ub (T:=T) hO (.inr ⟨r.1,rfl,rfl⟩: [r.1]= []\/∃y,[r.1]= [y]/\kOf T y=kOf T r.1);have q3:∀y∈cc T (kOf T r.1) [r.1] rows,bW md T.au 0 (aW T) y=true:=fun y hy=>by
   rcases lY.1 hy with h|h
   ·exact hr y h.1
   ·rw[List.mem_singleton.1 h];exact h2
  generalize cc T (kOf T r.1) [r.1] rows=rows' at q2 q3 q4;simp at q2;have hw:w64 (((j+1:Nat):Int)-1)=(j:Int):=by rw[bS (by omega) (by omega)];omega
  rw[hw];have hts:t<ts.length:=(List.getElem?_eq_some_iff.1 hg).1;refine Pj md k s t T hT ht a1 a2 Q j m r.2 _ _ (ts.set t rows') rows' (by omega) h1 (by rw[List.getElem?_set_self hts]) (by omega) q3 q4 fun c' z1' z2' age k1 k2 k3 k4=> ?_
  rw[List.set_set];exact hk c' z1' z2' age k1 k2 k3 k4
 |_,0,_,_,_,_,_,hm,_,_,_,_,_,_=>by omega
theorem Ph (md:Int) (n0:Nat) (s:af) (hs:SOK s):∀(x:Wq1) (i m:Nat) (c:aj) (z1 z2:ah) (ts:aF),s.ag.drop i=x->4100+x.length<m->aZ c->StG md s ts->(∀t,i<=t->t<ts.length->ts[t]? =some [])->
  Ok (vi (CD n0) m md (s.ag.length:Int) (i:Int) c s z1 z2 ts) fun r=>aZ r.2/\StG md s r.1.ag
 | [],i,m+1,c,z1,z2,ts,hd,hm,hc,hts,h0=>by
  have:s.ag.length<=i:=by simpa using hd
  have hq:¬((i:Int)<(s.ag.length:Int)):=by omega
  simp only[vi,HY,CD,hq,decide_false,Bool.false_eq_true,if_false];exact Ok.pure ⟨hc,hts⟩
 |T::x,i,m+1,c,z1,z2,ts,hd,hm,hc,hts,h0=>by
  obtain ⟨g1,g2,g3⟩:=aX hd;have hq:(i:Int)<(s.ag.length:Int):=by omega
  have hl8:=hs.len;have ht:=hs.tab (i:Int) T (by rw[aM];exact g1)
  simp at hm;simp only[vi,HY,hq,decide_true,if_true];refine Ok.bind (gB m c 5 hc) fun r ⟨hr,r0,r1,_⟩=> ?_
  have r1:=r1 (by omega)
  have e:r.1=((r.1.toNat:Nat):Int):=by omega
  rw[e];refine Pj md (HZ (vi (CD n0) m) m) s i T g1 ht _ _ _ r.1.toNat m r.2 _ _ ts [] (by omega) hr (h0 i (Nat.le_refl _) (by rw[hts.len];omega)) (by simp;omega) (by simp) (by simp[Ord]) fun c' z1' z2' rows' k1 k2 k3 k4=> ?_
  unfold HZ;rw[bz g3 (by omega)]
  refine Ph md n0 s hs x (i+1) m c' _ _ _ g2 (by omega) k1 ⟨by rw[List.length_set];exact hts.len,fun t T' rows hT' du=> ?_,fun t T' rows hT' du=> ?_⟩ fun t h1 h2=> ?_
  ·by_cases hti:t=i
   ·subst hti;rw[g1] at hT';cases hT';rw[List.getElem?_set_self (by rw[hts.len];omega)] at du
    cases du;exact ⟨k2,k3⟩
   ·rw[List.getElem?_set_ne (fun e=>hti e.symm)] at du
    exact hts.row t T' rows hT' du
  ·by_cases hti:t=i
   ·subst hti;rw[g1] at hT';cases hT';rw[List.getElem?_set_self (by rw[hts.len];omega)] at du
    cases du;exact k4
   ·rw[List.getElem?_set_ne (fun e=>hti e.symm)] at du
    exact hts.ord t T' rows hT' du
  ·rw[List.getElem?_set_ne (by omega)]
   rw[List.length_set] at h2;exact h0 t (by omega) h2
 |_,_,0,_,_,_,_,_,hm,_,_,_=>by omega
theorem aeb (md:Int) (n:Nat) (hn:5000<=n) (s:af) (hs:SOK s) (c:aj) (hc:aZ c):Ok (F11 n c s md) fun r=>aZ r.2/\StG md s r.1.ag:=by
 have hl8:=hs.len;have e:kg (s.ag.length:Int) ([]:Wq9)=some (List.replicate s.ag.length []):=by
  unfold kg;rw[if_pos (by omega)];rfl
 unfold F11 Tz;rw[e,Option.bind_some];refine Ph md n s hs s.ag 0 n c _ _ _ rfl (by omega) hc ⟨by simp,fun t T rows hT du=> ?_,fun t T rows hT du=> ?_⟩ fun t _ h=> ?_
 ·obtain ⟨h1,h2⟩:=List.getElem?_eq_some_iff.1 du;simp at h2;subst h2;simp
 ·obtain ⟨h1,h2⟩:=List.getElem?_eq_some_iff.1 du;simp at h2;subst h2;simp[Ord]
 ·rw[List.length_replicate] at h;simp[h]
def xi (md:Int) (s:af) (k:KW) (n10:Int) (N:Nat) (Q:Wq3×aj->Prop):Prop:=∀c st ws,aZ c->StG md s st.ag->fC s none ws=0->ws.length<=N->Ok (k (w64 (n10-1)) c s st ws) Q
theorem yA (md:Int) (s:af) (hs:SOK s) (k:KW) (N:Nat) (hN:N<=100) (Q:Wq3×aj->Prop) (n10 a1':Int) (hk:xi md s k n10 (N+1) Q) (a1:Wq1) (a2:Int) (c:aj) (hc:aZ c) (st:ah) (hst:StG md s st.ag) (ws:Wq3) (hws:fC s none ws=0) (hl:ws.length<=N) (w:az) (hw:la s w) (n0:Nat):∀(i m at_:Nat) (tw:Bool) (cs:Wq0) (vs:Wq2),i<=ws.length->i+100<m->at_<=ws.length->i<=at_->
  (∀j y,i<=j->j<at_->ws[j]? =some y->gS w.aq w.au y.aq y.au≠ -1)->(∀y,ws[at_]? =some y->gS w.aq w.au y.aq y.au= -1)->(tw=false->∀j y,i<=j->ws[j]? =some y->gS w.aq w.au y.aq y.au≠0)->
  Ok (yB (H4 k n0) m n10 (at_:Int) tw ((i:Int)-1) a1 a2 c s st ws ⟨w.fOp,w.aq,w.au,cs,vs⟩ w.ak w.aR) Q
 |0,m+1,at_,tw,cs,vs,hi,hm,ha,hia,p1,p2,p3=>by
  have hq:((0:Nat):Int)-1<0:=by omega
  simp only[yB,H5,H4,hq,decide_true,Bool.not_true,Bool.false_eq_true,if_false];refine Ok.ite (fun htw=> ?_) fun _=>hk c st ws hc hst hws (by omega)
  have htw:tw=false:=by simpa using htw
  have p3:=p3 htw;have e1:gA ws.length (at_:Int)=some at_:=by unfold gA;rw[if_pos (by omega)];rfl
  have e2:jo ws.length (at_:Int)=some at_:=by unfold jo;rw[if_pos (by omega)];rfl
  have e3:(ws.drop (0+at_)).take (ws.length-at_)=ws.drop at_:=by rw[Nat.zero_add];exact List.take_of_length_le (by simp)
  simp only[e1,e2,Option.bind_some,e3];rw[cV _ _ (by simp;omega),Option.bind_some]
  have e4:oV ws at_ ([w]++ws.drop at_)=some (ws.take at_++([w]++ws.drop at_)):=by unfold oV;rw[if_pos (by simp;omega)]
  rw[show (az.mk w.fOp w.aq w.au w.ak w.aR)=w from rfl,e4,Option.bind_some];refine hk c st _ hc hst ?_ (by simp;omega)
  show fC s none (ws.take at_++w::ws.drop at_)=0;refine ET hw (fun y hy=> ?_) (by rw[List.take_append_drop];exact hws) ?_
  ·rw[List.head?_drop] at hy;have:=p2 y hy;simp only[pc,this];rfl
  ·rw[Fi];split
   ·rfl
   ·rename_i hne;have hat:0<at_:=by
     rcases Nat.eq_zero_or_pos at_ with h|h
     ·subst h;simp at hne
     ·exact h
    have hlen:(ws.take at_).length=at_:=by rw[List.length_take];omega
    rw[hlen,List.getElem?_take,if_pos (by omega)]
    have hg:ws[at_-1]? =some (ws[at_-1]'(by omega)):=List.getElem?_eq_getElem _
    rw[hg];generalize ws[at_-1]=y at hg;have q1:=p1 (at_-1) y (by omega) (by omega) hg
    have q2:=p3 (at_-1) y (by omega) hg
    have q3:=R9 w.aq w.au y.aq y.au;have q4:=aaA w.aq w.au y.aq y.au;have:gS y.aq y.au w.aq w.au<0:=by omega
    simp[pc,this]
 |i+1,m+1,at_,tw,cs,vs,hi,hm,ha,hia,p1,p2,p3=>by
  have hq:¬(((i+1:Nat):Int)-1<0):=by omega
  have e:((i+1:Nat):Int)-1=(i:Int):=by omega
  have e1:bnd ws.length (((i+1:Nat):Int)-1)=some i:=by rw[e];unfold bnd;rw[if_pos (by omega)];rfl
  have e2:ws[0+i]? =some (ws[i]'(by omega)):=by rw[Nat.zero_add];exact List.getElem?_eq_getElem _
  have hg:ws[i]? =some (ws[i]'(by omega)):=List.getElem?_eq_getElem _
  generalize ws[i]=y at e2 hg;have hkl:=zU hs hw;have hw2:w64 (((i+1:Nat):Int)-1-1)=(i:Int)-1:=by rw[bS (by omega) (by omega)];omega
  simp only[yB,H5,hq,decide_false,Bool.not_false,if_true,e1,e2,Option.bind_some,aid m w.aq y.aq w.au y.au (by omega) (by omega),hw2]
  refine Ok.ite (fun h0=> ?_) fun h0=> ?_
  ·have h0:gS w.aq w.au y.aq y.au=0:=by simpa using h0
   refine yA md s hs k N hN Q n10 a1' hk a1 a2 c hc st hst ws hws hl w hw n0 i m at_ true _ _ (by omega) (by omega) ha (by omega) (fun j z h1 h2 hz=> ?_) p2 (fun h=>by cases h)
   by_cases hj:j=i
   ·subst hj;rw[hg] at hz;cases hz;omega
   ·exact p1 j z (by omega) h2 hz
  ·have h0:gS w.aq w.au y.aq y.au≠0:=by simpa using h0
   have p3':tw=false->∀j z,i<=j->ws[j]? =some z->gS w.aq w.au z.aq z.au≠0:=fun h j z h1 hz=>by
    by_cases hj:j=i
    ·subst hj;rw[hg] at hz;cases hz;exact h0
    ·exact p3 h j z (by omega) hz
   refine Ok.ite (fun h1=> ?_) fun h1=> ?_
   ·have h1:gS w.aq w.au y.aq y.au= -1:=by simpa using h1
    rw[e];refine yA md s hs k N hN Q n10 a1' hk a1 a2 c hc st hst ws hws hl w hw n0 i m i tw _ _ (by omega) (by omega) (by omega) (Nat.le_refl _) (fun j z h1 h2=>by omega) (fun z hz=>by rw[hg] at hz;cases hz;exact h1) p3'
   ·have h1:gS w.aq w.au y.aq y.au≠ -1:=by simpa using h1
    refine yA md s hs k N hN Q n10 a1' hk a1 a2 c hc st hst ws hws hl w hw n0 i m at_ tw _ _ (by omega) (by omega) ha (by omega) (fun j z h2 h3 hz=> ?_) p2 p3'
    by_cases hj:j=i
    ·subst hj;rw[hg] at hz;cases hz;exact h1
    ·exact p1 j z (by omega) h3 hz
 |_,0,_,_,_,_,_,hm,_,_,_,_,_=>by omega
theorem Pz (md:Int) (s:af) (hs:SOK s) (k:KW) (N:Nat) (hN:N<=100) (Q:Wq3×aj->Prop) (n10:Int) (hk:xi md s k n10 (N+1) Q) (a1:Wq1) (a2:Int) (c:aj) (hc:aZ c) (st:ah) (hst:StG md s st.ag) (ws:Wq3) (hws:fC s none ws=0) (hl:ws.length<=N) (w:az) (hw:la s w) (n:Nat) (hn:1000<n) (cs:Wq0) (vs:Wq2):
  Ok (vk k n n10 a1 a2 c s st ws ⟨w.fOp,w.aq,w.au,cs,vs⟩ w.ak w.aR) Q:=by
 unfold vk;rw[bS (by omega) (by omega)]
 exact yA md s hs k N hN Q n10 0 hk a1 a2 c hc st hst ws hws hl w hw n ws.length n ws.length false _ _ (Nat.le_refl _) (by omega) (Nat.le_refl _) (Nat.le_refl _) (fun j y h1 h2=>by omega) (fun y hy=>by rw[List.getElem?_eq_none (Nat.le_refl _)] at hy;cases hy) (fun _ j y h1 hy=>by have:=(List.getElem?_eq_some_iff.1 hy).1;omega)
theorem afq (md:Int) (s:af) (hs:SOK s) (k:KW) (N:Nat) (hN:N<=100) (Q:Wq3×aj->Prop) (n10:Int) (hk:xi md s k n10 (N+1) Q) (a1:Wq1) (a2:Int) (st:ah) (hst:StG md s st.ag) (ws:Wq3) (hws:fC s none ws=0) (hl:ws.length<=N) (t:Int) (T:ay) (hT:idx s.ag t=some T) (row:Wq2) (eV:bg (aW T) row=true) (key:Wq2) (kj:bg (v9 T) key=true) (op:Int) (hop:op=2\/op=3) (n0:Nat) (hn0:1000<n0):∀(x:Wq2) (i m:Nat) (c:aj) (cs0 cs:Wq0) (vs0 vs:Wq2) (l:Wq0),row.drop i=x->x.length<m->aZ c->dL (aW T) (T.au-1) cs=some l->bg l vs=true->Bn (T.au-1) cs<(i:Int)->cs.length<=i->vs.length<=i->(op=3->cs= []/\vs= [])->
  Ok (yC (vk k n0) m n10 (i:Int) a1 a2 c s st ws row ⟨op,t,key,cs0,vs0⟩ cs vs) Q:=by
 have ht:=hs.tab _ _ hT;have hcl:=ht.aG;have hkl:=cR T;have hrl:=gR eV;have k1:=ht.gx;have fin:∀(c:aj) (cs0 cs:Wq0) (vs0 vs:Wq2) (l:Wq0),aZ c->dL (aW T) (T.au-1) cs=some l->bg l vs=true->(op=3->cs= []/\vs= [])->Ok (vk k n0 n10 a1 a2 c s st ws ⟨op,t,key,cs0,vs0⟩ cs vs) Q:=by
  intro c cs0 cs vs0 vs l hc h1 h2 h3;refine Pz md s hs k N hN Q n10 hk a1 a2 c hc st hst ws hws hl ⟨op,t,key,cs,vs⟩ ⟨T,hT,by simp only;omega,?_⟩ n0 hn0 _ _
  rcases hop with rfl|rfl
  ·simp[wOK,kj,gM,h1,h2]
  ·obtain ⟨rfl,rfl⟩:=h3 rfl;simp[wOK,kj,gM]
 intro x;induction x with
 |nil=>
  intro i m c cs0 cs vs0 vs l hd hm hc h1 h2 h3 _ _ h4;obtain ⟨m,rfl⟩:∃m',m=m'+1:=⟨m-1,by simp at hm;omega⟩
  have hq':row.length<=i:=by simpa using hd
  have hq:¬((i:Int)<(row.length:Int)):=by omega
  simp only[yC,H6,hq,decide_false,Bool.false_eq_true,if_false];exact fin c _ cs _ vs l hc h1 h2 h4
 |cons v x ih=>
  intro i m c cs0 cs vs0 vs l hd hm hc h1 h2 h3 hcs hvs h4;obtain ⟨m,rfl⟩:∃m',m=m'+1:=⟨m-1,by simp at hm;omega⟩
  obtain ⟨g1,g2,g3⟩:=aX hd;have hq:(i:Int)<(row.length:Int):=by omega
  simp only[yC,H6,hq,decide_true,if_true];refine Ok.ite (fun ho=> ?_) fun _=>fin c _ cs _ vs l hc h1 h2 h4
  have ho:op=2:=by simpa using ho
  refine Ok.bind (jj m c 2 hc) fun b hb=> ?_
  rw[bz g3 (by omega)]
  refine Ok.ite (fun _=> ?_) fun _=> ?_
  ·have e1:bnd row.length (i:Int)=some i:=by unfold bnd;rw[if_pos (by omega)];rfl
   obtain ⟨kk,q1,q2,q3⟩:=JO eV g1;rw[cV _ _ (by simp;omega),Option.bind_some,e1,Option.bind_some,Nat.zero_add,g1,Option.bind_some,cV _ _ (by simp;omega),Option.bind_some]
   refine ih (i+1) m b.2 _ _ _ _ (l++ [kk]) g2 (by simp at hm;omega) hb (BY _ h1 h3 (by omega) (by simpa using q1)) (vI h2 q2 q3) (by rw[Bm];omega) (by simp;omega) (by simp;omega) (fun h=>by omega)
  ·exact ih (i+1) m b.2 _ _ _ _ l g2 (by simp at hm;omega) hb h1 h2 (by omega) (by omega) (by omega) h4
theorem afA (md:Int) (s:af) (hs:SOK s) (k:KW) (N:Nat) (hN:N<=100) (Q:Wq3×aj->Prop) (n10:Int) (hk:xi md s k n10 (N+1) Q) (a1:Wq1) (a2:Int) (c:aj) (hc:aZ c) (st:ah) (hst:StG md s st.ag) (ws:Wq3) (hws:fC s none ws=0) (hl:ws.length<=N) (t:Nat) (T:ay) (hT:s.ag[t]? =some T) (row:Wq2) (eV:bg (aW T) row=true) (n:Nat) (hn:2000<n):
  Ok (yQ k n n10 (t:Int) a1 a2 c s st ws row) Q:=by
 have hTi:idx s.ag (t:Int)=some T:=by rw[aM];exact hT
 have ht:=hs.tab _ _ hTi;have hcl:=ht.aG;have hkl:=cR T;have hrl:=gR eV;have k1:=ht.gx;have k2:=ht.cr;have htl:t<s.ag.length:=(List.getElem?_eq_some_iff.1 hT).1;have hsl:t<st.ag.length:=by rw[hst.len];exact htl
 have du:st.ag[t]? =some st.ag[t]:=List.getElem?_eq_getElem hsl;generalize st.ag[t]=rows at du;obtain ⟨r1,r2⟩:=hst.row t T rows hT du;have e1:gA row.length T.au=some T.au.toNat:=by unfold gA;rw[if_pos (by omega)]
 have kj:bg (v9 T) (row.take T.au.toNat)=true:=E7 _ eV;unfold yQ;rw[hTi,Option.bind_some];simp only[e1,Option.bind_some,List.drop_zero];rw[cV _ _ (by simp;omega),Option.bind_some,List.nil_append]
 refine Ok.bind (aie n (by omega) s t T hT ht _ st rows du (by omega) (fun r h=>hZ (r2 r h))) fun f _=> ?_
 refine Ok.bind (jj n c 8 hc) fun b hb=> ?_
 refine Ok.ite (fun _=> ?_) fun _=> ?_
 ·refine Ok.bind (gB n b.2 2 hb) fun o ⟨ho,o0,o1,_⟩=> ?_
  have o1:=o1 (by omega)
  rw[bS (by omega) (by omega)]
  have e:T.au=((T.au.toNat:Nat):Int):=by omega
  rw[e];exact afq md s hs k N hN Q n10 hk a1 a2 st hst ws hws hl (t:Int) T hTi row eV _ kj (2+o.1) (by omega) n (by omega) (row.drop T.au.toNat) T.au.toNat n o.2 [] [] [] [] [] rfl (by simp;omega) ho rfl rfl (by simp only[Bn];omega) (by simp) (by simp) (fun _=>⟨rfl,rfl⟩)
 ·refine Pz md s hs k N hN Q n10 hk a1 a2 b.2 hb st hst ws hws hl ⟨1,(t:Int),row.take T.au.toNat,[],row⟩ ⟨T,hTi,by simp,?_⟩ n (by omega) [] row
  simp[wOK,kj,gM,eV,jb]
theorem Pk (md:Int) (s:af) (hs:SOK s) (sJ:2<=s.ag.length) (n0:Nat):∀(j m:Nat) (c:aj) (st:ah) (ws:Wq3),j+3000<m->aZ c->StG md s st.ag->fC s none ws=0->ws.length+j<=50->
  Ok (sq (yP n0) m (j:Int) c s st ws) fun r=>aZ r.2/\fC s none r.1=0/\r.1.length<=ws.length+j
 |0,m+1,c,st,ws,hm,hc,hst,hws,hl=>by
  have hq:¬(0:Int)<((0:Nat):Int):=by omega
  simp only[sq,H3,yP,hq,decide_false,Bool.false_eq_true,if_false];exact Ok.pure ⟨hc,hws,by simp⟩
 |j+1,m+1,c,st,ws,hm,hc,hst,hws,hl=>by
  have hq:(0:Int)<((j+1:Nat):Int):=by omega
  have hq2:(0:Int)<(s.ag.length:Int):=by omega
  have hl8:=hs.len;simp only[sq,H3,hq,hq2,decide_true,if_true];refine Ok.bind (gB m c _ hc) fun t ⟨ht,t0,t1,_⟩=> ?_
  have t1:=t1 (by omega)
  obtain ⟨tn,te⟩:∃tn:Nat,t.1=(tn:Int):=⟨t.1.toNat,by omega⟩
  rw[te];have htn:tn<s.ag.length:=by omega
  have hT:s.ag[tn]? =some s.ag[tn]:=List.getElem?_eq_getElem htn;generalize s.ag[tn]=T at hT;have hTi:idx s.ag (tn:Int)=some T:=by rw[aM];exact hT
  have hto:=hs.tab _ _ hTi;have hcl:=hto.aG;have hkl:=cR T;have k1:=hto.gx;have k2:=hto.cr;have hsl:tn<st.ag.length:=by rw[hst.len];exact htn
  have du:st.ag[tn]? =some st.ag[tn]:=List.getElem?_eq_getElem hsl;generalize st.ag[tn]=rows at du;obtain ⟨r1,r2⟩:=hst.row tn T rows hT du;rw[MD hTi (by omega) (by omega:1000<m),Option.bind_some,hTi,Option.bind_some]
  refine Ok.bind (aif m (by omega) t.2 (aW T) T.au hto.ks (by omega) ht) fun r ⟨h1,h2⟩=> ?_
  have hrl:=gR h2;rw[aM,du,Option.bind_some];have hw:w64 (((j+1:Nat):Int)-1)=(j:Int):=by rw[bS (by omega) (by omega)];omega
  have hk:xi md s (sq (yP n0) m) ((j+1:Nat):Int) (ws.length+1) fun r=>aZ r.2/\fC s none r.1=0/\r.1.length<=ws.length+(j+1):=by
   intro c' st' ws' h1 h2 h3 h4;rw[hw];exact (Pk md s hs sJ n0 j m c' st' ws' (by omega) h1 h2 h3 (by omega)).mono fun q ⟨q1,q2,q3⟩=>⟨q1,q2,by omega⟩
  have fin:=fun c' (hc':aZ c') row eV=>afA md s hs (sq (yP n0) m) ws.length (by omega) _ ((j+1:Nat):Int) hk s.ag (s.ag.length:Int) c' hc' st hst ws hws (Nat.le_refl _) tn T hT row eV m (by omega)
  refine Ok.ite (fun hne=> ?_) fun _=>fin _ h1 _ h2
  refine Ok.bind (jj m r.2 3 h1) fun b hb=> ?_
  refine Ok.ite (fun _=> ?_) fun _=>fin _ hb _ h2
  simp at hne;refine Ok.bind (gB m b.2 (rows.length:Int) hb) fun q ⟨hq',q0,q1,_⟩=> ?_
  have q1:=q1 (by omega)
  have hg:idx rows q.1=some (rows[q.1.toNat]'(by omega)):=by unfold idx;rw[if_pos q0];exact List.getElem?_eq_getElem _
  have hold:=r2 _ (List.getElem_mem (by omega:q.1.toNat<rows.length))
  generalize rows[q.1.toNat]=old at hg hold;have hol:=hZ hold;rw[hg,Option.bind_some,Cj (n:=m) hTi hto old (by omega),Option.bind_some]
  have qM:r.1≠ []:=fun e=>by rw[e] at hrl;simp at hrl;omega
  have hcp:cpy r.1 (old.take T.au.toNat)=some (old.take T.au.toNat++r.1.drop T.au.toNat):=by
   unfold cpy;rw[if_neg qM];have:min (old.take T.au.toNat).length r.1.length=T.au.toNat:=by simp;omega
   rw[this,List.take_take,Nat.min_self]
  rw[hcp,Option.bind_some];exact fin _ hq' _ (mixM _ hto.ks hold h2 (by omega))
 |_,0,_,_,_,hm,_,_,_,_=>by omega
theorem ama (md:Int) (n:Nat) (hn:5000<=n) (s:af) (hs:SOK s) (sJ:2<=s.ag.length) (c:aj) (hc:aZ c) (st:ah) (hst:StG md s st.ag) (Y9:Nat) (hmost:Y9<=10):Ok (F10 n c s st (Y9:Int)) fun r=>aZ r.2/\fC s none r.1=0/\r.1.length<=Y9:=by
 unfold F10 TA;rw[bS (by omega) (by omega)]
 refine Ok.bind (gB n c _ hc) fun r ⟨hr,r0,r1,_⟩=> ?_
 have r1:=r1 (by omega)
 have e:r.1=((r.1.toNat:Nat):Int):=by omega
 rw[e];exact (Pk md s hs sJ n r.1.toNat n r.2 st [] (by omega) hr hst rfl (by simp;omega)).mono fun q ⟨q1,q2,q3⟩=>⟨q1,q2,by simp at q3;omega⟩
end
section
section
variable {s:af} {t n:Nat} {T:ay} {md:Int} {ts:cU} {rows:Wq9} {key row r:Wq2} {p:Nat}
theorem ahT (rows:Wq9) (ht:bZ T) (w:az) (i:Nat) (r:Wq2) (hg:rows[i]? =some r) (hr:r.length=T.ak.length) (hl:rows.length<=1000000) (hn:1000<n):F64 n (i:Int) rows T.au w=some (!decide (bL (kOf T r) w.au<0),rows,T.au,w):=by
 have h8:=ht.aG;have k1:=ht.gx;have k2:=ht.cr;have hi:=(List.getElem?_eq_some_iff.1 hg).1;have e1:bnd rows.length (i:Int)=some i:=by unfold bnd;rw[if_pos (by omega)];rfl
 have e:T.au=((T.au.toNat:Nat):Int):=by omega
 unfold F64 SZ;rw[e1,Option.bind_some,Nat.zero_add,hg,Option.bind_some,wP (by omega) (by omega),Option.bind_some,lC n _ _ (by simp;omega) (by simp;omega),Option.bind_some]
theorem Ml (n0:Nat) (ht:bZ T) (w:az) (rows:Wq9) (hl:rows.length<=1000000) (hr:∀r∈rows,r.length=T.ak.length) (hO:Ord T rows):
  ∀(d i j m:Nat),j-i<=d->d+1000<m->i<=j->j<=rows.length->(∀k r,rows[k]? =some r->k<i->lt (kOf T r) w.au)->(∀k r,rows[k]? =some r->j<=k->¬lt (kOf T r) w.au)->
   ∃p,Place T w.au rows p/\yi (Hk n0) m (i:Int) (j:Int) T.au w rows=some ((p:Int),rows,T.au,w)
 |d,i,j,0,_,hm,_,_,_,_=>by omega
 |d,i,j,m+1,hd,hm,hij,hj,hlo,hhi=>by
  by_cases h:i<j
  ·have hq:(i:Int)<(j:Int):=by omega
   have hh:(i+j) / 2<rows.length:=by omega
   have hg:rows[(i+j) / 2]? =some rows[(i+j) / 2]:=List.getElem?_eq_getElem hh;have hrl:=hr _ (List.getElem_mem hh);have es:nS rows.length rows.length=some ():=by unfold nS;rw[if_pos rfl]
   simp only[yi,Hl,hq,decide_true,if_true,half i j (by omega),ahT (n:=m) rows ht w _ _ hg hrl hl (by omega),Option.bind_some,es]
   by_cases hc':bL (kOf T rows[(i+j) / 2]) w.au<0
   ·have e:w64 ((((i+j) / 2:Nat):Int)+1)=(((i+j) / 2+1:Nat):Int):=by rw[bS (by omega) (by omega)];rfl
    simp only[hc',decide_true,Bool.not_true,Bool.not_false,if_true,e];refine Ml n0 ht w rows hl hr hO (d-1) ((i+j) / 2+1) j m (by omega) (by omega) (by omega) hj (fun k r hk hlt=> ?_) hhi
    by_cases hk':k=(i+j) / 2
    ·subst hk';rw[hg] at hk;cases hk;exact eQ.1 hc'
    ·exact lt_trans (hO.get hk hg (by omega)) (eQ.1 hc')
   ·simp only[hc',decide_false,Bool.not_false,Bool.not_true,Bool.false_eq_true,if_false];refine Ml n0 ht w rows hl hr hO (d-1) i ((i+j) / 2) m (by omega) (by omega) (by omega) (by omega) hlo (fun k r hk hle=> ?_)
    by_cases hk':k=(i+j) / 2
    ·subst hk';rw[hg] at hk;cases hk;exact fun h=>hc' (eQ.2 h)
    ·exact fun h=>hc' (eQ.2 (lt_trans (hO.get hg hk (by omega)) h))
  ·have e:i=j:=by omega
   subst e;have hq:¬((i:Int)<(i:Int)):=by omega
   refine ⟨i,⟨hj,hlo,hhi⟩,?_⟩;simp only[yi,Hl,Hk,hq,decide_false,Bool.false_eq_true,if_false]
theorem ahU (ht:bZ T) (w:az) (rows:Wq9) (hl:rows.length<=100000) (hr:∀r∈rows,r.length=T.ak.length) (hO:Ord T rows) (hn:200000<n):
  ∃p,Place T w.au rows p/\F63 n (rows.length:Int) rows T.au w=some ((p:Int),rows,T.au,w):=by
 obtain ⟨p,h1,h2⟩:=Ml n ht w rows (by omega) hr hO rows.length 0 rows.length n (by omega) (by omega) (by omega) (Nat.le_refl _) (fun k r _ h=>by omega) (fun k r hk h=>by
  have:=(List.getElem?_eq_some_iff.1 hk).1;omega)
 refine ⟨p,h1,?_⟩;unfold F63 S0;rw[show (0:Int)=((0:Nat):Int) from rfl];exact h2
theorem Place.lo' (hp:Place T key rows p):∀r∈rows.take p,lt (kOf T r) key:=fun r hr'=>by
 obtain ⟨k,hk,rfl⟩:=List.mem_iff_getElem.1 hr';rw[List.length_take] at hk;exact hp.lo k _ (by rw[List.getElem_take];exact List.getElem?_eq_getElem _) (by omega)
theorem Place.ins (hp:Place T key rows p) (hn:∀r∈rows,kOf T r≠key) (N:Wq9):cc T key N rows=rows.take p++N++rows.drop p:=by
 rw[<-JY (k:=key) (N:=N) hp.lo' (B:=rows.drop p) (fun r hr'=>by
  obtain ⟨k,hk⟩:=List.getElem?_of_mem hr';rw[List.getElem?_drop] at hk;rcases tq (kOf T r) key with h|h|h
  ·exact absurd h (hp.hi (p+k) r hk (by omega))
  ·exact absurd h (hn r (List.mem_of_getElem? hk))
  ·exact h),List.take_append_drop]
theorem Place.at (hp:Place T key rows p) (hO:Ord T rows) (hk:rows[p]? =some r) (he:kOf T r=key) (N:Wq9):cc T key N rows=rows.take p++N++rows.drop (p+1):=by
 have hs:rows=rows.take p++r::rows.drop (p+1):=by
  obtain ⟨h3,h4⟩:=List.getElem?_eq_some_iff.1 hk;rw[<-h4,<-List.drop_eq_getElem_cons h3,List.take_append_drop]
 conv=>lhs;rw[hs]
 exact rI hp.lo' he (fun r' hr'=>by
  obtain ⟨k,hk'⟩:=List.getElem?_of_mem hr';rw[List.getElem?_drop] at hk';rw[<-he];exact hO.get hk hk' (by omega))
theorem Place.got (hp:Place T key rows p) (hO:Ord T rows):(∃r,rows[p]? =some r/\kOf T r=key/\cE T key rows=some r)\/(cE T key rows=none/\∀r,rows[p]? =some r->kOf T r≠key):=by
 cases hg:cE T key rows with
 |none=>exact .inr ⟨rfl,fun r hr=>jd.1 hg r (List.mem_of_getElem? hr)⟩
 |some r=>
  left;have hm:=jm hg;have hk:=kG hg;obtain ⟨j,hj⟩:=List.getElem?_of_mem hm;have hpj:p<=j:=by
   by_cases h:p<=j
   ·exact h
   ·exact absurd (hp.lo j _ hj (by omega)) (by rw[hk];exact lt_irrefl _)
  by_cases e:p=j
  ·subst e;exact ⟨r,hj,hk,rfl⟩
  ·have hlt:p<rows.length:=by have:=(List.getElem?_eq_some_iff.1 hj).1;omega
   exact absurd (hO.get (List.getElem?_eq_getElem hlt) hj (by omega)) (by rw[hk];exact hp.hi p _ (List.getElem?_eq_getElem hlt) (Nat.le_refl _))
def ovW (s:af) (ts:cU) (w:az):cU:=
 match idx s.ag w.aq,idx ts w.aq with
 |some T,some rows=>
  match cE T w.au rows with
  |none=>if w.fOp=1/\total ts<512 then ts.set w.aq.toNat (cc T w.au [w.aR] rows) else ts
  |some r=>if w.fOp=2 then ts.set w.aq.toNat (cc T w.au [cH r w.ak w.aR] rows) else if w.fOp=3 then ts.set w.aq.toNat (cc T w.au [] rows) else ts
 |_,_=>ts
theorem NZ {key:Int} {ks:Wq0}:∀{cs l:Wq0} {vs:Wq2} {last:Int} {r:Wq2}, -1<=last->dL ks last cs=some l->bg l vs=true->bW md key 0 ks r=true->bW md key 0 ks (cH r cs vs)=true/\(cH r cs vs).take (last+1).toNat=r.take (last+1).toNat
 | [],l,vs,last,r,_,h,hl,hr=>by simp[cH,hr]
 |c::cs,l,vs,last,r,Gs,h,hl,hr=>by
  simp only[dL] at h;split at h
  ·rename_i hc;cases h3:dL ks c cs with
   |none=>rw[h3] at h;cases h
   |some l'=>
    rw[h3] at h;simp at h;subst h;cases vs with
    |nil=>simp[bg] at hl
    |cons v vs=>
     simp only[bg,Bool.and_eq_true,beq_iff_eq] at hl;have hlt:c.toNat<ks.length:=by omega
     have hk:ks[c.toNat]? =some ks[c.toNat]:=List.getElem?_eq_getElem hlt;rw[hk] at hl;have hr':=JL (j:=c.toNat) hr hk hl.1.1 hl.1.2;obtain ⟨a,b⟩:=NZ (by omega) h3 hl.2 hr'
     refine ⟨a,?_⟩;simp only[cH];have e:(last+1).toNat=min (last+1).toNat (c+1).toNat:=by omega
     rw[e,<-List.take_take,b,List.take_take,<-e,List.take_set_of_le (by omega)]
  ·cases h
theorem Yw {w:az} (ht:bZ T) (h:wOK T w=true) (h2:w.fOp=2) (hr:bW md T.au 0 (aW T) r=true):bW md T.au 0 (aW T) (cH r w.ak w.aR)=true/\kOf T (cH r w.ak w.aR)=kOf T r:=by
 have k1:=ht.gx;simp only[wOK,gM,Bool.and_eq_true] at h;have h:=h.2;rw[if_neg (by omega),if_pos h2] at h
 split at h
 ·rename_i l hl;obtain ⟨a,b⟩:=NZ (md:=md) (key:=T.au) (r:=r) (by omega) hl h hr
  refine ⟨a,?_⟩;rw[show T.au-1+1=T.au by omega] at b
  exact b
 ·cases h
theorem StM.at (hs:SOK s) (h:StM md s ts) {w:az} (hg:la s w):∃(t:Nat) (T:ay) (rows:Wq9),w.aq=(t:Int)/\s.ag[t]? =some T/\bZ T/\ts[t]? =some rows/\(∀r∈rows,bW md T.au 0 (aW T) r=true)/\Ord T rows/\wOK T w=true/\idx s.ag w.aq=some T/\idx ts w.aq=some rows:=by
 obtain ⟨T,hT,hop,hok⟩:=hg;obtain ⟨i1,i2,i3⟩:=mK hT;have hlt:w.aq.toNat<ts.length:=by rw[h.len];exact i2
 have hr:ts[w.aq.toNat]? =some ts[w.aq.toNat]:=List.getElem?_eq_getElem hlt;obtain ⟨r1,r2⟩:=h.row _ T _ i3 hr;exact ⟨w.aq.toNat,T,_,by omega,i3,hs.tab _ _ hT,hr,r1,r2,hok,hT,by unfold idx;rw[if_pos i1];exact hr⟩
theorem StM.set (h:StM md s ts) (hT:s.ag[t]? =some T) {rows':Wq9} (h1:∀r∈rows',bW md T.au 0 (aW T) r=true) (h2:Ord T rows'):StM md s (ts.set t rows'):=by
 refine ⟨by rw[List.length_set];exact h.len,fun u U rs hU hrs=> ?_⟩
 have hlt:=(List.getElem?_eq_some_iff.1 hT).1;by_cases e:u=t
 ·subst e;rw[hT] at hU;cases hU;rw[List.getElem?_set_self (by rw[h.len];exact hlt)] at hrs
  cases hrs;exact ⟨h1,h2⟩
 ·rw[List.getElem?_set_ne (fun e'=>e e'.symm)] at hrs
  exact h.row u U rs hU hrs
theorem StM.put (h:StM md s ts) (hT:s.ag[t]? =some T) (hr:ts[t]? =some rows) {N:Wq9} (hN:N= []\/∃y,N= [y]/\kOf T y=key/\bW md T.au 0 (aW T) y=true):StM md s (ts.set t (cc T key N rows)):=by
 obtain ⟨r1,r2⟩:=h.row t T rows hT hr;refine h.set hT (fun y hy=> ?_) (ub r2 (hN.imp id fun ⟨y,a,b,_⟩=>⟨y,a,b⟩))
 rcases lY.1 hy with hy|hy
 ·exact r1 y hy.1
 ·rcases hN with rfl|⟨z,rfl,_,hz⟩
  ·simp at hy
  ·rw[List.mem_singleton.1 hy];exact hz
theorem rH (hO:Ord T rows) (hr:r∈rows) (he:kOf T r=key) (N:Wq9):(cc T key N rows).length+1=rows.length+N.length:=by
 obtain ⟨j,hj⟩:=List.getElem?_of_mem hr;have hjl:=(List.getElem?_eq_some_iff.1 hj).1;have hs:rows=rows.take j++r::rows.drop (j+1):=by
  obtain ⟨h3,h4⟩:=List.getElem?_eq_some_iff.1 hj;rw[<-h4,<-List.drop_eq_getElem_cons h3,List.take_append_drop]
 have e:cc T key N rows=rows.take j++N++rows.drop (j+1):=by
  conv=>lhs;rw[hs]
  refine rI (fun y hy=> ?_) he fun y hy=> ?_
  ·obtain ⟨k,hk⟩:=List.getElem?_of_mem hy;have hkl:=(List.getElem?_eq_some_iff.1 hk).1;rw[List.length_take] at hkl;rw[List.getElem?_take,if_pos (by omega)] at hk
   rw[<-he];exact hO.get hk hj (by omega)
  ·obtain ⟨k,hk⟩:=List.getElem?_of_mem hy;rw[List.getElem?_drop] at hk;rw[<-he];exact hO.get hj hk (by omega)
 rw[e];simp;omega
theorem OA (hn:∀r∈rows,kOf T r≠key) (N:Wq9):(cc T key N rows).length=rows.length+N.length:=by
 have cr:∀rs:Wq9,(∀r∈rs,kOf T r≠key)->(rs.filter fun r=>decide (lt (kOf T r) key)).length+(rs.filter fun r=>decide (lt key (kOf T r))).length=rs.length:=by
  intro rs;induction rs with
  |nil=>simp
  |cons r rs ih=>
   intro h;have ih:=ih fun y hy=>h y (by simp[hy])
   have hne:=h r (by simp)
   rcases tq (kOf T r) key with h1|h1|h1
   ·have h2:=lt_asymm h1;simp only[List.filter_cons,h1,h2,decide_true,decide_false,if_true,Bool.false_eq_true,if_false,List.length_cons];omega
   ·exact absurd h1 hne
   ·have h2:=lt_asymm h1;simp only[List.filter_cons,h1,h2,decide_true,decide_false,if_true,Bool.false_eq_true,if_false,List.length_cons];omega
 have:=cr rows hn;unfold cc;simp only[List.length_append];omega
theorem VI (hs:SOK s) (h:StM md s ts) (ht:total ts<=512) {w:az} (hg:la s w):StM md s (ovW s ts w)/\total (ovW s ts w)<=512:=by
 obtain ⟨t,T,rows,h1,hT,hto,hr,r1,r2,hok,hTi,hri⟩:=h.at hs hg;have htt:w.aq.toNat=t:=by omega
 unfold ovW;rw[hTi,hri,htt];simp only;cases hgk:cE T w.au rows with
 |none=>
  simp only;split
  ·rename_i hc;obtain ⟨a,b⟩:=xl hok hc.1;refine ⟨h.put hT hr (.inr ⟨_,rfl,b,DE a⟩),?_⟩;have:=iV (rows':=cc T w.au [w.aR] rows) hr;have:=OA (jd.1 hgk) [w.aR];simp at this;omega
  ·exact ⟨h,ht⟩
 |some r=>
  simp only;have hm:=jm hgk;have hk:=kG hgk;split
  ·rename_i h2;obtain ⟨a,b⟩:=Yw hto hok h2 (r1 r hm);refine ⟨h.put hT hr (.inr ⟨_,rfl,b.trans hk,a⟩),?_⟩;have:=iV (rows':=cc T w.au [cH r w.ak w.aR] rows) hr;have:=rH r2 hm hk [cH r w.ak w.aR];simp at this;omega
  ·split
   ·refine ⟨h.put hT hr (.inl rfl),?_⟩;have:=iV (rows':=cc T w.au [] rows) hr;have:=rH r2 hm hk [];simp at this;omega
   ·exact ⟨h,ht⟩
theorem J7 (hs:SOK s):∀(ws:Wq3) (ts:cU),StM md s ts->total ts<=512->(∀w∈ws,la s w)->StM md s (ws.foldl (ovW s) ts)/\total (ws.foldl (ovW s) ts)<=512
 | [],ts,h,ht,_=>⟨h,ht⟩
 |w::ws,ts,h,ht,hg=>by
  obtain ⟨a,b⟩:=VI hs h ht (hg w (by simp))
  exact J7 hs ws _ a b fun v hv=>hg v (by simp[hv])
end
end
section
def ovR (s:af) (e:Int) (st:ah) (ws:Wq3):ah×Int:=
 if mB s e ws=0 then (if j0 3 s e st.ag=0 then (⟨ws.foldl (ovW s) st.ag⟩,0) else (⟨[]⟩,j0 3 s e st.ag)) else (⟨[]⟩,mB s e ws)
section
variable {s:af} {t n:Nat} {T:ay} {md:Int} {ts:cU} {rows:Wq9} {key row r:Wq2} {p:Nat}
theorem E2:∀{rs:Wq9} {p:Option Wq2},kO md T p rs=true->(∀r∈rs,bW md T.au 0 (aW T) r=true)/\(∀q,p=some q->∀r∈rs,lt (kOf T q) (kOf T r))/\Ord T rs
 | [],p,_=>by simp[Ord]
 |r::rs,p,h=>by
  simp only[kO,Bool.and_eq_true] at h;obtain ⟨h1,h2,h3⟩:=h;obtain ⟨h3,h4,h5⟩:=E2 (rs:=rs) (p:=some r) h3;refine ⟨fun y hy=> ?_,fun q hq y hy=> ?_,?_⟩
  ·rcases List.mem_cons.1 hy with rfl|hy
   ·exact h1
   ·exact h3 y hy
  ·subst hq;have h2:lt (kOf T q) (kOf T r):=eQ.1 (by simpa[behind] using h2)
   rcases List.mem_cons.1 hy with rfl|hy
   ·exact h2
   ·exact lt_trans h2 (h4 r rfl y hy)
  ·exact List.pairwise_cons.2 ⟨fun y hy=>h4 r rfl y hy,h5⟩
theorem JJ:∀{rs:Wq9} {p:Option Wq2},(∀r∈rs,bW md T.au 0 (aW T) r=true)->(∀q,p=some q->∀r∈rs,lt (kOf T q) (kOf T r))->Ord T rs->kO md T p rs=true
 | [],p,_,_,_=>by simp[kO]
 |r::rs,p,h1,h2,h3=>by
  obtain ⟨h4,h5⟩:=List.pairwise_cons.1 h3;simp only[kO,Bool.and_eq_true];refine ⟨h1 r (by simp),?_,JJ (fun y hy=>h1 y (by simp[hy])) (fun q hq y hy=> ?_) h5⟩
  ·cases p with
   |none=>rfl
   |some q=>simp only[behind,decide_eq_true_eq];exact eQ.2 (h2 q rfl r (by simp))
  ·cases hq;exact h4 y hy
theorem EW:∀{Ts:Wq1} {rss:cU} {t:Nat} {T:ay} {rows:Wq9},lF md Ts rss=true->Ts[t]? =some T->rss[t]? =some rows->kO md T none rows=true
 |T'::Ts,rs::rss,0,T,rows,h,h1,h2=>by
  simp only[lF,Bool.and_eq_true] at h;simp at h1 h2;subst h1;subst h2;exact h.1
 |T'::Ts,rs::rss,t+1,T,rows,h,h1,h2=>by
  simp only[lF,Bool.and_eq_true] at h;exact EW h.2 (by simpa using h1) (by simpa using h2)
 | [],_,_,_,_,_,h1,_=>by simp at h1
 |_::_,[],_,_,_,_,_,h2=>by simp at h2
theorem Ik:∀{Ts:Wq1} {rss:cU},(∀(t:Nat) T rows,Ts[t]? =some T->rss[t]? =some rows->kO md T none rows=true)->lF md Ts rss=true
 | [],_,_=>by simp[lF]
 |_::_,[],_=>by simp[lF]
 |T::Ts,rs::rss,h=>by
  simp only[lF,Bool.and_eq_true];exact ⟨h 0 T rs rfl rfl,Ik fun t U rows h1 h2=>h (t+1) U rows (by simpa using h1) (by simpa using h2)⟩
theorem TH {e:Int} (h:j0 md s e ts=0):e=0/\StM md s ts/\total ts<=512:=by
 unfold j0 at h;split at h
 ·rename_i h0;split at h
  ·omega
  ·rename_i h1;split at h
   ·rename_i h2;split at h
    ·rename_i h3;refine ⟨h0,⟨h2,fun t T rows hT hr=> ?_⟩,by omega⟩
     obtain ⟨a,_,b⟩:=E2 (EW h3 hT hr);exact ⟨a,b⟩
    ·omega
   ·omega
 ·rename_i h0;exact absurd h h0
theorem StM.chk (h:StM md s ts) (ht:total ts<=512):j0 md s 0 ts=0:=by
 unfold j0;rw[if_pos rfl,if_neg (by omega),if_pos h.len,Ik fun t T rows h1 h2=>by
  obtain ⟨r1,r2⟩:=h.row t T rows h1 h2;exact JJ r1 (by simp) r2,if_pos rfl]
theorem StM.mono (h:StM 1 s ts) (hs:SOK s):StM md s ts:=⟨h.len,fun t T rows hT hr=>by
 obtain ⟨r1,r2⟩:=h.row t T rows hT hr;have ht:=hs.tab (t:Int) T (by rw[aM];exact hT)
 exact ⟨fun r hr=>DE (by rw[<-zu (key:=T.au) (i:=0) ht.ks];exact r1 r hr),r2⟩⟩
theorem Mu (k:Wq3->Int->cU->Int->Int->af->ah->ah->cU->Wq9->Option (ah×Int)) (rows:Wq9) (hl:rows.length<=1000) (hr:∀r∈rows,r.length<=1000) (b:cU) (ht:t<b.length) (hb:b.length<=1000) (ws:Wq3) (a1:cU) (a2 a3:Int):
  ∀(x:Wq9) (i m:Nat) (acc:Wq9) (z1 z2:ah),rows.drop i=x->x.length<m->acc.length+x.length<=1000->yr k m ws (t:Int) a1 a2 a3 rows (rows.length:Int) (i:Int) s z1 z2 b acc=k ws (t:Int) a1 a2 a3 s ⟨[]⟩ ⟨b⟩ b (acc++x)
 | [],i,m+1,acc,z1,z2,hd,hm,ha=>by
  have hq':rows.length<=i:=by simpa using hd
  have hq:¬((i:Int)<(rows.length:Int)):=by omega
  simp only[yr,HM,hq,decide_false,Bool.false_eq_true,if_false,List.append_nil]
 |r::x,i,m+1,acc,z1,z2,hd,hm,ha=>by
  obtain ⟨g1,g2,g3⟩:=aX hd;have hq:(i:Int)<(rows.length:Int):=by omega
  have e1:bnd b.length (t:Int)=some t:=by unfold bnd;rw[if_pos (by omega)];rfl
  have hrl:=hr r (List.mem_of_getElem? g1);simp at hm ha;simp only[yr,HM,hq,decide_true,if_true,aM,g1,Option.bind_some,e1,oK m r (by omega),cV acc [r] (by simp;omega),bz g3 (by omega:rows.length<4294967296)]
  rw[Mu k rows hl hr b ht hb ws a1 a2 a3 x (i+1) m _ _ _ g2 (by omega) (by simp;omega)]
  simp
 |_,_,0,_,_,_,_,hm,_=>by simp at hm
theorem Mt (k:Wq3->af->ah->ah->cU->Option (ah×Int)) (ts:cU) (hl:ts.length<=1000) (hr:∀rows∈ts,rows.length<=1000/\∀r∈rows,r.length<=1000) (ws:Wq3):
  ∀(x:cU) (i m:Nat) (z1 z2:ah),ts.drop i=x->x.length+2000<m->vg k m ws ts (ts.length:Int) (i:Int) s z1 z2 (ts.take i++List.replicate x.length [])=k ws s ⟨[]⟩ ⟨ts⟩ ts
 | [],i,m+1,z1,z2,hd,hm=>by
  have hq':ts.length<=i:=by simpa using hd
  have hq:¬((i:Int)<(ts.length:Int)):=by omega
  simp only[vg,HK,hq,decide_false,Bool.false_eq_true,if_false,List.length_nil,List.replicate_zero,List.append_nil,List.take_of_length_le hq']
 |rows::x,i,m+1,z1,z2,hd,hm=>by
  obtain ⟨g1,g2,g3⟩:=aX hd;have hq:(i:Int)<(ts.length:Int):=by omega
  obtain ⟨h1,h2⟩:=hr rows (List.mem_of_getElem? g1);simp at hm;have htl:(ts.take i).length=i:=by rw[List.length_take];omega
  have hdl:ts.length=i+(x.length+1):=by have:=congrArg List.length hd;simp at this;omega
  have e0:(ts.take i++List.replicate (rows::x).length ([]:Wq9))[0+((i:Int)).toNat]? =some []:=by
   rw[Nat.zero_add,Int.toNat_natCast,List.getElem?_append_right (by omega),htl,Nat.sub_self]
   simp
  have e1:setAt (ts.take i++List.replicate (rows::x).length ([]:Wq9)) (0+((i:Int)).toNat) rows=some (ts.take (i+1)++List.replicate x.length []):=by
   rw[Nat.zero_add,Int.toNat_natCast];unfold setAt;rw[if_pos (by simp;omega),List.length_cons,List.replicate_succ,List.set_append_right _ _ (by omega),htl,Nat.sub_self,List.set_cons_zero,List.take_succ,g1]
   simp
  simp only[vg,HK,hq,decide_true,if_true,aM,g1,Option.bind_some,e0];have e2:=Mu (s:=s) (t:=i) (HL (vg k m) m) rows h1 h2 (ts.take i++List.replicate (rows::x).length []) (by simp;omega) (by simp;omega) ws ts (ts.length:Int) (i:Int) rows 0 m [] ⟨[]⟩ ⟨ts.take i++List.replicate (rows::x).length []⟩ rfl (by omega) (by simp;omega)
  rw[show ((0:Nat):Int)=0 from rfl,List.nil_append] at e2;rw[e2];unfold HL;rw[e1,Option.bind_some,bz g3 (by omega)]
  exact Mt k ts hl hr ws x (i+1) m _ _ g2 (by omega)
 |_,_,0,_,_,_,hm=>by simp at hm
theorem ZD (rows:Wq9) (p:Nat) (hp:p<=rows.length) (cells:Wq2):∃x27,sQ (rows++ [[]]) (0+(p+1)) ((rows++ [[]]).length-(p+1)) (((rows++ [[]]).drop (0+p)).take ((rows++ [[]]).length-p))=some x27/\(∃y,x27[0+p]? =some y)/\setAt x27 (0+p) cells=some (rows.take p++ [cells]++rows.drop p):=by
 have hlen:(rows++ [([]:Wq2)]).length=rows.length+1:=by simp
 have hd:(rows++ [([]:Wq2)]).drop p=rows.drop p++ [[]]:=List.drop_append_of_le_length hp;have hys:((rows++ [([]:Wq2)]).drop (0+p)).take ((rows++ [[]]).length-p)=rows.drop p++ [[]]:=by
  rw[Nat.zero_add,hd,hlen];exact List.take_of_length_le (by simp;omega)
 have hyl:(rows.drop p++ [([]:Wq2)]).length=rows.length+1-p:=by simp;omega
 obtain ⟨q,hq1,hq2⟩:∃q,(rows++ [([]:Wq2)]).take (p+1)=rows.take p++ [q]/\True:=by
  have hlt:p<(rows++ [([]:Wq2)]).length:=by omega
  refine ⟨(rows++ [[]])[p],?_,trivial⟩;rw[List.take_succ,List.getElem?_eq_getElem hlt,List.take_append_of_le_length hp];rfl
 have hx:sQ (rows++ [[]]) (0+(p+1)) ((rows++ [[]]).length-(p+1)) (((rows++ [[]]).drop (0+p)).take ((rows++ [[]]).length-p))=some (rows.take p++ [q]++rows.drop p):=by
  rw[hys];unfold sQ;have e3:min (rows.drop p++ [([]:Wq2)]).length ((rows++ [([]:Wq2)]).length-(p+1))=rows.length-p:=by rw[hyl,hlen];omega
  rw[if_pos ⟨by simp,by rw[hlen];omega⟩,e3,Nat.zero_add,hq1]
  have e4:(rows.drop p++ [([]:Wq2)]).take (rows.length-p)=rows.drop p:=by
   rw[List.take_append_of_le_length (by simp)]
   exact List.take_of_length_le (by simp)
  have e5:(rows++ [([]:Wq2)]).drop (p+1+(rows.length-p))= []:=List.drop_of_length_le (by rw[hlen];omega)
  rw[e4,e5,List.append_nil]
 have htl:(rows.take p).length=p:=by rw[List.length_take];omega
 refine ⟨_,hx,⟨q,?_⟩,?_⟩
 ·rw[Nat.zero_add,List.append_assoc,List.getElem?_append_right (by omega),htl,Nat.sub_self]
  rfl
 ·rw[Nat.zero_add];unfold setAt;rw[if_pos (by simp;omega),List.append_assoc,List.set_append_right _ _ (by omega),htl,Nat.sub_self]
  simp
theorem aaN (k:Int->Wq3->Int->Int->af->ah->ah->cU->Option (ah×Int)) (c:Int) (ws:Wq3) (a1 a2 tt:Int) (z1 z2:ah) (w:az) (h1:w.aq=(t:Int)) (h2:tt=(t:Int)) (ht:t<ts.length) (rows':Wq9):
  m7 k n c ws a1 a2 tt s z1 z2 w ts rows'=k c ws a1 (w64 (a2+1)) s ⟨[]⟩ ⟨ts.set t rows'⟩ (ts.set t rows'):=by
 have e1:bnd ts.length (t:Int)=some t:=by unfold bnd;rw[if_pos (by omega)];rfl
 have e3:setAt ts (0+((t:Int)).toNat) rows'=some (ts.set t rows'):=by rw[Nat.zero_add,Int.toNat_natCast];unfold setAt;rw[if_pos ht]
 unfold m7;rw[h1,h2,e1,Option.bind_some,e3];simp[nS]
theorem Ms (hs:SOK s) (k:ah->ah->cU->Option (ah×Int)) (ws:Wq3) (hws:ws.length<=1000) (hg:∀w∈ws,la s w):∀(x:Wq3) (i m:Nat) (ts:cU) (z1 z2:ah),ws.drop i=x->x.length+300000<m->StM 3 s ts->total ts<=512->
  oa k m ((total ts:Nat):Int) ws (ws.length:Int) (i:Int) s z1 z2 ts=k ⟨[]⟩ ⟨x.foldl (ovW s) ts⟩ (x.foldl (ovW s) ts)
 | [],i,m+1,ts,z1,z2,hd,hm,hst,qJ=>by
  have hq':ws.length<=i:=by simpa using hd
  have hq:¬((i:Int)<(ws.length:Int)):=by omega
  simp only[oa,HJ,hq,decide_false,Bool.false_eq_true,if_false,List.foldl_nil]
 |w::x,i,m+1,ts,z1,z2,hd,hm,hst,qJ=>by
  obtain ⟨g1,g2,g3⟩:=aX hd;have hq:(i:Int)<(ws.length:Int):=by omega
  have hgw:=hg w (List.mem_of_getElem? g1);obtain ⟨hst',aiJ⟩:=VI hs hst qJ hgw;have ih:=Ms hs k ws hws hg x (i+1) m (ovW s ts w) ⟨[]⟩ ⟨ovW s ts w⟩ g2 (by simp at hm;omega) hst' aiJ
  obtain ⟨t,T,rows,h1,hT,hto,hr,r1,r2,hok,hTi,hri⟩:=hst.at hs hgw;obtain ⟨T',hT',hop,_⟩:=hgw;have hlt:=(List.getElem?_eq_some_iff.1 hr).1;have hrl:=jE (List.mem_of_getElem? hr);have h8:=hto.aG;have k1:=hto.gx;have k2:=hto.cr;simp at hm;obtain ⟨p,hp,hf⟩:=ahU (n:=m) hto w rows (by omega) (fun r hr=>hZ (r1 r hr)) r2 (by omega)
  have hpl:=hp.le;have e0:ts[0+(w.aq).toNat]? =some rows:=by rw[h1,Nat.zero_add,Int.toNat_natCast];exact hr
  have e1:bnd ts.length w.aq=some t:=by rw[h1];unfold bnd;rw[if_pos (by omega)];rfl
  have es:nS rows.length rows.length=some ():=by unfold nS;rw[if_pos rfl]
  have e4:∀c rows',m7 (oa k m) m c ws (ws.length:Int) (i:Int) w.aq s ⟨[]⟩ ⟨ts⟩ w ts rows'=oa k m c ws (ws.length:Int) ((i+1:Nat):Int) s ⟨[]⟩ ⟨ts.set t rows'⟩ (ts.set t rows'):=fun c rows'=>by
   rw[aaN _ _ _ _ _ _ _ _ _ h1 h1 hlt,bz g3 (by omega)]
  have uM:ts.set t rows=ts:=by
   obtain ⟨q1,q2⟩:=List.getElem?_eq_some_iff.1 hr;rw[<-q2];exact List.set_getElem_self q1
  have eov:ovW s ts w=match cE T w.au rows with
    |none=>if w.fOp=1/\total ts<512 then ts.set t (cc T w.au [w.aR] rows) else ts
    |some r=>if w.fOp=2 then ts.set t (cc T w.au [cH r w.ak w.aR] rows) else if w.fOp=3 then ts.set t (cc T w.au [] rows) else ts:=by
   unfold ovW;rw[hTi,hri,h1];rfl
  have mid:oa k (m+1) ((total ts:Nat):Int) ws (ws.length:Int) (i:Int) s z1 z2 ts=oe (oa k m) m ((total ts:Nat):Int) (p:Int) (atK T w.au rows[p]?) ws (ws.length:Int) (i:Int) w.aq s ⟨[]⟩ ⟨ts⟩ w ts rows:=by
   simp only[oa,HJ,hq,decide_true,if_true,aM,g1,Option.bind_some,e0,e1,hTi,hf,es];by_cases hpp:p<rows.length
   ·have hq2:(p:Int)<(rows.length:Int):=by omega
    have hgp:rows[p]? =some rows[p]:=List.getElem?_eq_getElem hpp;have e6:bnd rows.length (p:Int)=some p:=by unfold bnd;rw[if_pos (by omega)];rfl
    have hcl:=hZ (r1 _ (List.getElem_mem hpp));have e:T.au=((T.au.toNat:Nat):Int):=by omega
    have e7:cut rows[p] none (some T.au)=some (kOf T rows[p]):=wP (by omega) (by omega)
    simp only[hq2,decide_true,if_true,e6,Option.bind_some,Nat.zero_add,hgp,e7,lC m (kOf T rows[p]) w.au (by simp;omega) (by simp;omega),atK]
   ·have hq2:¬(p:Int)<(rows.length:Int):=by omega
    have hgp:rows[p]? =none:=List.getElem?_eq_none (by omega)
    simp only[hq2,decide_false,Bool.false_eq_true,if_false,hgp,atK]
  rw[mid,List.foldl_cons,<-ih];rcases hp.got r2 with ⟨r,hgp,hk,hgk⟩|⟨hgk,hne⟩
  ·have Le:atK T w.au rows[p]? =true:=by rw[hgp];simp only[atK,hk,jb,beq_self_eq_true]
   have hpp:=(List.getElem?_eq_some_iff.1 hgp).1;have hm2:=jm hgk;rw[Le,eov,hgk];simp only;have e6:bnd rows.length (p:Int)=some p:=by unfold bnd;rw[if_pos (by omega)];rfl
   by_cases h2:w.fOp=2
   ·obtain ⟨a1,a2,a3⟩:=Lk hs hTi hok h2;have hcl:=hZ (r1 r hm2);have e7:F65 m r w=some (cH r w.ak w.aR):=by
     unfold F65 Hh;rw[oK _ _ (by omega),Option.bind_some]
     exact Mk m w (by omega) a2 w.ak 0 m r rfl (by omega) (fun c hc'=>by rw[hcl];exact a3 c hc')
    have e8:setAt rows p (cH r w.ak w.aR)=some (cc T w.au [cH r w.ak w.aR] rows):=by
     unfold setAt;rw[if_pos hpp,hp.at r2 hgp hk,List.set_eq_take_append_cons_drop,if_pos hpp];simp
    have et:=iV (rows':=cc T w.au [cH r w.ak w.aR] rows) hr;have eq:=rH r2 hm2 hk [cH r w.ak w.aR];simp at eq;have Es:total (ts.set t (cc T w.au [cH r w.ak w.aR] rows))=total ts:=by omega
    unfold oe lU;simp only[h2,show ((2:Int)==1)=false from rfl,Bool.false_eq_true,if_false,beq_self_eq_true,if_true,e6,Option.bind_some,Nat.zero_add,hgp,e7,e8,e4,Es]
   ·by_cases h3:w.fOp=3
    ·have e7:gA rows.length (p:Int)=some p:=by unfold gA;rw[if_pos (by omega)];rfl
     have ew:w64 ((p:Int)+1)=((p+1:Nat):Int):=by rw[bS (by omega) (by omega)];rfl
     have e8:jo rows.length ((p+1:Nat):Int)=some (p+1):=by unfold jo;rw[if_pos (by omega)];rfl
     have e9:oV rows p ((rows.drop (0+(p+1))).take (rows.length-(p+1)))=some (cc T w.au [] rows):=by
      have e10:(rows.drop (p+1)).take (rows.length-(p+1))=rows.drop (p+1):=List.take_of_length_le (by simp)
      unfold oV;rw[if_pos (by simp;omega),hp.at r2 hgp hk,Nat.zero_add,e10,List.append_nil]
     have et:=iV (rows':=cc T w.au [] rows) hr;have eq:=rH r2 hm2 hk [];simp at eq;have Es:w64 (((total ts:Nat):Int)-1)=((total (ts.set t (cc T w.au [] rows)):Nat):Int):=by
      rw[bS (by omega) (by omega)];omega
     unfold oe lU;simp only[h3,show ((3:Int)==1)=false from rfl,show ((3:Int)==2)=false from rfl,show ¬((3:Int)=2) by omega,Bool.false_eq_true,if_false,beq_self_eq_true,if_true,e7,ew,e8,e9,Option.bind_some,e4,Es]
    ·have h1':w.fOp=1:=by omega
     unfold oe lU;simp only[h1',show ((1:Int)==2)=false from rfl,show ((1:Int)==3)=false from rfl,show ¬((1:Int)=2) by omega,show ¬((1:Int)=3) by omega,Bool.not_true,Bool.false_eq_true,if_false,beq_self_eq_true,if_true,e4,uM]
  ·have Le:atK T w.au rows[p]? =false:=by
    cases hgp:rows[p]? with
    |none=>rfl
    |some r=>
     simp only[atK,beq_eq_false_iff_ne];exact fun he=>hne r hgp (iO he)
   rw[Le,eov,hgk];simp only;by_cases h1':w.fOp=1
   ·by_cases hc:total ts<512
    ·obtain ⟨a,b⟩:=xl hok h1';have hcl:=dD a;obtain ⟨x27,c1,⟨y,c2⟩,c3⟩:=ZD rows p hpl w.aR;have hc':((total ts:Nat):Int)<512:=by omega
     have ew:w64 ((p:Int)+1)=((p+1:Nat):Int):=by rw[bS (by omega) (by omega)];rfl
     have e7:jo (rows++ [([]:Wq2)]).length ((p+1:Nat):Int)=some (p+1):=by unfold jo;rw[if_pos (by simp;omega)];rfl
     have e8:jo (rows++ [([]:Wq2)]).length (p:Int)=some p:=by unfold jo;rw[if_pos (by simp;omega)];rfl
     have e9:bnd (rows++ [([]:Wq2)]).length (p:Int)=some p:=by unfold bnd;rw[if_pos (by simp;omega)];rfl
     have et:=iV (rows':=cc T w.au [w.aR] rows) hr;have eq:=OA (jd.1 hgk) [w.aR];simp at eq;have Es:w64 (((total ts:Nat):Int)+1)=((total (ts.set t (cc T w.au [w.aR] rows)):Nat):Int):=by
      rw[bS (by omega) (by omega)];omega
     rw[if_pos ⟨h1',hc⟩];rw[<-hp.ins (jd.1 hgk)] at c3;unfold oe;simp only[h1',beq_self_eq_true,if_true,Bool.not_false,hc',decide_true,cV rows [[]] (by simp;omega),Option.bind_some,ew,e7,e8,c1,oK m w.aR (by omega),e9,c2,c3,e4,Es]
    ·have hc':¬((total ts:Nat):Int)<512:=by omega
     rw[if_neg (fun h=>hc h.2)]
     unfold oe lU;simp only[h1',beq_self_eq_true,if_true,Bool.not_false,hc',decide_false,show ((1:Int)==2)=false from rfl,show ((1:Int)==3)=false from rfl,Bool.false_eq_true,if_false,e4,uM]
   ·have h1'':(w.fOp==1)=false:=by simpa using h1'
    rw[if_neg (fun h=>h1' h.1)]
    unfold oe lU;by_cases h2:w.fOp=2
    ·simp only[h2,show ((2:Int)==1)=false from rfl,show ((2:Int)==3)=false from rfl,Bool.false_eq_true,if_false,beq_self_eq_true,if_true,e4,uM]
    ·have h3:w.fOp=3:=by omega
     simp only[h3,show ((3:Int)==1)=false from rfl,show ((3:Int)==2)=false from rfl,Bool.false_eq_true,if_false,beq_self_eq_true,if_true,e4,uM]
 |_,_,0,_,_,_,_,hm,_,_=>by omega
theorem ahY (hl:ts.length+total ts<=2000000) (hn:ts.length<n):F57 n ⟨ts⟩=some ((total ts:Nat):Int):=by
 have h57:=w5 (sv n) ts hl ts 0 n 0 rfl hn (by omega)
 unfold F57 yI;simp only[show ((0:Nat):Int)=0 from rfl,Nat.zero_add] at h57;rw[h57];rfl
theorem Yl (n:Nat) (s:af) (e:Int) (he:F38 n s=some e) (hs:e=0->SOK s) (ws:Wq3) (hb:∀w∈ws,wB w) (st:ah) (hl:st.ag.length+total st.ag<=2000000) (hn:2000100<=n):F25 n s st ws=some (ovR s e st ws):=by
 unfold F25 Tq ovR;rw[Ym n s e he hs ws hb hn,Option.bind_some];by_cases h0:mB s e ws=0
 ·obtain ⟨rfl,w1,w2⟩:=EY h0;have hok:=hs rfl;rw[h0,aea (.inr (.inr rfl)) n s 0 he hs st hl hn];simp only[bne_self_eq_false,Bool.false_eq_true,if_false,if_true,Option.bind_some];by_cases h1:j0 3 s 0 st.ag=0
  ·obtain ⟨_,h2,h3⟩:=TH h1;have hlen:=h2.len;have h8:=hok.len;have er:kg (st.ag.length:Int) ([]:Wq9)=some (List.replicate st.ag.length []):=by
    unfold kg;rw[if_pos (by omega)];rfl
   rw[h1];simp only[bne_self_eq_false,Bool.false_eq_true,if_false,if_true,er,Option.bind_some];have e2:=Mt (s:=s) (HI n) st.ag (by omega) (fun rows hr=>⟨by have:=jE hr;omega,fun r hr'=>by
    obtain ⟨t,hl,rfl⟩:=List.mem_iff_getElem.1 hr;have hT:s.ag[t]? =some s.ag[t]:=List.getElem?_eq_getElem (by omega)
    have:=hZ ((h2.row t _ _ hT (List.getElem?_eq_getElem hl)).1 r hr');have:=(hok.tab (t:Int) _ (by rw[aM];exact hT)).aG
    omega⟩) ws st.ag 0 n ⟨[]⟩ ⟨List.replicate st.ag.length []⟩ rfl (by omega)
   rw[show ((0:Nat):Int)=0 from rfl,List.take_zero,List.nil_append] at e2;rw[e2];unfold HI;rw[ahY hl (by omega),Option.bind_some]
   exact Ms hok (Tt n) ws (by omega) w2 ws 0 n st.ag _ _ rfl (by omega) h2 h3
  ·have h1':(j0 3 s 0 st.ag !=0)=true:=by simpa using h1
   simp only[h1',if_true,h1,if_false]
 ·have h0':(mB s e ws !=0)=true:=by simpa using h0
  simp only[h0',if_true,h0,if_false]
end
end
def Sm (ts:cU):Prop:=ts.length<=1000/\∀rows∈ts,rows.length<=1000/\∀r∈rows,r.length<=1000
theorem Mj (n0:Nat) (a:Wq9) (hl:a.length<=1000) (hr:∀r∈a,r.length<=1000):∀(x:Wq9) (i m:Nat),a.drop i=x->x.length+2000<m->yg (He n0) m a a (a.length:Int) (i:Int)=some true
 | [],i,m+1,hd,hm=>by
  have hq':a.length<=i:=by simpa using hd
  have hq:¬((i:Int)<(a.length:Int)):=by omega
  simp only[yg,Hg,He,hq,decide_false,Bool.false_eq_true,if_false]
 |r::x,i,m+1,hd,hm=>by
  obtain ⟨g1,g2,g3⟩:=aX hd;have hq:(i:Int)<(a.length:Int):=by omega
  have hrl:=hr r (List.mem_of_getElem? g1);simp at hm;simp only[yg,Hg,hq,decide_true,if_true,aM,g1,Option.bind_some,Ck m r r (by omega) (by omega),jb,bne_self_eq_false,Bool.false_eq_true,if_false,bz g3 (by omega:a.length<4294967296)]
  exact Mj n0 a hl hr x (i+1) m g2 (by omega)
 |_,_,0,_,hm=>by simp at hm
theorem Mr (n0:Nat) (st:ah) (h:Sm st.ag):∀(x:cU) (i m:Nat),st.ag.drop i=x->x.length+5000<m->yq (HG n0) m (st.ag.length:Int) (i:Int) st st=some true
 | [],i,m+1,hd,hm=>by
  have hq':st.ag.length<=i:=by simpa using hd
  have hq:¬((i:Int)<(st.ag.length:Int)):=by omega
  simp only[yq,HH,HG,hq,decide_false,Bool.false_eq_true,if_false]
 |rows::x,i,m+1,hd,hm=>by
  obtain ⟨g1,g2,g3⟩:=aX hd;have hq:(i:Int)<(st.ag.length:Int):=by omega
  obtain ⟨h1,h2⟩:=h;obtain ⟨h3,h4⟩:=h2 rows (List.mem_of_getElem? g1);simp at hm;have e:=Mj m rows h3 h4 rows 0 m rfl (by omega)
  rw[show ((0:Nat):Int)=0 from rfl] at e;have e2:F68 m rows rows=some true:=by unfold F68 SY;simp only[bne_self_eq_false,Bool.false_eq_true,if_false];exact e
  simp only[yq,HH,hq,decide_true,if_true,aM,g1,Option.bind_some,e2,Bool.not_true,Bool.false_eq_true,if_false,bz g3 (by omega:st.ag.length<4294967296)]
  exact Mr n0 st ⟨h1,h2⟩ x (i+1) m g2 (by omega)
 |_,_,0,_,hm=>by simp at hm
theorem aaG (n:Nat) (st:ah) (h:Sm st.ag) (hn:10000<n):F27 n st st=some true:=by
 have e:=Mr n st h st.ag 0 n rfl (by have:=h.1;omega)
 rw[show ((0:Nat):Int)=0 from rfl] at e;unfold F27 Tp;simp only[bne_self_eq_false,Bool.false_eq_true,if_false];exact e
theorem StM.sm {md:Int} {s:af} {ts:cU} (hs:SOK s) (h:StM md s ts) (ht:total ts<=512):Sm ts:=by
 have h8:=hs.len;have hl:=h.len;refine ⟨by omega,fun rows hr=>⟨by have:=jE hr;omega,fun r hr'=> ?_⟩⟩
 obtain ⟨t,hl',rfl⟩:=List.mem_iff_getElem.1 hr;have hT:s.ag[t]? =some s.ag[t]:=List.getElem?_eq_getElem (by omega)
 have:=hZ ((h.row t _ _ hT (List.getElem?_eq_getElem hl')).1 r hr');have:=(hs.tab (t:Int) _ (by rw[aM];exact hT)).aG
 omega
theorem StG.size {md:Int} {s:af} {ts:cU} (hs:SOK s) (h:StG md s ts):ts.length+total ts<=100:=by
 have h1:∀(x:cU),(∀rows∈x,rows.length<=8)->total x<=8*x.length:=by
  intro x;induction x with
  |nil=>intro _;simp[total]
  |cons y x ih=>intro h;have:=ih (fun r hr=>h r (by simp[hr]));have:=h y (by simp);simp only[total,List.length_cons];omega
 have h2:=h1 ts (fun rows hr=>by
  obtain ⟨i,hi,rfl⟩:=List.mem_iff_getElem.1 hr;have hi':i<s.ag.length:=by rw[<-h.len];exact hi
  exact (h.row i _ _ (List.getElem?_eq_getElem hi') (List.getElem?_eq_getElem hi)).1)
 have h3:=h.len;have h4:=hs.len;omega
section
section
variable {s:af} {t n:Nat} {T:ay} {ts ts0:cU} {rows:Wq9} {key r:Wq2}
theorem Vz (hO:Ord T rows) (hr:r∈rows) (he:kOf T r=key):cc T key [r] rows=rows:=by
 obtain ⟨j,hj⟩:=List.getElem?_of_mem hr;have hs:rows=rows.take j++r::rows.drop (j+1):=by
  obtain ⟨h3,h4⟩:=List.getElem?_eq_some_iff.1 hj;rw[<-h4,<-List.drop_eq_getElem_cons h3,List.take_append_drop]
 have e:cc T key [r] rows=rows.take j++ [r]++rows.drop (j+1):=by
  conv=>lhs;rw[hs]
  refine rI (fun y hy=> ?_) he fun y hy=> ?_
  ·obtain ⟨k,hk⟩:=List.getElem?_of_mem hy;have hkl:=(List.getElem?_eq_some_iff.1 hk).1;rw[List.length_take] at hkl;rw[List.getElem?_take,if_pos (by omega)] at hk
   rw[<-he];exact hO.get hk hj (by omega)
  ·obtain ⟨k,hk⟩:=List.getElem?_of_mem hy;rw[List.getElem?_drop] at hk;rw[<-he];exact hO.get hj hk (by omega)
 rw[e];conv=>rhs;rw[hs]
 simp
theorem ov1 (hs:SOK s) {w:az} {cur:cU} {db:Wq9} (hb:StB s cur) (ht:w.aq=(t:Int)) (hT:s.ag[t]? =some T) (h0:ts0[t]? =some db) (hc:cur[t]? =some rows) (hg:cE T w.au rows=cE T w.au db) (hok:wOK T w=true) (hop:(cE T w.au db=none/\w.fOp=1)\/∃r,cE T w.au db=some r/\(w.fOp=2\/w.fOp=3)) (qJ:total cur<512):
  ovW s cur w=match cT s ts0 w with|some c=>fU s cur c|none=>cur:=by
 have hTi:idx s.ag w.aq=some T:=by rw[ht,aM];exact hT
 have h0i:idx ts0 w.aq=some db:=by rw[ht,aM];exact h0
 have hci:idx cur w.aq=some rows:=by rw[ht,aM];exact hc
 have htb:=hs.tab _ _ hTi;have htt:w.aq.toNat=t:=by omega
 obtain ⟨r1,r2⟩:=hb.row t T rows hT hc;have eov:ovW s cur w=match cE T w.au rows with
    |none=>if w.fOp=1/\total cur<512 then cur.set t (cc T w.au [w.aR] rows) else cur
    |some r=>if w.fOp=2 then cur.set t (cc T w.au [cH r w.ak w.aR] rows) else if w.fOp=3 then cur.set t (cc T w.au [] rows) else cur:=by
  unfold ovW;rw[hTi,hci,htt]<;>rfl
 rw[eov,hg];rcases hop with ⟨hgk,h1⟩|⟨r,hgk,h23⟩
 ·obtain ⟨a,b⟩:=xl hok h1;have hne:=tg htb a;have ec:cT s ts0 w=some (aB.mk w.aq [] w.aR):=by simp only[cT,hTi,h0i,hgk]
  rw[hgk,ec];simp only;rw[if_pos (⟨h1,qJ⟩:w.fOp=1/\total cur<512),nI (c:=aB.mk w.aq [] w.aR) ht hT hc];simp only[dN,gd,if_true,hne,if_false,b]
 ·have hgr:=hg.trans hgk;have jV:=jm hgr;have kj:=kG hgr;have hrk:=r1 r jV;have uA:=tg htb hrk;rw[hgk];by_cases h2:w.fOp=2
  ·obtain ⟨a,b⟩:=NW htb hok h2 hrk;have hne:=tg htb a;by_cases h3:bL r (cH r w.ak w.aR)=0
   ·have e:=iO h3;have ec:cT s ts0 w=none:=by simp only[cT,hTi,h0i,hgk,h2,if_true,h3]
    have uM:cur.set t rows=cur:=by
     obtain ⟨q1,q2⟩:=List.getElem?_eq_some_iff.1 hc;rw[<-q2];exact List.set_getElem_self q1
    rw[ec];simp only[h2,if_true];rw[<-e,Vz r2 jV kj,uM]
   ·have ec:cT s ts0 w=some (aB.mk w.aq r (cH r w.ak w.aR)):=by simp only[cT,hTi,h0i,hgk,h2,if_true,h3,if_false]
    rw[ec];simp only[h2,if_true];rw[nI (c:=aB.mk w.aq r (cH r w.ak w.aR)) ht hT hc];simp only[dN,gd,uA,hne,if_false,kj]
  ·have h3:w.fOp=3:=h23.resolve_left h2;have ec:cT s ts0 w=some (aB.mk w.aq r []):=by simp only[cT,hTi,h0i,hgk,h2,if_false]
   rw[ec];simp only;rw[if_neg h2,if_pos h3,nI (c:=aB.mk w.aq r []) ht hT hc];simp only[dN,gd,uA,if_true,if_false,kj]
theorem B7 (s:af) (ts:cU) (c:aB):total (fU s ts c)<=total ts+1:=by
 unfold fU;split
 ·rename_i T rows hT hr;obtain ⟨_,_,h3⟩:=mK hr;have h1:=iV (rows':=cc T (dN T c) (gd c) rows) h3;have h2:=zx (T:=T) (dN T c) (gd c) rows;have h4:=Ku c;omega
 ·omega
theorem B5 (s:af):∀(cs:Wq5) (ts:cU),total (cs.foldl (fU s) ts)<=total ts+cs.length
 | [],ts=>by simp
 |c::cs,ts=>by
  have h1:=B7 s ts c;have h2:=B5 s cs (fU s ts c);simp only[List.foldl_cons,List.length_cons];omega
theorem Fc (hs:SOK s):∀(ws:Wq3) (cur:cU),StB s cur->ws.Pairwise wlt->(∀w∈ws,Acc s ts0 w)->(∀w∈ws,∀(t:Nat) T db rows,w.aq=(t:Int)->s.ag[t]? =some T->ts0[t]? =some db->cur[t]? =some rows->cE T w.au rows=cE T w.au db)->total cur+ws.length<=512->
  ws.foldl (ovW s) cur=(ws.filterMap (cT s ts0)).foldl (fU s) cur
 | [],cur,_,_,_,_,_=>rfl
 |w::ws,cur,hb,hp,ha,hg,qJ=>by
  obtain ⟨p1,p2⟩:=List.pairwise_cons.1 hp;obtain ⟨t,T,db,ht,hT,h0,hok,hop⟩:=ha w (by simp)
  have hlt:t<cur.length:=by rw[hb.len];exact (List.getElem?_eq_some_iff.1 hT).1
  have hc:cur[t]? =some cur[t]:=List.getElem?_eq_getElem hlt;simp at qJ;have e1:=ov1 hs hb ht hT h0 hc (hg w (by simp) t T db _ ht hT h0 hc) hok hop (by omega)
  obtain ⟨s1,rows',s2,s3,s4⟩:=aaS hs hb ht hT h0 hc (hg w (by simp) t T db _ ht hT h0 hc) hok hop
  have Es:total (cur.set t rows')<=total cur+1:=by
   rw[<-s2];cases cT s ts0 w with
   |none=>simp
   |some c=>exact B7 s cur c
  have get':∀{u:Nat} {rs:Wq9},(cur.set t rows')[u]? =some rs->(u=t/\rs=rows')\/(u≠t/\cur[u]? =some rs):=by
   intro u rs h;by_cases e:u=t
   ·subst e;rw[List.getElem?_set_self hlt] at h;cases h;exact .inl ⟨rfl,rfl⟩
   ·rw[List.getElem?_set_ne (fun e'=>e e'.symm)] at h;exact .inr ⟨e,h⟩
  have ih:=Fc hs ws (cur.set t rows') s3 p2 (fun v hv=>ha v (by simp[hv])) (fun v hv u U qp rs hu hU h0' hrs=>by
   rcases get' hrs with ⟨rfl,rfl⟩|⟨hne,hrs⟩
   ·rw[hT] at hU;cases hU;rw[s4,if_neg (fun e=>Ia (p1 v hv) (ht.trans hu.symm) e.symm)]
    exact hg v (by simp[hv]) u T qp _ hu hT h0' hc
   ·exact hg v (by simp[hv]) u U qp rs hu hU h0' hrs) (by omega)
  have RJ:((w::ws).filterMap (cT s ts0)).foldl (fU s) cur=(ws.filterMap (cT s ts0)).foldl (fU s) (cur.set t rows'):=by
   rw[List.filterMap_cons,<-s2];cases cT s ts0 w<;>rfl
  have e2:ovW s cur w=cur.set t rows':=e1.trans s2;rw[RJ,List.foldl_cons,e2,ih]
end
theorem StG.b {s:af} {ts:cU} (hs:SOK s) (h:StG 1 s ts):StB s ts:=⟨h.len,fun t T rows hT hr=>⟨fun r hr'=>by
 have ht:=hs.tab (t:Int) T (by rw[aM];exact hT)
 rw[<-zu (key:=T.au) (i:=0) ht.ks];exact (h.row t T rows hT hr).2 r hr',h.ord t T rows hT hr⟩⟩
theorem YH (aS:Wq0) (hb:∀x∈aS,0<=x/\x<=255):F7 4000000 aS=some true:=by
 unfold F7 aaM;obtain ⟨c,hc,c1⟩:=alW 4000000 aS 400 hb (by omega) (by omega)
 rw[hc,Option.bind_some];obtain ⟨sc,hsc,s1,s2⟩:=alV 4000000 (by omega) (by omega) c c1
 have hs:=s2.ok;rw[hsc,Option.bind_some];obtain ⟨⟨⟨ts0⟩,cst⟩,hst,st1,st2⟩:=aeb 1 4000000 (by omega) sc.1 hs sc.2 s1
 rw[hst,Option.bind_some];simp only at st1 st2 ⊢;obtain ⟨⟨⟨tl⟩,cl⟩,hlo,lo1,lo2⟩:=aeb 3 4000000 (by omega) sc.1 hs cst st1
 rw[hlo,Option.bind_some];simp only at lo1 lo2 ⊢;have hw:=ama 1 4000000 (by omega) sc.1 hs s2.pos cl lo1 ⟨ts0⟩ st2 5 (by omega)
 rw[show ((5:Nat):Int)=5 from rfl] at hw;obtain ⟨⟨ws,cw⟩,hws,w1,w2,w3⟩:=hw;rw[hws,Option.bind_some];simp only at w1 w2 w3 ⊢;have z0:=st2.size hs;have zl:=lo2.size hs;have h0:=st2.b hs;have he:F38 4000000 sc.1=some 0:=by
  have:=aic 4000000 sc.1 s2.sz (by omega) (by omega)
  rwa[s2.chk] at this
 have hg:=vt w2;have hwB:∀w∈ws,wB w:=fun w hw=>(ZU hs (hg w hw)).wB (by omega)
 have htc:mB sc.1 0 ws=0:=by unfold mB;rw[if_pos rfl,if_neg (by omega),w2]
 have m0:StM 3 sc.1 ts0:=st2.m.mono hs;have c0:j0 3 sc.1 0 ts0=0:=m0.chk (by omega)
 have cL:j0 3 sc.1 0 tl=0:=lo2.m.chk (by omega)
 obtain ⟨v1,v2⟩:=J7 hs ws tl lo2.m (by omega) hg
 have e1:F25 4000000 sc.1 ⟨ts0⟩ ws=some (⟨ws.foldl (ovW sc.1) ts0⟩,0):=by
  rw[Yl 4000000 sc.1 0 he (fun _=>hs) ws hwB ⟨ts0⟩ (by simp only;omega) (by omega)]
  unfold ovR;rw[if_pos htc,if_pos c0]
 have e2:F25 4000000 sc.1 ⟨tl⟩ ws=some (⟨ws.foldl (ovW sc.1) tl⟩,0):=by
  rw[Yl 4000000 sc.1 0 he (fun _=>hs) ws hwB ⟨tl⟩ (by simp only;omega) (by omega)]
  unfold ovR;rw[if_pos htc,if_pos cL]
 have hch:F16 4000000 sc.1 ⟨ts0⟩ ws=some (iM sc.1 ts0 ws []):=by
  rw[aik 4000000 sc.1 0 he (fun _=>hs) ws hwB ⟨ts0⟩ (by simp only;omega) (by omega)]
  unfold aau;rw[if_pos htc,if_pos (h0.chk (by omega))]
 have e3:F28 4000000 sc.1 3 ⟨ws.foldl (ovW sc.1) tl⟩=some 0:=by
  have hl:=v1.len;have h8:=hs.len;rw[aea (.inr (.inr rfl)) 4000000 sc.1 0 he (fun _=>hs) _ (by simp only;omega) (by omega),v1.chk v2]
 have e15:F15 4000000=some true:=rfl;rw[e1,Option.bind_some,hch,Option.bind_some,e2,Option.bind_some];rcases Pd st2.len ws [] hg with ⟨ha,he1⟩|⟨rf,hr1,he1⟩
 ·obtain ⟨p1,_⟩:=Ar w2;have rW:∀w∈ws,∀(t:Nat) T db rows,w.aq=(t:Int)->sc.1.ag[t]? =some T->ts0[t]? =some db->ts0[t]? =some rows->cE T w.au rows=cE T w.au db:=fun w _ t T db rows _ _ h1 h2=>by rw[h1] at h2;cases h2;rfl
  obtain ⟨i1,i2,i3,i4⟩:=writes hs ws ts0 h0 p1 ha rW;have hov:=Fc hs ws ts0 h0 p1 ha rW (by omega)
  rw[he1,List.nil_append];have hcl:(ws.filterMap (cT sc.1 ts0)).length<=ws.length:=List.length_filterMap_le _ _;have hfl:=B5 sc.1 (ws.filterMap (cT sc.1 ts0)) ts0;have hsm:Sm ((ws.filterMap (cT sc.1 ts0)).foldl (fU sc.1) ts0):=by
   rw[<-hov];obtain ⟨a,b⟩:=J7 hs ws ts0 m0 (by omega) hg
   exact a.sm hs b
  simp only[bne_self_eq_false,Bool.false_eq_true,if_false,e3,Option.bind_some,show (ug.dI !=0)=false from rfl,aij (n:=4000000) hs he h0 i1 (by omega) (by omega),beq_self_eq_true,if_true,hov,aaG 4000000 ⟨(ws.filterMap (cT sc.1 ts0)).foldl (fU sc.1) ts0⟩ hsm (by omega),e15]
 ·rw[he1];have hr1':(rf.dI !=0)=true:=by simpa using hr1
  simp only[bne_self_eq_false,Bool.false_eq_true,if_false,e3,Option.bind_some,hr1',if_true,e15]
theorem ZC {k:IntKind} {n:Int} (h:BJ (.int k n)):k.min<=n/\n<=k.max:=by
 simpa[BJ,Lit.wf] using h
theorem wC:∀{rows:List (List AV)},qT rows->∀r∈rows,mQ r
 | [],_,_,h=>by simp at h
 |r::rs,h,x,hx=>by
  rcases List.mem_cons.1 hx with rfl|hx
  ·exact h.1
  ·exact wC h.2 x hx
theorem R2 {aS:Wq0} (h:BJ (.slx 5 1 (nT aS))):∀x∈aS,0<=x/\x<=255:=by
 intro x hx;have h1:=wC (show qT (nT aS) from h) (LD x) (List.mem_map.2 ⟨x,hx,rfl⟩);have h2:=ZC (show BJ (.int .u8 x) from h1.1);simpa[IntKind.min,IntKind.max,IntKind.signed,IntKind.bits] using h2
theorem agj (y0:Wq0) (h0:mQ [.slx 5 1 (nT y0)]) (hb:fX [.slx 5 1 (nT y0)]<=1048576):∃n,F7 n y0=some true:=⟨4000000,YH y0 (R2 h0.1)⟩
end
end Go.Proofs.YtmealahmjddpcaaGreatDoor
end
