/- Texts that belong together. The first: Plain laws: the made writes are valid. Condition: enough steps. -/
import Derived.Test.YtmealahmjddpcaaGreatDoorP11
import Derived.Test.YtmealahmjddpcaaGreatDoorP10
set_option linter.all false
set_option maxRecDepth 100000
noncomputable section
namespace Go.Proofs.YtmealahmjddpcaaGreatDoor
open Go.Sim
theorem EA:∀{ks:List Int} {r:List ae} (j:Nat),bg ks r=true→bg (ks.take j) (r.take j)=true
 |_,_,0,_=>by simp[bg]
 | [],[],j+1,_=>rfl
 |k::ks,v::r,j+1,h=>by
  simp only[bg,Bool.and_eq_true] at h;simp only[List.take_succ_cons,bg,Bool.and_eq_true];exact ⟨h.1,EA j h.2⟩
 | [],_::_,_+1,h=>by simp[bg] at h
 |_::_,[],_+1,h=>by simp[bg] at h
theorem I1:∀{ks:List Int} {a b:List ae} (j:Nat),bg ks a=true→bg ks b=true→bg ks (a.take j++b.drop j)=true
 |_,_,_,0,_,h=>by simpa using h
 | [],[],[],j+1,_,_=>rfl
 |k::ks,v::a,w::b,j+1,h1,h2=>by
  simp only[bg,Bool.and_eq_true] at h1 h2;simp only[List.take_succ_cons,List.drop_succ_cons,List.cons_append,bg,Bool.and_eq_true];exact ⟨h1.1,I1 j h1.2 h2.2⟩
 | [],_::_,_,_+1,h,_=>by simp[bg] at h
 |_::_,[],_,_+1,h,_=>by simp[bg] at h
 | [],[],_::_,_+1,_,h=>by simp[bg] at h
 |_::_,_::_,[],_+1,_,h=>by simp[bg] at h
theorem I2:∀{ks:List Int} {r:List ae} {i:Nat} {v:ae},bg ks r=true→r[i]? =some v→∃k,ks[i]? =some k∧v.aD=k∧iq v=true
 |k::ks,w::r,0,v,h,hv=>by
  simp only[bg,Bool.and_eq_true,beq_iff_eq] at h;simp at hv;subst hv;exact ⟨k,rfl,h.1.2,h.1.1⟩
 |k::ks,w::r,i+1,v,h,hv=>by
  simp only[bg,Bool.and_eq_true] at h;simpa using I2 h.2 (by simpa using hv)
 | [],[],_,_,_,hv=>by simp at hv
 | [],_::_,_,_,h,_=>by simp[bg] at h
 |_::_,[],_,_,_,hv=>by simp at hv
def AI:Int→List Int→Int
 |l,[]=>l
 |_,c::cs=>AI c cs
theorem AH:∀(l:Int) (cs:List Int) (c:Int),AI l (cs++ [c])=c
 |_,[],_=>rfl
 |_,d::cs,c=>AH d cs c
theorem Bu (ks:List Int):∀{last:Int} {cs l:List Int} {c k:Int},dT ks last cs=some l→AI last cs<c→0≤c→ks[c.toNat]? =some k→dT ks last (cs++ [c])=some (l++ [k])
 |last,[],l,c,k,h,h1,h2,hk=>by
  simp[dT] at h;subst h;have hlt:=(List.getElem?_eq_some_iff.1 hk).1;have:last<c∧c<(ks.length:Int):=⟨h1,by omega⟩
  simp[dT,this,hk]
 |last,d::cs,l,c,k,h,h1,h2,hk=>by
  simp only[dT] at h;split at h
  ·rename_i hd;cases h3:dT ks d cs with
   |none=>rw[h3] at h;cases h
   |some l'=>
    rw[h3] at h;simp at h;subst h;have:=Bu ks h3 h1 h2 hk;simp only[List.cons_append,dT,hd,and_self,if_true,this];simp
  ·cases h
def oo (s:ag) (w:ar):Prop:=∃T,idx s.ah w.ax=some T∧¬(w.fOp<1∨3<w.fOp)∧wOK T w=true
theorem jx {s:ag} {prev:Option ar} {w:ar} {ws:List ar}:fg s prev (w::ws)=0↔oo s w∧oH prev w=false∧fg s (some w) ws=0:=by
 constructor
 ·intro h;simp only[fg] at h;cases hT:idx s.ah w.ax with
  |none=>simp[hT] at h
  |some T=>
   simp only[hT] at h;split at h
   ·cases h
   ·rename_i h1;split at h
    ·cases h
    ·rename_i h2;split at h
     ·cases h
     ·rename_i h3;exact ⟨⟨T,hT,h1,by simpa using h2⟩,by simpa using h3,h⟩
 ·rintro ⟨⟨T,hT,h1,h2⟩,h3,h4⟩;simp only[fg,hT,h1,h2,h3,h4,if_false,Bool.not_true,Bool.false_eq_true]
def AF:Option ar→List ar→Option ar
 |p,[]=>p
 |_,x::a=>AF (some x) a
theorem Ep {s:ag} {w:ar} {b:List ar} (hw:oo s w) (hb:∀y,b.head? =some y→oH (some w) y=false):∀{a:List ar} {prev:Option ar},fg s prev (a++b)=0→oH (AF prev a) w=false→fg s prev (a++w::b)=0
 | [],prev,h,hl=>by
  rw[List.nil_append,jx];refine ⟨hw,hl,?_⟩;cases b with
  |nil=>rfl
  |cons y b=>
   obtain ⟨h1,_,h3⟩:=jx.1 h;exact jx.2 ⟨h1,hb y rfl,h3⟩
 |x::a,prev,h,hl=>by
  obtain ⟨h1,h2,h3⟩:=jx.1 h;exact jx.2 ⟨h1,h2,Ep hw hb h3 hl⟩
theorem uS {s:ag}:∀{ws:List ar} {prev:Option ar},fg s prev ws=0→∀w∈ws,oo s w
 | [],_,_,w,hw=>by cases hw
 |x::ws,prev,h,w,hw=>by
  obtain ⟨h1,_,h3⟩:=jx.1 h;rcases List.mem_cons.1 hw with rfl|hw
  ·exact h1
  ·exact uS h3 w hw
theorem EH:∀{a:List ar} {p:Option ar},AF p a=if a= [] then p else a[a.length-1]?
 | [],p=>rfl
 | [x],p=>by simp[AF]
 |x::y::a,p=>by
  have:=EH (a:=y::a) (p:=some x);simp only[AF] at this ⊢;simpa using this
theorem zg {s:ag} (hs:SOK s) {w:ar} (h:oo s w):w.aA.length≤8:=by
 obtain ⟨T,hT,_,h2⟩:=h;have ht:=hs.tab _ _ hT;have:=ht.aG;have:=ht.cL;have:=y6 ht;simp only[wOK,Bool.and_eq_true] at h2;have:=dK h2.1;omega
theorem vL {s:ag} (hs:SOK s) {w:ar} (h:oo s w):w.aq.length≤100:=by
 obtain ⟨T,hT,h1,h2⟩:=h;have ht:=hs.tab _ _ hT;have hc:=ht.aG;have k1:=ht.ia;simp only[wOK,g6,Bool.and_eq_true] at h2;have h2:=h2.2;split at h2
 ·simp at h2;simp[h2.1]
 ·split at h2
  ·cases hcl:dT (bc T) (T.aA-1) w.aq with
   |none=>rw[hcl] at h2;cases h2
   |some l=>
    have hb:∀{cs:List Int} {last:Int} {l:List Int}, -1≤last→dT (bc T) last cs=some l→(cs.length:Int)+last≤8∨cs= []:=by
     intro cs;induction cs with
     |nil=>intro last l _ _;exact .inr rfl
     |cons c cs ih=>
      intro last l hl h;simp only[dT] at h;split at h
      ·rename_i hd;cases h3:dT (bc T) c cs with
       |none=>rw[h3] at h;cases h
       |some l'=>
        have hkl:=dg T;rcases ih (by omega) h3 with h4|rfl
        ·left;simp;omega
        ·left;simp;omega
      ·cases h
    rcases hb (by omega) hcl with h|h
    ·omega
    ·simp[h]
  ·simp at h2;simp[h2.1]
theorem XD (n0:Nat) (s:ag) (t:Nat) (T:au) (hT:s.ah[t]? =some T) (ht:cE T) (key:List ae) (rows:List (List ae)) (hl:rows.length≤100) (hr:∀r∈rows,r.length=T.aq.length):∀(x:List (List ae)) (i m:Nat),rows.drop i=x→x.length+100<m→
  Ok (xC (GA n0) m (t:Int) key rows (rows.length:Int) (i:Int) s) fun r=>r= -1∨(0≤r∧r<(rows.length:Int))
 | [],i,m+1,hd,hm=>by
  have:rows.length≤i:=by simpa using hd
  have hq:¬((i:Int)<(rows.length:Int)):=by omega
  simp only[xC,GB,GA,hq,decide_false,Bool.false_eq_true,if_false];exact Ok.pure (.inl rfl)
 |r::x,i,m+1,hd,hm=>by
  obtain ⟨g1,g2,g3⟩:=ba hd;have hq:(i:Int)<(rows.length:Int):=by omega
  have hTi:idx s.ah (t:Int)=some T:=by rw[aO];exact hT
  have hc:=ht.aG;have hk2:=ht.cL;simp at hm;simp only[xC,GB,hq,decide_true,if_true,aO,g1,Option.bind_some,BS (n:=m) hTi ht r (hr r (List.mem_of_getElem? g1)),qG m (r.take T.aA.toNat) key (by simp;omega) (by simp;omega),bA g3 (by omega)]
  refine Ok.ite (fun _=>Ok.pure (.inr ⟨by omega,hq⟩)) fun _=> ?_
  exact XD n0 s t T hT ht key rows hl hr x (i+1) m g2 (by omega)
 |_,_,0,_,hm=>by simp at hm
theorem ahg (n:Nat) (hn:1000<n) (s:ag) (t:Nat) (T:au) (hT:s.ah[t]? =some T) (ht:cE T) (key:List ae) (st:aj) (rows:List (List ae)) (dh:st.ah[t]? =some rows) (hl:rows.length≤100) (hr:∀r∈rows,r.length=T.aq.length):Ok (F35 n s st (t:Int) key) fun _=>True:=by
 have h1:t<s.ah.length:=(List.getElem?_eq_some_iff.1 hT).1;have h2:t<st.ah.length:=(List.getElem?_eq_some_iff.1 dh).1;have e1:¬(t:Int)<0:=by omega
 have e2:(t:Int)<(s.ah.length:Int):=by omega
 have e3:(t:Int)<(st.ah.length:Int):=by omega
 have hc:=ht.aG;unfold F35 SS F75 Sg;simp only[e1,e2,e3,decide_false,decide_true,Bool.not_true,Bool.false_eq_true,if_false,aO,dh,Option.bind_some];refine Ok.bind (XD n s t T hT ht key rows hl hr rows 0 n rfl (by omega)) fun q hq=> ?_
 refine Ok.ite (fun _=>Ok.pure trivial) fun hq'=> ?_
 simp at hq';have hq:0≤q∧q<(rows.length:Int):=hq.resolve_left (by omega)
 have hg:idx rows q=some (rows[q.toNat]'(by omega)):=by unfold idx;rw[if_pos hq.1];exact List.getElem?_eq_getElem _
 rw[hg,Option.bind_some,BR _ (by rw[hr _ (List.getElem_mem _)];omega)]
 exact Ok.pure trivial
abbrev KW:=Int→an→ag→aj→List ar→Option (List ar×an)
def Cv (s:ag) (k:KW) (n10:Int) (N:Nat) (Q:List ar×an→Prop):Prop:=∀c st ws,bh c→so s st.ah→fg s none ws=0→ws.length≤N→Ok (k (w64 (n10-1)) c s st ws) Q
theorem uG (s:ag) (hs:SOK s) (k:KW) (N:Nat) (hN:N≤100) (Q:List ar×an→Prop) (n10 a1':Int) (hk:Cv s k n10 (N+1) Q) (a1:List au) (a2:Int) (c:an) (hc:bh c) (st:aj) (hst:so s st.ah) (ws:List ar) (hws:fg s none ws=0) (hl:ws.length≤N) (w:ar) (hw:oo s w) (n0:Nat):∀(i m at_:Nat) (tw:Bool) (cs:List Int) (vs:List ae),i≤ws.length→i+100<m→at_≤ws.length→i≤at_→
  (∀j y,i≤j→j<at_→ws[j]? =some y→gF w.ax w.aA y.ax y.aA≠ -1)→(∀y,ws[at_]? =some y→gF w.ax w.aA y.ax y.aA= -1)→(tw=false→∀j y,i≤j→ws[j]? =some y→gF w.ax w.aA y.ax y.aA≠0)→
  Ok (xT (Hl k n0) m n10 (at_:Int) tw ((i:Int)-1) a1 a2 c s st ws ⟨w.fOp,w.ax,w.aA,cs,vs⟩ w.aq w.aV) Q
 |0,m+1,at_,tw,cs,vs,hi,hm,ha,hia,p1,p2,p3=>by
  have hq:((0:Nat):Int)-1<0:=by omega
  simp only[xT,Hm,Hl,hq,decide_true,Bool.not_true,Bool.false_eq_true,if_false];refine Ok.ite (fun htw=> ?_) fun _=>hk c st ws hc hst hws (by omega)
  have htw:tw=false:=by simpa using htw
  have p3:=p3 htw;have e1:iA ws.length (at_:Int)=some at_:=by unfold iA;rw[if_pos (by omega)];rfl
  have e2:ug ws.length (at_:Int)=some at_:=by unfold ug;rw[if_pos (by omega)];rfl
  have e3:(ws.drop (0+at_)).take (ws.length-at_)=ws.drop at_:=by rw[Nat.zero_add];exact List.take_of_length_le (by simp)
  simp only[e1,e2,Option.bind_some,e3];rw[dy _ _ (by simp;omega),Option.bind_some]
  have e4:wj ws at_ ([w]++ws.drop at_)=some (ws.take at_++([w]++ws.drop at_)):=by unfold wj;rw[if_pos (by simp;omega)]
  rw[show (ar.mk w.fOp w.ax w.aA w.aq w.aV)=w from rfl,e4,Option.bind_some];refine hk c st _ hc hst ?_ (by simp;omega)
  show fg s none (ws.take at_++w::ws.drop at_)=0;refine Ep hw (fun y hy=> ?_) (by rw[List.take_append_drop];exact hws) ?_
  ·rw[List.head?_drop] at hy;have:=p2 y hy;simp only[oH,this];rfl
  ·rw[EH];split
   ·rfl
   ·rename_i hne;have hat:0<at_:=by
     rcases Nat.eq_zero_or_pos at_ with h|h
     ·subst h;simp at hne
     ·exact h
    have hlen:(ws.take at_).length=at_:=by rw[List.length_take];omega
    rw[hlen,List.getElem?_take,if_pos (by omega)]
    have hg:ws[at_-1]? =some (ws[at_-1]'(by omega)):=List.getElem?_eq_getElem _
    rw[hg];generalize ws[at_-1]=y at hg;have q1:=p1 (at_-1) y (by omega) (by omega) hg
    have q2:=p3 (at_-1) y (by omega) hg
    have q3:=Rz w.ax w.aA y.ax y.aA;have q4:=Z5 w.ax w.aA y.ax y.aA;have:gF y.ax y.aA w.ax w.aA<0:=by omega
    simp[oH,this]
 |i+1,m+1,at_,tw,cs,vs,hi,hm,ha,hia,p1,p2,p3=>by
  have hq:¬(((i+1:Nat):Int)-1<0):=by omega
  have e:((i+1:Nat):Int)-1=(i:Int):=by omega
  have e1:bnd ws.length (((i+1:Nat):Int)-1)=some i:=by rw[e];unfold bnd;rw[if_pos (by omega)];rfl
  have e2:ws[0+i]? =some (ws[i]'(by omega)):=by rw[Nat.zero_add];exact List.getElem?_eq_getElem _
  have hg:ws[i]? =some (ws[i]'(by omega)):=List.getElem?_eq_getElem _
  generalize ws[i]=y at e2 hg;have hkl:=zg hs hw;have hw2:w64 (((i+1:Nat):Int)-1-1)=(i:Int)-1:=by rw[bY (by omega) (by omega)];omega
  simp only[xT,Hm,hq,decide_false,Bool.not_false,if_true,e1,e2,Option.bind_some,ahf m w.ax y.ax w.aA y.aA (by omega) (by omega),hw2]
  refine Ok.ite (fun h0=> ?_) fun h0=> ?_
  ·have h0:gF w.ax w.aA y.ax y.aA=0:=by simpa using h0
   refine uG s hs k N hN Q n10 a1' hk a1 a2 c hc st hst ws hws hl w hw n0 i m at_ true _ _ (by omega) (by omega) ha (by omega) (fun j z h1 h2 hz=> ?_) p2 (fun h=>by cases h)
   by_cases hj:j=i
   ·subst hj;rw[hg] at hz;cases hz;omega
   ·exact p1 j z (by omega) h2 hz
  ·have h0:gF w.ax w.aA y.ax y.aA≠0:=by simpa using h0
   have p3':tw=false→∀j z,i≤j→ws[j]? =some z→gF w.ax w.aA z.ax z.aA≠0:=fun h j z h1 hz=>by
    by_cases hj:j=i
    ·subst hj;rw[hg] at hz;cases hz;exact h0
    ·exact p3 h j z (by omega) hz
   refine Ok.ite (fun h1=> ?_) fun h1=> ?_
   ·have h1:gF w.ax w.aA y.ax y.aA= -1:=by simpa using h1
    rw[e];refine uG s hs k N hN Q n10 a1' hk a1 a2 c hc st hst ws hws hl w hw n0 i m i tw _ _ (by omega) (by omega) (by omega) (Nat.le_refl _) (fun j z h1 h2=>by omega) (fun z hz=>by rw[hg] at hz;cases hz;exact h1) p3'
   ·have h1:gF w.ax w.aA y.ax y.aA≠ -1:=by simpa using h1
    refine uG s hs k N hN Q n10 a1' hk a1 a2 c hc st hst ws hws hl w hw n0 i m at_ tw _ _ (by omega) (by omega) ha (by omega) (fun j z h2 h3 hz=> ?_) p2 p3'
    by_cases hj:j=i
    ·subst hj;rw[hg] at hz;cases hz;exact h1
    ·exact p1 j z (by omega) h3 hz
 |_,0,_,_,_,_,_,hm,_,_,_,_,_=>by omega
theorem Mi (s:ag) (hs:SOK s) (k:KW) (N:Nat) (hN:N≤100) (Q:List ar×an→Prop) (n10:Int) (hk:Cv s k n10 (N+1) Q) (a1:List au) (a2:Int) (c:an) (hc:bh c) (st:aj) (hst:so s st.ah) (ws:List ar) (hws:fg s none ws=0) (hl:ws.length≤N) (w:ar) (hw:oo s w) (n:Nat) (hn:1000<n) (cs:List Int) (vs:List ae):
  Ok (uK k n n10 a1 a2 c s st ws ⟨w.fOp,w.ax,w.aA,cs,vs⟩ w.aq w.aV) Q:=by
 unfold uK;rw[bY (by omega) (by omega)]
 exact uG s hs k N hN Q n10 0 hk a1 a2 c hc st hst ws hws hl w hw n ws.length n ws.length false _ _ (Nat.le_refl _) (by omega) (Nat.le_refl _) (Nat.le_refl _) (fun j y h1 h2=>by omega) (fun y hy=>by rw[List.getElem?_eq_none (Nat.le_refl _)] at hy;cases hy) (fun _ j y h1 hy=>by have:=(List.getElem?_eq_some_iff.1 hy).1;omega)
theorem aab (s:ag) (hs:SOK s) (k:KW) (N:Nat) (hN:N≤100) (Q:List ar×an→Prop) (n10:Int) (hk:Cv s k n10 (N+1) Q) (a1:List au) (a2:Int) (st:aj) (hst:so s st.ah) (ws:List ar) (hws:fg s none ws=0) (hl:ws.length≤N) (t:Int) (T:au) (hT:idx s.ah t=some T) (row:List ae) (eA:bg (bc T) row=true) (key:List ae) (ml:bg (vC T) key=true) (op:Int) (hop:op=2∨op=3) (n0:Nat) (hn0:1000<n0):∀(x:List ae) (i m:Nat) (c:an) (cs0 cs:List Int) (vs0 vs:List ae) (l:List Int),row.drop i=x→x.length<m→bh c→dT (bc T) (T.aA-1) cs=some l→bg l vs=true→AI (T.aA-1) cs<(i:Int)→cs.length≤i→vs.length≤i→(op=3→cs= []∧vs= [])→
  Ok (xU (uK k n0) m n10 (i:Int) a1 a2 c s st ws row ⟨op,t,key,cs0,vs0⟩ cs vs) Q:=by
 have ht:=hs.tab _ _ hT;have hcl:=ht.aG;have hkl:=dg T;have hrl:=dK eA;have k1:=ht.ia;have fin:∀(c:an) (cs0 cs:List Int) (vs0 vs:List ae) (l:List Int),bh c→dT (bc T) (T.aA-1) cs=some l→bg l vs=true→(op=3→cs= []∧vs= [])→Ok (uK k n0 n10 a1 a2 c s st ws ⟨op,t,key,cs0,vs0⟩ cs vs) Q:=by
  intro c cs0 cs vs0 vs l hc h1 h2 h3;refine Mi s hs k N hN Q n10 hk a1 a2 c hc st hst ws hws hl ⟨op,t,key,cs,vs⟩ ⟨T,hT,by simp only;omega,?_⟩ n0 hn0 _ _
  rcases hop with rfl|rfl
  ·simp[wOK,ml,g6,h1,h2]
  ·obtain ⟨rfl,rfl⟩:=h3 rfl;simp[wOK,ml,g6]
 intro x;induction x with
 |nil=>
  intro i m c cs0 cs vs0 vs l hd hm hc h1 h2 h3 _ _ h4;obtain ⟨m,rfl⟩:∃m',m=m'+1:=⟨m-1,by simp at hm;omega⟩
  have hq':row.length≤i:=by simpa using hd
  have hq:¬((i:Int)<(row.length:Int)):=by omega
  simp only[xU,Hn,hq,decide_false,Bool.false_eq_true,if_false];exact fin c _ cs _ vs l hc h1 h2 h4
 |cons v x ih=>
  intro i m c cs0 cs vs0 vs l hd hm hc h1 h2 h3 hcs hvs h4;obtain ⟨m,rfl⟩:∃m',m=m'+1:=⟨m-1,by simp at hm;omega⟩
  obtain ⟨g1,g2,g3⟩:=ba hd;have hq:(i:Int)<(row.length:Int):=by omega
  simp only[xU,Hn,hq,decide_true,if_true];refine Ok.ite (fun ho=> ?_) fun _=>fin c _ cs _ vs l hc h1 h2 h4
  have ho:op=2:=by simpa using ho
  refine Ok.bind (kB m c 2 hc) fun b hb=> ?_
  rw[bA g3 (by omega)]
  refine Ok.ite (fun _=> ?_) fun _=> ?_
  ·have e1:bnd row.length (i:Int)=some i:=by unfold bnd;rw[if_pos (by omega)];rfl
   obtain ⟨kk,q1,q2,q3⟩:=I2 eA g1;rw[dy _ _ (by simp;omega),Option.bind_some,e1,Option.bind_some,Nat.zero_add,g1,Option.bind_some,dy _ _ (by simp;omega),Option.bind_some]
   refine ih (i+1) m b.2 _ _ _ _ (l++ [kk]) g2 (by simp at hm;omega) hb (Bu _ h1 h3 (by omega) (by simpa using q1)) (vg h2 q2 q3) (by rw[AH];omega) (by simp;omega) (by simp;omega) (fun h=>by omega)
  ·exact ih (i+1) m b.2 _ _ _ _ l g2 (by simp at hm;omega) hb h1 h2 (by omega) (by omega) (by omega) h4
theorem aaj (s:ag) (hs:SOK s) (k:KW) (N:Nat) (hN:N≤100) (Q:List ar×an→Prop) (n10:Int) (hk:Cv s k n10 (N+1) Q) (a1:List au) (a2:Int) (c:an) (hc:bh c) (st:aj) (hst:so s st.ah) (ws:List ar) (hws:fg s none ws=0) (hl:ws.length≤N) (t:Nat) (T:au) (hT:s.ah[t]? =some T) (row:List ae) (eA:bg (bc T) row=true) (n:Nat) (hn:2000<n):
  Ok (ye k n n10 (t:Int) a1 a2 c s st ws row) Q:=by
 have hTi:idx s.ah (t:Int)=some T:=by rw[aO];exact hT
 have ht:=hs.tab _ _ hTi;have hcl:=ht.aG;have hkl:=dg T;have hrl:=dK eA;have k1:=ht.ia;have k2:=ht.cL;have htl:t<s.ah.length:=(List.getElem?_eq_some_iff.1 hT).1;have hsl:t<st.ah.length:=by rw[hst.len];exact htl
 have dh:st.ah[t]? =some st.ah[t]:=List.getElem?_eq_getElem hsl;generalize st.ah[t]=rows at dh;obtain ⟨r1,r2⟩:=hst.row t T rows hT dh;have e1:iA row.length T.aA=some T.aA.toNat:=by unfold iA;rw[if_pos (by omega)]
 have ml:bg (vC T) (row.take T.aA.toNat)=true:=EA _ eA;unfold ye;rw[hTi,Option.bind_some];simp only[e1,Option.bind_some,List.drop_zero];rw[dy _ _ (by simp;omega),Option.bind_some,List.nil_append]
 refine Ok.bind (ahg n (by omega) s t T hT ht _ st rows dh (by omega) (fun r h=>by rw[dK (r2 r h),hkl])) fun f _=> ?_
 refine Ok.bind (kB n c 8 hc) fun b hb=> ?_
 refine Ok.ite (fun _=> ?_) fun _=> ?_
 ·refine Ok.bind (gk n b.2 2 hb) fun o ⟨ho,o0,o1,_⟩=> ?_
  have o1:=o1 (by omega)
  rw[bY (by omega) (by omega)]
  have e:T.aA=((T.aA.toNat:Nat):Int):=by omega
  rw[e];exact aab s hs k N hN Q n10 hk a1 a2 st hst ws hws hl (t:Int) T hTi row eA _ ml (2+o.1) (by omega) n (by omega) (row.drop T.aA.toNat) T.aA.toNat n o.2 [] [] [] [] [] rfl (by simp;omega) ho rfl rfl (by simp only[AI];omega) (by simp) (by simp) (fun _=>⟨rfl,rfl⟩)
 ·refine Mi s hs k N hN Q n10 hk a1 a2 b.2 hb st hst ws hws hl ⟨1,(t:Int),row.take T.aA.toNat,[],row⟩ ⟨T,hTi,by simp,?_⟩ n (by omega) [] row
  simp[wOK,ml,g6,eA,ga]
theorem LD (s:ag) (hs:SOK s) (r9:2≤s.ah.length) (n0:Nat):∀(j m:Nat) (c:an) (st:aj) (ws:List ar),j+3000<m→bh c→so s st.ah→fg s none ws=0→ws.length+j≤50→
  Ok (rN (yd n0) m (j:Int) c s st ws) fun r=>bh r.2∧fg s none r.1=0∧r.1.length≤ws.length+j
 |0,m+1,c,st,ws,hm,hc,hst,hws,hl=>by
  have hq:¬(0:Int)<((0:Nat):Int):=by omega
  simp only[rN,Hk,yd,hq,decide_false,Bool.false_eq_true,if_false];exact Ok.pure ⟨hc,hws,by simp⟩
 |j+1,m+1,c,st,ws,hm,hc,hst,hws,hl=>by
  have hq:(0:Int)<((j+1:Nat):Int):=by omega
  have hq2:(0:Int)<(s.ah.length:Int):=by omega
  have hl8:=hs.len;simp only[rN,Hk,hq,hq2,decide_true,if_true];refine Ok.bind (gk m c _ hc) fun t ⟨ht,t0,t1,_⟩=> ?_
  have t1:=t1 (by omega)
  obtain ⟨tn,te⟩:∃tn:Nat,t.1=(tn:Int):=⟨t.1.toNat,by omega⟩
  rw[te];have htn:tn<s.ah.length:=by omega
  have hT:s.ah[tn]? =some s.ah[tn]:=List.getElem?_eq_getElem htn;generalize s.ah[tn]=T at hT;have hTi:idx s.ah (tn:Int)=some T:=by rw[aO];exact hT
  have hto:=hs.tab _ _ hTi;have hcl:=hto.aG;have hkl:=dg T;have k1:=hto.ia;have k2:=hto.cL;have hsl:tn<st.ah.length:=by rw[hst.len];exact htn
  have dh:st.ah[tn]? =some st.ah[tn]:=List.getElem?_eq_getElem hsl;generalize st.ah[tn]=rows at dh;obtain ⟨r1,r2⟩:=hst.row tn T rows hT dh;rw[LL hTi (by omega) (by omega:1000<m),Option.bind_some,hTi,Option.bind_some]
  refine Ok.bind (XU m (by omega) t.2 (bc T) T.aA hto.ks (by omega) ht) fun r ⟨h1,h2⟩=> ?_
  have hrl:=dK h2;rw[aO,dh,Option.bind_some];have hw:w64 (((j+1:Nat):Int)-1)=(j:Int):=by rw[bY (by omega) (by omega)];omega
  have hk:Cv s (rN (yd n0) m) ((j+1:Nat):Int) (ws.length+1) fun r=>bh r.2∧fg s none r.1=0∧r.1.length≤ws.length+(j+1):=by
   intro c' st' ws' h1 h2 h3 h4;rw[hw];exact (LD s hs r9 n0 j m c' st' ws' (by omega) h1 h2 h3 (by omega)).mono fun q ⟨q1,q2,q3⟩=>⟨q1,q2,by omega⟩
  have fin:=fun c' (hc':bh c') row eA=>aaj s hs (rN (yd n0) m) ws.length (by omega) _ ((j+1:Nat):Int) hk s.ah (s.ah.length:Int) c' hc' st hst ws hws (Nat.le_refl _) tn T hT row eA m (by omega)
  refine Ok.ite (fun hne=> ?_) fun _=>fin _ h1 _ h2
  refine Ok.bind (kB m r.2 3 h1) fun b hb=> ?_
  refine Ok.ite (fun _=> ?_) fun _=>fin _ hb _ h2
  simp at hne;refine Ok.bind (gk m b.2 (rows.length:Int) hb) fun q ⟨hq',q0,q1,_⟩=> ?_
  have q1:=q1 (by omega)
  have hg:idx rows q.1=some (rows[q.1.toNat]'(by omega)):=by unfold idx;rw[if_pos q0];exact List.getElem?_eq_getElem _
  have hold:=r2 _ (List.getElem_mem (by omega:q.1.toNat<rows.length))
  generalize rows[q.1.toNat]=old at hg hold;have hol:=dK hold;rw[hg,Option.bind_some,BS (n:=m) hTi hto old (by omega),Option.bind_some]
  have tS:r.1≠ []:=fun e=>by rw[e] at hrl;simp at hrl;omega
  have hcp:cpy r.1 (old.take T.aA.toNat)=some (old.take T.aA.toNat++r.1.drop T.aA.toNat):=by
   unfold cpy;rw[if_neg tS];have:min (old.take T.aA.toNat).length r.1.length=T.aA.toNat:=by simp;omega
   rw[this,List.take_take,Nat.min_self]
  rw[hcp,Option.bind_some];exact fin _ hq' _ (I1 _ hold h2)
 |_,0,_,_,_,hm,_,_,_,_=>by omega
theorem ahn (n:Nat) (hn:5000≤n) (s:ag) (hs:SOK s) (r9:2≤s.ah.length) (c:an) (hc:bh c) (st:aj) (hst:so s st.ah) (YI:Nat) (hmost:YI≤10):Ok (F10 n c s st (YI:Int)) fun r=>bh r.2∧fg s none r.1=0∧r.1.length≤YI:=by
 unfold F10 Ta;rw[bY (by omega) (by omega)]
 refine Ok.bind (gk n c _ hc) fun r ⟨hr,r0,r1,_⟩=> ?_
 have r1:=r1 (by omega)
 have e:r.1=((r.1.toNat:Nat):Int):=by omega
 rw[e];exact (LD s hs r9 n r.1.toNat n r.2 st [] (by omega) hr hst rfl (by simp;omega)).mono fun q ⟨q1,q2,q3⟩=>⟨q1,q2,by simp at q3;omega⟩
structure Few (w:ar) (N:Nat):Prop where
 key:w.aA.length≤N
 col:w.aq.length≤N
 cel:w.aV.length≤N
theorem Few.wB {w:ar} {N:Nat} (h:Few w N) (hN:N≤1000):wB w:=⟨by have:=h.col;omega,by have:=h.key;omega⟩
theorem Zq {s:ag} (hs:SOK s) {w:ar} (h:oo s w):Few w 100:=by
 refine ⟨by have:=zg hs h;omega,vL hs h,?_⟩
 have hcols:=vL hs h;obtain ⟨T,hT,h1,h2⟩:=h;have ht:=hs.tab _ _ hT;have hc:=ht.aG;have k1:=ht.ia;have hkl:=dg T;simp only[wOK,g6,Bool.and_eq_true] at h2;have h2:=h2.2;split at h2
 ·simp at h2;have:=dK h2.2.1;omega
 ·split at h2
  ·cases hcl:dT (bc T) (T.aA-1) w.aq with
   |none=>rw[hcl] at h2;cases h2
   |some l=>
    rw[hcl] at h2;have:=dK h2;have:=(uh ht.ks (by omega) hcl).1
    omega
  ·simp at h2;simp[h2.2]
section
theorem cQ {T:au} {r:List ae} (h:bg (bc T) r=true):r.length=T.aq.length:=by rw[dK h,dg]
def behind (T:au):Option (List ae)→List ae→Bool
 |none,_=>true
 |some q,r=>decide (bT (q.take T.aA.toNat) (r.take T.aA.toNat)<0)
def kE (T:au):Option (List ae)→List (List ae)→Bool
 |_,[]=>true
 |p,r::rs=>bg (bc T) r&&(behind T p r&&kE T (some r) rs)
def ll:List au→List (List (List ae))→Bool
 |T::Ts,rs::rss=>kE T none rs&&ll Ts rss
 |_,_=>true
def total:List (List (List ae))→Nat
 | []=>0
 |rs::rss=>rs.length+total rss
variable {s:ag} {t n:Nat} {T:au}
theorem n7 (hT:idx s.ah t=some T) (ht:cE T) (r:List ae) (hr:r.length=T.aq.length):F71 n s t r=some (r.take T.aA.toNat):=by
 obtain ⟨h0,h1,_⟩:=nT hT;have:=ht.aG;have k1:=ht.ia;have k2:=ht.cL;have e1:¬(t:Int)<0:=by omega
 have e2:(t:Int)<(s.ah.length:Int):=by omega
 have e3:¬(r.length:Int)<T.aA:=by omega
 have e4:0<T.aA:=by omega
 simp only[F71,Sk,e1,e2,decide_false,decide_true,Bool.not_true,Bool.false_eq_true,if_false,hT,Option.bind_some,e3,e4,if_true];rw[Bo (by omega) (by omega),Option.bind_some]
theorem Lx (hT:idx s.ah (t:Int)=some T) (ht:cE T) (rows:List (List ae)) (hl:rows.length≤2000000) (k:Int→List (List (List ae))→Int→Int→ag→Option Int) (a:List (List (List ae))) (a1 a2:Int):
  ∀(x:List (List ae)) (i m:Nat),rows.drop i=x→x.length+1100<m→(i=0∨∃q,rows[i-1]? =some q∧q.length=T.aq.length)→
   xM k m 1 (t:Int) rows a a1 a2 rows (rows.length:Int) (i:Int) s=if kE T (if i=0 then none else rows[i-1]?) x then k 1 a a1 a2 s else some 80
 | [],i,m+1,hd,hm,_=>by
  have hq':rows.length≤i:=by simpa using hd
  have hq:¬((i:Int)<(rows.length:Int)):=by omega
  simp only[xM,G4,hq,decide_false,Bool.false_eq_true,if_false,kE,if_true]
 |r::x,i,m+1,hd,hm,hp=>by
  obtain ⟨g1,g2,g3⟩:=ba hd;have hq:(i:Int)<(rows.length:Int):=by omega
  simp at hm;simp only[xM,G4,hq,decide_true,if_true,aO,g1,Option.bind_some,LK hT ht r (by omega:1000<m),kE]
  rcases Bool.eq_false_or_eq_true (bg (bc T) r) with hr|hr
  rotate_left
  ·simp[hr]
  ·have hc:=cQ hr;have h8:=ht.aG;have ih:=Lx hT ht rows hl k a a1 a2 x (i+1) m g2 (by omega) (.inr ⟨r,by rw[Nat.add_sub_cancel];exact g1,hc⟩)
   rw[if_neg (by omega:¬i+1=0),Nat.add_sub_cancel,g1] at ih
   simp only[hr,Bool.not_true,Bool.false_eq_true,if_false,Bool.true_and,bA g3 (by omega:rows.length<4294967296),ih]
   by_cases h0:i=0
   ·subst h0;simp[behind]
   ·obtain ⟨q,hg,hql⟩:=hp.resolve_left h0;have h0':0<(i:Int):=by omega
    have hw:w64 ((i:Int)-1)=((i-1:Nat):Int):=by rw[bY (by omega) (by omega)];omega
    simp only[h0',decide_true,if_true,hw,aO,hg,Option.bind_some,h0,if_false,n7 hT ht q hql,n7 hT ht r hc,qF m (q.take T.aA.toNat) (r.take T.aA.toNat) (by simp;omega) (by simp;omega),behind]
    by_cases h5:bT (q.take T.aA.toNat) (r.take T.aA.toNat)<0
    ·simp[h5]
    ·simp[h5]
 |_,_,0,_,hm,_=>by simp at hm
theorem nK {x:List (List (List ae))} {rs:List (List ae)} (h:rs∈x):rs.length≤total x:=by
 induction x with
 |nil=>simp at h
 |cons y x ih=>
  simp only[total];rcases List.mem_cons.1 h with rfl|h
  ·omega
  ·have:=ih h;omega
theorem Lw (hs:SOK s) (n0:Nat) (ts:List (List (List ae))) (hlen:ts.length=s.ah.length) (hl:total ts≤512):
  ∀(x:List (List (List ae))) (i m:Nat),ts.drop i=x→x.length+2000<m→
   uD (B9 n0) m 1 ts (ts.length:Int) (i:Int) s=some (if ll (s.ah.drop i) x then 0 else 80)
 | [],i,m+1,hd,hm=>by
  have hq':ts.length≤i:=by simpa using hd
  have hq:¬((i:Int)<(ts.length:Int)):=by omega
  simp only[uD,G2,B9,hq,decide_false,Bool.false_eq_true,if_false];cases s.ah.drop i<;>simp[ll]
 |rs::x,i,m+1,hd,hm=>by
  obtain ⟨g1,g2,g3⟩:=ba hd;have hq:(i:Int)<(ts.length:Int):=by omega
  have h8:=hs.len;have hrs:=nK (List.mem_of_getElem? g1);simp at hm;have hi:i<s.ah.length:=by omega
  have hT:idx s.ah (i:Int)=some (s.ah[i]):=by rw[aO];exact List.getElem?_eq_getElem _
  have ih:=Lw hs n0 ts hlen hl x (i+1) m g2 (by omega)
  simp only[uD,G2,hq,decide_true,if_true,aO,g1,Option.bind_some];have e:=Lx hT (hs.tab _ _ hT) rs (by omega) (G3 (uD (B9 n0) m) m) ts (ts.length:Int) (i:Int) rs 0 m rfl (by omega) (.inl rfl)
  rw[if_pos rfl,show ((0:Nat):Int)=0 from rfl] at e;rw[e,List.drop_eq_getElem_cons hi];simp only[G3,bA g3 (by omega:ts.length<4294967296),ih,ll]
  rcases Bool.eq_false_or_eq_true (kE s.ah[i] none rs) with hb|hb<;>simp[hb]
 |_,_,0,_,hm=>by simp at hm
theorem Lr (k:Int→Option Int) (ts:List (List (List ae))) (hl:ts.length+total ts≤2000000):∀(x:List (List (List ae))) (i m a:Nat),ts.drop i=x→x.length<m→a+total x≤2000000→xG k m (a:Int) ts (ts.length:Int) (i:Int)=k ((a+total x:Nat):Int)
 | [],i,m+1,a,hd,hm,ha=>by
  have hq':ts.length≤i:=by simpa using hd
  have hq:¬((i:Int)<(ts.length:Int)):=by omega
  simp only[xG,GL,hq,decide_false,Bool.false_eq_true,if_false,total,Nat.add_zero]
 |rs::x,i,m+1,a,hd,hm,ha=>by
  obtain ⟨g1,g2,g3⟩:=ba hd;have hq:(i:Int)<(ts.length:Int):=by omega
  simp at hm;simp only[total] at ha;have hw:w64 ((a:Int)+(rs.length:Int))=((a+rs.length:Nat):Int):=by rw[bY (by omega) (by omega)];omega
  simp only[xG,GL,hq,decide_true,if_true,aO,g1,Option.bind_some,bA g3 (by omega:ts.length<4294967296),hw]
  rw[Lr k ts hl x (i+1) m (a+rs.length) g2 (by omega) (by omega)]
  simp only[total,Nat.add_assoc]
 |_,_,0,_,_,hm,_=>by simp at hm
def nn (s:ag) (e:Int) (ts:List (List (List ae))):Int:=
 if e=0 then (if 512<total ts then 2 else if ts.length=s.ah.length then (if ll s.ah ts then 0 else 80) else 80) else e
theorem XV (n:Nat) (s:ag) (e:Int) (he:F38 n s=some e) (hs:e=0→SOK s) (st:aj) (hl:st.ah.length+total st.ah≤2000000) (hn:2000100≤n):F28 n s 1 st=some (nn s e st.ah):=by
 unfold F28 S0 F69 Sm nn;rw[he,Option.bind_some];by_cases h0:e=0
 ·subst h0;have h57:=Lr (B6 n) st.ah hl st.ah 0 n 0 rfl (by omega) (by omega)
  simp only[bne_self_eq_false,Bool.false_eq_true,if_false,if_true,Option.bind_some,F57,GK,show ((0:Nat):Int)=0 from rfl,Nat.zero_add] at h57 ⊢;rw[h57];simp only[B6,Option.bind_some];by_cases h1:512<total st.ah
  ·have h1':(512:Int)<(total st.ah:Int):=by omega
   simp only[h1,h1',decide_true,if_true]
  ·have h1':¬(512:Int)<(total st.ah:Int):=by omega
   simp only[h1,h1',decide_false,Bool.false_eq_true,if_false];by_cases h2:st.ah.length=s.ah.length
   ·have h2':((st.ah.length:Int) !=(s.ah.length:Int))=false:=by simp[h2]
    rw[h2',if_pos h2,if_neg (by simp)]
    have h8:=(hs rfl).len;have:=Lw (hs rfl) n st.ah h2 (by omega) st.ah 0 n rfl (by omega)
    rw[List.drop_zero,show ((0:Nat):Int)=0 from rfl] at this;exact this
   ·have h2':((st.ah.length:Int) !=(s.ah.length:Int))=true:=by simp;omega
    simp only[h2',if_true,h2,if_false]
 ·have:(e !=0)=true:=by simpa using h0
  simp[this,h0]
end
section
def dP (T:au) (key:List ae) (rows:List (List ae)):Option (List ae):=rows.find? fun r=>bT (r.take T.aA.toNat) key==0
def qg:Option (List ae)→List ae×Bool
 |some r=>(r,true)
 |none=>([],false)
def Fit (s:ag) (ts:List (List (List ae))):Prop:=ts.length=s.ah.length∧∀(t:Nat) T rows,s.ah[t]? =some T→ts[t]? =some rows→rows.length≤512∧∀r∈rows,bg (bc T) r=true
theorem Ey {T:au}:∀{rs:List (List ae)} {p:Option (List ae)},kE T p rs=true→∀r∈rs,bg (bc T) r=true
 |r::rs,p,h,y,hy=>by
  simp only[kE,Bool.and_eq_true] at h;rcases List.mem_cons.1 hy with rfl|hy
  ·exact h.1
  ·exact Ey h.2.2 y hy
theorem Et:∀{Ts:List au} {rss:List (List (List ae))} {t:Nat} {T:au} {rows:List (List ae)},ll Ts rss=true→Ts[t]? =some T→rss[t]? =some rows→kE T none rows=true
 | [],_,_,_,_,_,h,_=>by simp at h
 |_::_,[],_,_,_,_,_,h=>by simp at h
 |U::Ts,rs::rss,0,T,rows,h,h1,h2=>by
  simp only[ll,Bool.and_eq_true] at h;simp at h1 h2;subst h1;subst h2;exact h.1
 |U::Ts,rs::rss,t+1,T,rows,h,h1,h2=>by
  simp only[ll,Bool.and_eq_true] at h;exact Et h.2 (by simpa using h1) (by simpa using h2)
theorem Tk {s:ag} {ts:List (List (List ae))} (h:nn s 0 ts=0):Fit s ts:=by
 unfold nn at h;rw[if_pos rfl] at h;split at h
 ·cases h
 ·rename_i h1;split at h
  ·rename_i h2;split at h
   ·rename_i h3;refine ⟨h2,fun t T rows hT hr=>⟨?_,Ey (Et h3 hT hr)⟩⟩
    have:=nK (List.mem_of_getElem? hr);omega
   ·cases h
  ·cases h
variable {s:ag} {t n:Nat} {T:au}
theorem XG (n0:Nat) (hT:idx s.ah (t:Int)=some T) (ht:cE T) (key:List ae) (rows:List (List ae)) (hl:rows.length≤512) (hr:∀r∈rows,bg (bc T) r=true):∀(x:List (List ae)) (i m:Nat),rows.drop i=x→x.length+1100<m→
  xF (GI n0) m (t:Int) key rows (rows.length:Int) (i:Int) s=some (qg (dP T key x))
 | [],i,m+1,hd,hm=>by
  have hq':rows.length≤i:=by simpa using hd
  have hq:¬((i:Int)<(rows.length:Int)):=by omega
  simp only[xF,GJ,GI,hq,decide_false,Bool.false_eq_true,if_false,dP,List.find?_nil,qg]
 |r::x,i,m+1,hd,hm=>by
  obtain ⟨g1,g2,g3⟩:=ba hd;have hq:(i:Int)<(rows.length:Int):=by omega
  have hc:=cQ (hr r (List.mem_of_getElem? g1));have h8:=ht.aG;simp at hm;simp only[xF,GJ,hq,decide_true,if_true,aO,g1,Option.bind_some,n7 hT ht r hc,qF m (r.take T.aA.toNat) key (by simp;omega) (by simp;omega),bA g3 (by omega:rows.length<4294967296),dP,List.find?_cons]
  cases h:bT (r.take T.aA.toNat) key==0 with
  |true=>simp[qg]
  |false=>
   simp only[Bool.false_eq_true,if_false];exact XG n0 hT ht key rows hl hr x (i+1) m g2 (by omega)
 |_,_,0,_,hm=>by simp at hm
theorem wx (n:Nat) (r:List ae) (h:r.length≤1000000):F62 n r=some r:=by
 unfold F62 So;rw[dy _ _ (by simpa using h)];rfl
theorem BQ (n:Nat) (r:List ae) (h:r.length≤1000000):F56 n r=some r:=by
 unfold F56 SG;rw[dy _ _ (by simpa using h)];rfl
theorem lL {key:List ae} {rows:List (List ae)} {r:List ae} (h:dP T key rows=some r):r∈rows:=List.mem_of_find?_eq_some h
theorem LM (hT:s.ah[t]? =some T) (ht:cE T) (st:aj) (rows:List (List ae)) (dh:st.ah[t]? =some rows) (hl:rows.length≤512) (hr:∀r∈rows,bg (bc T) r=true) (key:List ae) (hn:2000<n):F21 n s st (t:Int) key=some (qg (dP T key rows)):=by
 have h1:t<s.ah.length:=(List.getElem?_eq_some_iff.1 hT).1;have h2:t<st.ah.length:=(List.getElem?_eq_some_iff.1 dh).1;have e1:¬(t:Int)<0:=by omega
 have e2:(t:Int)<(s.ah.length:Int):=by omega
 have e3:(t:Int)<(st.ah.length:Int):=by omega
 have hTi:idx s.ah (t:Int)=some T:=by rw[aO];exact hT
 unfold F21 S5 F60 Sq;have h:=XG n hTi ht key rows hl hr rows 0 n rfl (by omega)
 rw[show ((0:Nat):Int)=0 from rfl] at h;simp only[e1,e2,e3,decide_false,decide_true,Bool.not_true,Bool.false_eq_true,if_false,aO,dh,Option.bind_some,h];cases hg:dP T key rows with
 |none=>simp only[qg];rw[BQ _ _ (by simp)];rfl
 |some r=>
  have hc:=cQ (hr r (lL hg));have h8:=ht.aG;simp only[qg];rw[BQ _ _ (by omega)];rfl
def dD:List ae→List Int→List ae→List ae
 |r,c::cs,v::vs=>dD (r.set c.toNat v) cs vs
 |r,_,_=>r
theorem yE:∀(r:List ae) (cs:List Int) (vs:List ae),(dD r cs vs).length=r.length
 |r,[],vs=>by simp[dD]
 |r,c::cs,[]=>by simp[dD]
 |r,c::cs,v::vs=>by simp only[dD];rw[yE];simp
theorem XF (n0:Nat) (w:ar) (hl:w.aq.length<4294967296) (hc:w.aV.length=w.aq.length):∀(x:List Int) (i m:Nat) (b:List ae),w.aq.drop i=x→x.length<m→(∀c∈x,0≤c∧c.toNat<b.length)→
  xE (GG n0) m w.aq (w.aq.length:Int) (i:Int) w b=some (dD b x (w.aV.drop i))
 | [],i,m+1,b,hd,hm,_=>by
  have hq':w.aq.length≤i:=by simpa using hd
  have hq:¬((i:Int)<(w.aq.length:Int)):=by omega
  simp only[xE,GH,GG,hq,decide_false,Bool.false_eq_true,if_false,dD]
 |c::x,i,m+1,b,hd,hm,hb=>by
  obtain ⟨g1,g2,g3⟩:=ba hd;have hq:(i:Int)<(w.aq.length:Int):=by omega
  have hi:i<w.aV.length:=by omega
  have hv:w.aV[i]? =some w.aV[i]:=List.getElem?_eq_getElem _;obtain ⟨c1,c2⟩:=hb c (by simp)
  have b1:bnd b.length c=some c.toNat:=by unfold bnd;rw[if_pos ⟨c1,c2⟩]
  have b2:b[0+c.toNat]? =some (b[c.toNat]):=by rw[Nat.zero_add];exact List.getElem?_eq_getElem _
  have b3:setAt b (0+c.toNat) w.aV[i]=some (b.set c.toNat w.aV[i]):=by rw[Nat.zero_add];unfold setAt;rw[if_pos c2]
  simp at hm;simp only[xE,GH,hq,decide_true,if_true,aO,g1,hv,Option.bind_some,b1,b2,b3,bA g3 hl];rw[XF n0 w hl hc x (i+1) m _ g2 (by omega) (fun d hd=>by rw[List.length_set];exact hb d (List.mem_cons_of_mem _ hd)),List.drop_eq_getElem_cons hi]
  simp only[dD]
 |_,_,0,_,_,hm,_=>by simp at hm
theorem Kl (hs:SOK s) {w:ar} (hT:idx s.ah w.ax=some T) (h:wOK T w=true) (h2:w.fOp=2):w.aq.length≤100∧w.aV.length=w.aq.length∧∀c∈w.aq,0≤c∧c.toNat<T.aq.length:=by
 have ht:=hs.tab _ _ hT;have k1:=ht.ia;have hlen:=vL hs (w:=w) ⟨T,hT,by omega,h⟩
 simp only[wOK,g6,Bool.and_eq_true] at h;have h:=h.2;rw[if_neg (by omega),if_pos h2] at h
 cases hcl:dT (bc T) (T.aA-1) w.aq with
 |none=>rw[hcl] at h;cases h
 |some l=>
  rw[hcl] at h;obtain ⟨a1,a2⟩:=uh ht.ks (by omega) hcl
  have h3:=dK h;refine ⟨hlen,by omega,fun c hc=> ?_⟩
  obtain ⟨i,hi,rfl⟩:=List.mem_iff_getElem.1 hc;have:=a2 i _ (List.getElem?_eq_getElem hi);rw[dg] at this;exact ⟨this.1,this.2.1⟩
theorem agW (hs:SOK s) {w:ar} (hT:idx s.ah w.ax=some T) (h:wOK T w=true) (h2:w.fOp=2) (r:List ae) (hr:bg (bc T) r=true) (hn:1000<n):F65 n r w=some (dD r w.aq w.aV):=by
 obtain ⟨a1,a2,a3⟩:=Kl hs hT h h2;have hc:=cQ hr;have h8:=(hs.tab _ _ hT).aG;unfold F65 Sn;rw[wx _ _ (by omega),Option.bind_some]
 exact XF n w (by omega) a2 w.aq 0 n r rfl (by omega) (fun c hc'=>by rw[hc];exact a3 c hc')
end
section
abbrev tF:aM:=aM.mk 0 0 0 []
def iB (s:ag) (ts:List (List (List ae))):List ar→List aw→List aw×aM×Int
 | [],acc=>(acc,tF,0)
 |w::ws,acc=>
  match idx s.ah w.ax,idx ts w.ax with
  |some T,some rows=>
   match dP T w.aA rows with
   |some r=>if w.fOp=1 then ([],aM.mk 4 0 w.ax w.aA,0) else if w.fOp=2 then (if bT r (dD r w.aq w.aV)=0 then iB s ts ws acc else iB s ts ws (acc++ [aw.mk w.ax r (dD r w.aq w.aV)])) else iB s ts ws (acc++ [aw.mk w.ax r []])
   |none=>if w.fOp=1 then iB s ts ws (acc++ [aw.mk w.ax [] w.aV]) else ([],aM.mk 5 0 w.ax w.aA,0)
  |_,_=>([],tF,0)
variable {s:ag} {n:Nat}
theorem aei (hs:SOK s) {st:aj} (hf:Fit s st.ah) {w:ar} (h:oo s w):∃(t:Nat) (T:au) (rows:List (List ae)),w.ax=(t:Int)∧s.ah[t]? =some T∧cE T∧st.ah[t]? =some rows∧rows.length≤512∧(∀r∈rows,bg (bc T) r=true)∧wOK T w=true∧idx s.ah w.ax=some T:=by
 obtain ⟨T,hT,_,h2⟩:=h;obtain ⟨i1,i2,i3⟩:=nT hT;have hlt:w.ax.toNat<st.ah.length:=by rw[hf.1];exact i2
 obtain ⟨f1,f2⟩:=hf.2 w.ax.toNat T st.ah[w.ax.toNat] i3 (List.getElem?_eq_getElem hlt);exact ⟨w.ax.toNat,T,_,by omega,i3,hs.tab _ _ hT,List.getElem?_eq_getElem hlt,f1,f2,h2,hT⟩
theorem Zp {T:au} {w:ar} (h:wOK T w=true) (h1:w.fOp=1):w.aV.length=T.aq.length:=by
 simp only[wOK,g6,Bool.and_eq_true] at h;have h:=h.2;rw[if_pos h1] at h;simp only[Bool.and_eq_true] at h;exact cQ (by simp_all)
theorem XN (n0:Nat) (hs:SOK s) (st:aj) (hf:Fit s st.ah) (ws:List ar) (hl:ws.length≤64) (hg:∀w∈ws,oo s w):∀(x:List ar) (i m:Nat) (z:aM) (acc:List aw),ws.drop i=x→x.length+3000<m→acc.length+x.length≤64→
  xQ (Hb n0) m ws (ws.length:Int) (i:Int) s st z acc=some (iB s st.ah x acc)
 | [],i,m+1,z,acc,hd,hm,ha=>by
  have hq':ws.length≤i:=by simpa using hd
  have hq:¬((i:Int)<(ws.length:Int)):=by omega
  simp only[xQ,Hc,Hb,hq,decide_false,Bool.false_eq_true,if_false,iB]
 |w::x,i,m+1,z,acc,hd,hm,ha=>by
  obtain ⟨g1,g2,g3⟩:=ba hd;have hq:(i:Int)<(ws.length:Int):=by omega
  have hw:=hg w (List.mem_of_getElem? g1);have hk:=zg hs hw;obtain ⟨t,T,rows,ht,hT,hT',dh,hrl,hrr,hok,hTi⟩:=aei hs hf hw;have h8:=hT'.aG;have k1:=hT'.ia;have k2:=hT'.cL;simp at hm ha;have ih:=fun z acc h=>XN n0 hs st hf ws hl hg x (i+1) m z acc g2 (by omega) h
  have hri:idx st.ah w.ax=some rows:=by rw[ht,aO];exact dh
  have f21:=LM hT hT' st rows dh hrl hrr w.aA (by omega:2000<m)
  rw[←ht] at f21;simp only[xQ,Hc,hq,decide_true,if_true,aO,g1,Option.bind_some,F50,SJ,f21,iB,hTi,hri];cases hgk:dP T w.aA rows with
  |none=>
   simp only[qg];by_cases h1:w.fOp=1
   ·have hcl:=Zp hok h1;simp only[h1,beq_self_eq_true,if_true,Bool.false_eq_true,if_false,wx m w.aV (by omega),Option.bind_some,mg,pg,List.length_nil,Int.ofNat_zero,show ¬((0:Int)<0) by omega,decide_false,uJ,pj,dy acc [aw.mk w.ax [] w.aV] (by simp;omega),bA g3 (by omega:ws.length<4294967296)]
    exact ih _ _ (by simp;omega)
   ·have h1':(w.fOp==1)=false:=by simpa using h1
    simp only[h1',h1,Bool.not_false,if_true,Bool.false_eq_true,if_false,F93,Gp,wx m w.aA (by omega),Option.bind_some,mg,pg,F51,GM]
  |some r=>
   have hrk:=hrr r (lL hgk);have hc:=cQ hrk;have r9:0<(r.length:Int):=by omega
   simp only[qg];by_cases h1:w.fOp=1
   ·simp only[h1,beq_self_eq_true,if_true,F93,Gp,wx m w.aA (by omega),Option.bind_some,mg,pg,F51,GM]
   ·have h1':(w.fOp==1)=false:=by simpa using h1
    simp only[h1',h1,Bool.not_true,Bool.false_eq_true,if_false,wx m r (by omega),Option.bind_some]
    by_cases h2:w.fOp=2
    ·have hu:=yE r w.aq w.aV;have ahR:0<((dD r w.aq w.aV).length:Int):=by omega
     simp only[h2,beq_self_eq_true,if_true,agW hs hTi hok h2 r hrk (by omega:1000<m),Option.bind_some,mg,pg,r9,ahR,decide_true,qF m r (dD r w.aq w.aV) (by omega) (by omega)]
     by_cases h3:bT r (dD r w.aq w.aV)=0
     ·simp only[h3,beq_self_eq_true,if_true,pj,bA g3 (by omega:ws.length<4294967296)]
      exact ih _ _ (by omega)
     ·have h3':(bT r (dD r w.aq w.aV)==0)=false:=by simpa using h3
      simp only[h3',h3,Bool.false_eq_true,if_false,uJ,pj,dy acc [aw.mk w.ax r (dD r w.aq w.aV)] (by simp;omega),Option.bind_some,bA g3 (by omega:ws.length<4294967296)]
      exact ih _ _ (by simp;omega)
    ·have h2':(w.fOp==2)=false:=by simpa using h2
     simp only[h2',h2,Bool.false_eq_true,if_false,mg,pg,r9,decide_true,if_true,List.length_nil,Int.ofNat_zero,show ¬((0:Int)<0) by omega,decide_false,uJ,pj,dy acc [aw.mk w.ax r []] (by simp;omega),Option.bind_some,bA g3 (by omega:ws.length<4294967296)]
     exact ih _ _ (by simp;omega)
 |_,_,0,_,_,_,hm,_=>by simp at hm
def Z0 (s:ag) (e:Int) (st:aj) (ws:List ar):List aw×aM×Int:=
 if rQ s e ws=0 then (if nn s e st.ah=0 then iB s st.ah ws [] else ([],tF,nn s e st.ah)) else ([],tF,rQ s e ws)
theorem Th {s:ag} {e:Int} {ws:List ar} (h:rQ s e ws=0):e=0∧ws.length≤64∧∀w∈ws,oo s w:=by
 unfold rQ at h;split at h
 ·rename_i h0;split at h
  ·cases h
  ·exact ⟨h0,by omega,uS h⟩
 ·exact absurd h (by assumption)
theorem ahk (n:Nat) (s:ag) (e:Int) (he:F38 n s=some e) (hs:e=0→SOK s) (ws:List ar) (hb:∀w∈ws,wB w) (st:aj) (hl:st.ah.length+total st.ah≤2000000) (hn:2000100≤n):F16 n s st ws=some (Z0 s e st ws):=by
 unfold F16 S7 Z0;rw[ahl n s e he hs ws hb hn,Option.bind_some];by_cases h1:rQ s e ws=0
 ·obtain ⟨h0,hl64,hg⟩:=Th h1;simp only[h1,bne_self_eq_false,Bool.false_eq_true,if_false,if_true,XV n s e he hs st hl hn,Option.bind_some];by_cases h2:nn s e st.ah=0
  ·simp only[h2,bne_self_eq_false,Bool.false_eq_true,if_false,if_true];subst h0;exact XN n (hs rfl) st (Tk h2) ws hl64 hg ws 0 n _ [] rfl (by omega) (by simpa using hl64)
  ·have h2':(nn s e st.ah !=0)=true:=by simpa using h2
   simp only[h2',h2,if_true,if_false]
 ·have h1':(rQ s e ws !=0)=true:=by simpa using h1
  simp only[h1',h1,if_true,if_false]
end
theorem Ew {T:au}:∀{rs:List (List ae)} {p:Option (List ae)},kE T p rs=true↔(∀r∈rs,bg (bc T) r=true)∧(∀q,p=some q→∀r∈rs,lt (kOf T q) (kOf T r))∧Ord T rs
 | [],p=>by simp[kE,Ord]
 |r::rs,p=>by
  have ih:=Ew (T:=T) (rs:=rs) (p:=some r);simp only[kE,Bool.and_eq_true];rw[ih];constructor
  ·rintro ⟨h1,h2,h3,h4,h5⟩;refine ⟨fun y hy=> ?_,fun q hq y hy=> ?_,?_⟩
   ·rcases List.mem_cons.1 hy with rfl|hy
    ·exact h1
    ·exact h3 y hy
   ·subst hq;have h2:lt (kOf T q) (kOf T r):=jf.1 (by simpa[behind] using h2)
    rcases List.mem_cons.1 hy with rfl|hy
    ·exact h2
    ·exact lt_trans h2 (h4 r rfl y hy)
   ·exact List.pairwise_cons.2 ⟨fun y hy=>h4 r rfl y hy,h5⟩
  ·rintro ⟨h1,h2,h3⟩;obtain ⟨h4,h5⟩:=List.pairwise_cons.1 h3;refine ⟨h1 r (by simp),?_,fun y hy=>h1 y (by simp[hy]),fun q hq y hy=> ?_,h5⟩
   ·cases p with
    |none=>rfl
    |some q=>simp only[behind,decide_eq_true_eq];exact jf.2 (h2 q rfl r (by simp))
   ·cases hq;exact h4 y hy
section
section
variable {s:ag} {t n:Nat} {T:au}
theorem XQ (n:Nat) (a b:List ae) (ha:a.length<4294967296) (hn:a.length<n):F96 n a b=some (bT a b==0):=by
 unfold F96 R7;rw[qF n a b ha hn];rfl
theorem half (i j:Nat) (h:i+j≤2000000):w64 (Int.fdiv (IntKind.wrap .u64 (w64 ((i:Int)+(j:Int)))) 2)=(((i+j) / 2:Nat):Int):=by
 rw[bY (x:=(i:Int)+(j:Int)) (by omega) (by omega),IntWalk.u64_in _ (by omega),Int.fdiv_eq_ediv_of_nonneg _ (by omega),bY (by omega) (by omega)]
 omega
structure Place (T:au) (key:List ae) (rows:List (List ae)) (p:Nat):Prop where
 le:p≤rows.length
 lo:∀k r,rows[k]? =some r→k<p→lt (kOf T r) key
 hi:∀k r,rows[k]? =some r→p≤k→¬lt (kOf T r) key
theorem Ord.get {rows:List (List ae)} (h:Ord T rows) {i j:Nat} {a b:List ae} (hi:rows[i]? =some a) (hj:rows[j]? =some b) (hij:i<j):lt (kOf T a) (kOf T b):=by
 obtain ⟨h1,rfl⟩:=List.getElem?_eq_some_iff.1 hi;obtain ⟨h2,rfl⟩:=List.getElem?_eq_some_iff.1 hj;exact List.pairwise_iff_getElem.1 h i j h1 h2 hij
theorem XP (hT:idx s.ah (t:Int)=some T) (ht:cE T) (c:aw) (hc:c.ax=(t:Int)) (row key:List ae) (hr:row.length=T.aq.length) (hn:1000<n):F99 n row key s c=some (bT (kOf T row) key,s,c):=by
 have h8:=ht.aG;unfold F99 R2;rw[hc,n7 hT ht row hr,Option.bind_some,qF n _ key (by simp;omega) (by simp;omega)]
 rfl
theorem Lk (n0:Nat) (hT:idx s.ah (t:Int)=some T) (ht:cE T) (c:aw) (hc:c.ax=(t:Int)) (key:List ae) (rows:List (List ae)) (hl:rows.length≤1000000) (hr:∀r∈rows,bg (bc T) r=true) (hO:Ord T rows):
  ∀(d i j m:Nat),j-i≤d→d+1000<m→i≤j→j≤rows.length→(∀k r,rows[k]? =some r→k<i→lt (kOf T r) key)→(∀k r,rows[k]? =some r→j≤k→¬lt (kOf T r) key)→
   ∃p,Place T key rows p∧xy (BU n0) m rows key (rows.length:Int) (i:Int) (j:Int) s c=BU n0 rows key (rows.length:Int) (p:Int) s c
 |d,i,j,0,_,hm,_,_,_,_=>by omega
 |d,i,j,m+1,hd,hm,hij,hj,hlo,hhi=>by
  by_cases h:i<j
  ·have hq:(i:Int)<(j:Int):=by omega
   have hh:(i+j) / 2<rows.length:=by omega
   have hg:rows[(i+j) / 2]? =some rows[(i+j) / 2]:=List.getElem?_eq_getElem hh;have hrl:=cQ (hr _ (List.getElem_mem hh));simp only[xy,Gm,hq,decide_true,if_true,half i j (by omega),aO,hg,Option.bind_some,XP hT ht c hc _ key hrl (by omega:1000<m)]
   by_cases hc':bT (kOf T rows[(i+j) / 2]) key<0
   ·have e:w64 ((((i+j) / 2:Nat):Int)+1)=(((i+j) / 2+1:Nat):Int):=by rw[bY (by omega) (by omega)];rfl
    simp only[hc',decide_true,if_true,e];refine Lk n0 hT ht c hc key rows hl hr hO (d-1) ((i+j) / 2+1) j m (by omega) (by omega) (by omega) hj (fun k r hk hlt=> ?_) hhi
    by_cases hk':k=(i+j) / 2
    ·subst hk';rw[hg] at hk;cases hk;exact jf.1 hc'
    ·exact lt_trans (hO.get hk hg (by omega)) (jf.1 hc')
   ·simp only[hc',decide_false,Bool.false_eq_true,if_false];refine Lk n0 hT ht c hc key rows hl hr hO (d-1) i ((i+j) / 2) m (by omega) (by omega) (by omega) (by omega) hlo (fun k r hk hle=> ?_)
    by_cases hk':k=(i+j) / 2
    ·subst hk';rw[hg] at hk;cases hk;exact fun h=>hc' (jf.2 h)
    ·exact fun h=>hc' (jf.2 (lt_trans (hO.get hg hk (by omega)) h))
  ·have e:i=j:=by omega
   subst e;have hq:¬((i:Int)<(i:Int)):=by omega
   refine ⟨i,⟨hj,hlo,hhi⟩,?_⟩;simp only[xy,Gm,hq,decide_false,Bool.false_eq_true,if_false]
def atK (T:au) (key:List ae):Option (List ae)→Bool
 |some r=>bT (kOf T r) key==0
 |none=>false
theorem agP (hT:idx s.ah (t:Int)=some T) (ht:cE T) (c:aw) (hc:c.ax=(t:Int)) (key:List ae) (rows:List (List ae)) (hl:rows.length≤100000) (hr:∀r∈rows,bg (bc T) r=true) (hO:Ord T rows) (hn:200000<n):
  ∃p,Place T key rows p∧F97 n rows key s c=some ((p:Int),atK T key rows[p]?,s,c):=by
 obtain ⟨p,h1,h2⟩:=Lk n hT ht c hc key rows (by omega) hr hO rows.length 0 rows.length n (by omega) (by omega) (by omega) (Nat.le_refl _) (fun k r _ h=>by omega) (fun k r hk h=>by
  have:=(List.getElem?_eq_some_iff.1 hk).1;omega)
 refine ⟨p,h1,?_⟩;unfold F97 R6;rw[show (0:Int)=((0:Nat):Int) from rfl,h2];unfold BU;by_cases h:p<rows.length
 ·have hq:(p:Int)<(rows.length:Int):=by omega
  have hg:rows[p]? =some rows[p]:=List.getElem?_eq_getElem h;have hrl:=cQ (hr _ (List.getElem_mem h));simp only[hq,decide_true,if_true,aO,hg,Option.bind_some,XP hT ht c hc _ key hrl (by omega:1000<n),atK]
 ·have hq:¬(p:Int)<(rows.length:Int):=by omega
  have hg:rows[p]? =none:=List.getElem?_eq_none (by omega)
  simp only[hq,decide_false,Bool.false_eq_true,if_false,hg,atK]
def dW (T:au) (c:aw):List ae:=if c.cB= [] then kOf T c.dQ else kOf T c.cB
def gP (c:aw):List (List ae):=if c.dQ= [] then [] else [c.dQ]
structure Em (T:au) (rows:List (List ae)) (c:aw):Prop where
 new:c.dQ= []∨(bg (bc T) c.dQ=true∧kOf T c.dQ=dW T c)
 old:(c.cB= []∧c.dQ≠ []∧∀r∈rows,kOf T r≠dW T c)∨(c.cB≠ []∧c.cB∈rows)
theorem Oe {rows:List (List ae)} {c:aw} (h:Em T rows c):gP c= []∨∃r,gP c= [r]∧kOf T r=dW T c:=by
 unfold gP;split
 ·exact .inl rfl
 ·rename_i hn;exact .inr ⟨_,rfl,(h.new.resolve_left hn).2⟩
theorem JF (c:aw):(gP c).length≤1:=by unfold gP;split<;>simp
theorem wS {α:Type} {l:List α}:decide (0<(l.length:Int))= !l.isEmpty:=by cases l<;>simp
theorem agO (hT:idx s.ah (t:Int)=some T) (ht:cE T) (c:aw) (hc:c.ax=(t:Int)) {rows:List (List ae)} (hr:∀r∈rows,bg (bc T) r=true) (h:Em T rows c):F98 n s c=some (dW T c):=by
 unfold F98 R4 dW;rw[hc,wS];rcases h.old with ⟨h1,h2,_⟩|⟨h1,h2⟩
 ·have hl:=cQ (h.new.resolve_left h2).1;simp only[h1,List.isEmpty_nil,Bool.not_true,Bool.false_eq_true,if_false,if_true,n7 hT ht c.dQ hl,Option.bind_some]
 ·have hl:=cQ (hr _ h2);have e:c.cB.isEmpty=false:=by simpa using h1
  simp only[e,Bool.not_false,if_true,h1,if_false,n7 hT ht c.cB hl,Option.bind_some]
theorem D6 {α:Type} {xs:List α} {k:Nat} (h:k≤xs.length):kR xs (k:Int) (k:Int)=some (xs.take k):=by
 unfold kR;rw[if_pos ⟨rfl,by omega,by omega⟩];rfl
theorem zq {α:Type} {xs:List α} {k:Nat} (h:k≤xs.length):cut xs (some (k:Int)) none=some (xs.drop k):=by
 unfold cut;simp only[Option.getD_some,Option.getD_none,Option.map_none,Int.toNat_natCast];rw[if_pos ⟨by omega,by omega,h,by omega⟩,List.take_length]
theorem L3 (h tl:List (List ae)) (hl:h.length+tl.length≤1000000):B3 n h tl=some (h++tl,true):=by
 unfold B3;rw[D6 (Nat.le_refl _),List.take_length,Option.bind_some];cases tl with
 |nil=>simp
 |cons y tl=>rw[dy _ _ hl];rfl
theorem L2 (h tl:List (List ae)) (hl:h.length+tl.length≤999999) (c:aw) (hn:c.dQ.length≤1000000):B2 n h tl c=some (h++gP c++tl,true):=by
 unfold B2 gP;rw[wS];cases hc:c.dQ with
 |nil=>simp only[List.isEmpty_nil,Bool.not_true,Bool.false_eq_true,if_false,if_true,List.append_nil];exact L3 h tl (by omega)
 |cons y l=>
  rw[hc] at hn;simp only[List.isEmpty_cons,Bool.not_false,if_true,BQ n (y::l) hn,Option.bind_some,List.cons_ne_nil,if_false];rw[dy _ _ (by simp;omega),Option.bind_some]
  exact L3 _ tl (by simp;omega)
theorem agY (hT:idx s.ah (t:Int)=some T) (ht:cE T) (c:aw) (hc:c.ax=(t:Int)) (rows:List (List ae)) (hl:rows.length≤100000) (hr:∀r∈rows,bg (bc T) r=true) (hO:Ord T rows) (h:Em T rows c) (hn:200000<n):F59 n s rows c=some (jg T (dW T c) (gP c) rows,true):=by
 have h8:=ht.aG;have hnl:c.dQ.length≤1000000:=by
  rcases h.new with h|h
  ·simp[h]
  ·have:=cQ h.1;omega
 obtain ⟨p,hp,hf⟩:=agP hT ht c hc (dW T c) rows hl hr hO hn;have hA:∀r∈rows.take p,lt (kOf T r) (dW T c):=fun r hr'=>by
  obtain ⟨k,hk,rfl⟩:=List.mem_iff_getElem.1 hr';rw[List.length_take] at hk;exact hp.lo k _ (by rw[List.getElem_take];exact List.getElem?_eq_getElem _) (by omega)
 have hB:∀k r,rows[k]? =some r→p≤k→kOf T r≠dW T c→lt (dW T c) (kOf T r):=fun k r hk hle hne=>by
  rcases JI (kOf T r) (dW T c) with h|h|h
  ·exact absurd h (hp.hi k r hk hle)
  ·exact absurd h hne
  ·exact h
 have hpl:=hp.le;unfold F59 SC;rw[agO hT ht c hc hr h,Option.bind_some,hf,Option.bind_some];simp only[wS];rcases h.old with ⟨h1,h2,h3⟩|⟨h1,h2⟩
 ·have e:atK T (dW T c) rows[p]? =false:=by
   cases hg:rows[p]? with
   |none=>rfl
   |some r=>
    simp only[atK,beq_eq_false_iff_ne];exact fun he=>h3 r (List.mem_of_getElem? hg) (kF he)
  simp only[e,h1,List.isEmpty_nil,Bool.not_true,beq_self_eq_true,Bool.false_eq_true,if_false];unfold B1;rw[D6 hpl,Option.bind_some,zq hpl,Option.bind_some,if_neg (by simp),L2 _ _ (by simp;omega) c hnl]
  rw[←Yn (k:=dW T c) (N:=gP c) hA (B:=rows.drop p) (fun r hr'=>by
   obtain ⟨k,hk⟩:=List.getElem?_of_mem hr';rw[List.getElem?_drop] at hk;exact hB (p+k) r hk (by omega) (h3 r (List.mem_of_getElem? hk))),List.take_append_drop]
 ·have eo:c.cB.isEmpty=false:=by simpa using h1
  have ek:dW T c=kOf T c.cB:=by unfold dW;rw[if_neg h1]
  obtain ⟨k,hk⟩:=List.getElem?_of_mem h2;have hkp:p≤k:=by
   by_cases hh:p≤k
   ·exact hh
   ·exact absurd (hp.lo k _ hk (by omega)) (by rw[ek];exact lt_irrefl _)
  have hkl:=(List.getElem?_eq_some_iff.1 hk).1;have hpk:p=k:=by
   by_cases hh:p=k
   ·exact hh
   ·exact absurd (hO.get (List.getElem?_eq_getElem (by omega)) hk (by omega:p<k)) (by rw[←ek];exact hp.hi p _ (List.getElem?_eq_getElem (by omega)) (Nat.le_refl _))
  subst hpk;have e:atK T (dW T c) (some c.cB)=true:=by rw[ek];simp only[atK,ga,beq_self_eq_true]
  have hol:=cQ (hr _ h2);simp only[e,eo,Bool.not_false,beq_self_eq_true,Bool.not_true,Bool.false_eq_true,if_false,if_true,aO,hk,Option.bind_some,XQ n c.cB c.cB (by omega) (by omega),ga]
  unfold B1;have hw:w64 ((p:Int)+1)=((p+1:Nat):Int):=by rw[bY (by omega) (by omega)];rfl
  rw[D6 hpl,Option.bind_some,zq hpl,Option.bind_some,if_pos rfl,hw,zq (by omega),Option.bind_some,L2 _ _ (by simp;omega) c hnl]
  have hs:rows=rows.take p++c.cB::rows.drop (p+1):=by
   obtain ⟨h3,h4⟩:=List.getElem?_eq_some_iff.1 hk;rw[←h4,←List.drop_eq_getElem_cons h3,List.take_append_drop]
  conv=>rhs;rw[hs]
  rw[U9 hA ek.symm (fun r hr'=>by
   obtain ⟨k,hk'⟩:=List.getElem?_of_mem hr';rw[List.getElem?_drop] at hk';rw[ek];exact hO.get hk hk' (by omega))]
theorem agZ (hT:s.ah[t]? =some T) (ht:cE T) (c:aw) (hc:c.ax=(t:Int)) (rows:List (List ae)) (hr:∀r∈rows,bg (bc T) r=true) (h:Em T rows c) (hn:2000<n):F58 n s 1 c=some true:=by
 have h8:=ht.aG;have hTi:idx s.ah (t:Int)=some T:=by rw[aO];exact hT
 have hlt:=(List.getElem?_eq_some_iff.1 hT).1;obtain ⟨m,rfl⟩:∃m,n=m+3:=⟨n-3,by omega⟩
 have e1:¬(t:Int)<0:=by omega
 have e2:(t:Int)<(s.ah.length:Int):=by omega
 have hk:∀row:List ae,row= []∨bg (bc T) row=true→∀(k:Int→qD→Int→ag→aw→Option Bool) (n1:Nat) (q:qD) (j:Int),1000<n1→B5 k n1 1 row q j s c=k 1 q (w64 (j+1)) s c:=by
  intro row eA k n1 q j hn1;unfold B5;rw[wS];rcases eA with rfl|eA
  ·simp
  ·rw[hc,LK hTi ht row hn1,eA];simp
 have hO:c.cB= []∨bg (bc T) c.cB=true:=by
  rcases h.old with h|h
  ·exact .inl h.1
  ·exact .inr (hr _ h.2)
 have hN:c.dQ= []∨bg (bc T) c.dQ=true:=h.new.imp id (·.1)
 have h3:B4 (m+3) 1 s c=some true:=by
  unfold B4;simp only[Gl,SF,show w64 (0+1)=1 from by rw[bY]<;>omega,show w64 (1+1)=2 from by rw[bY]<;>omega,hk _ hO _ (m+2) _ 0 (by omega),hk _ hN _ (m+1) _ 1 (by omega),show decide ((0:Int)<2)=true from rfl,show decide ((1:Int)<2)=true from rfl,show decide ((2:Int)<2)=false from rfl,if_true,show ((0:Int)==0)=true from rfl,show ((1:Int)==0)=false from rfl,show ((1:Int)==1)=true from rfl,Bool.false_eq_true,if_false]
  unfold SE;rw[JM,JM];cases ho:c.cB.isEmpty with
  |true=>rfl
  |false=>
   cases hnw:c.dQ.isEmpty with
   |true=>rfl
   |false=>
    have ho':c.cB≠ []:=by simpa using ho
    have hn':c.dQ≠ []:=by simpa using hnw
    have ek:dW T c=kOf T c.cB:=by unfold dW;rw[if_neg ho']
    have hol:=cQ (hO.resolve_left ho');obtain ⟨k1,k2⟩:=h.new.resolve_left hn';have hnl:=cQ k1;simp only[Bool.false_eq_true,if_false,hc,n7 hTi ht _ hol,n7 hTi ht _ hnl,Option.bind_some];rw[XQ _ _ _ (by simp;omega) (by simp;omega)]
    rw[show c.dQ.take T.aA.toNat=c.cB.take T.aA.toNat from k2.trans ek,ga];rfl
 unfold F58 SD;rw[hc];simp only[e1,e2,decide_false,decide_true,Bool.not_true,Bool.false_eq_true,if_false,JM,h3];rcases h.old with ⟨h1,h2,_⟩|⟨h1,_⟩
 ·have:c.dQ.isEmpty=false:=by simpa using h2
  simp[h1,this]
 ·have:c.cB.isEmpty=false:=by simpa using h1
  simp[this]
theorem LA (k:Int→List aw→Int→List (List (List ae))→Int→Int→ag→aj→aj→List (List (List ae))→List (List ae)→Option (aj×Int)) (mode:Int) (ch:List aw) (ts:List (List (List ae))) (a b:Int) (b32:List (List (List ae))) (tt:Nat) (htt:tt<b32.length) (rows:List (List ae)) (hl:rows.length≤100000) (hr:∀r∈rows,r.length≤1000000):∀(x:List (List ae)) (i m:Nat) (z1 z2:aj) (o:List (List ae)),rows.drop i=x→x.length+1≤m→o.length+x.length≤1000000→
  xP k m mode ch (tt:Int) ts a b rows (rows.length:Int) (i:Int) s z1 z2 b32 o=k mode ch (tt:Int) ts a b s ⟨[]⟩ ⟨b32⟩ b32 (o++x)
 | [],i,m+1,z1,z2,o,hd,hm,ho=>by
  have hq':rows.length≤i:=by simpa using hd
  have hq:¬((i:Int)<(rows.length:Int)):=by omega
  simp only[xP,Ha,hq,decide_false,Bool.false_eq_true,if_false,List.append_nil]
 |r::x,i,m+1,z1,z2,o,hd,hm,ho=>by
  obtain ⟨g1,g2,g3⟩:=ba hd;have hq:(i:Int)<(rows.length:Int):=by omega
  have e1:bnd b32.length (tt:Int)=some tt:=by unfold bnd;rw[if_pos (by omega)];rfl
  simp at hm ho;simp only[xP,Ha,hq,decide_true,if_true,aO,g1,Option.bind_some,e1,BQ m r (hr r (List.mem_of_getElem? g1)),dy o [r] (by simp;omega),bA g3 (by omega:rows.length<4294967296)]
  rw[LA k mode ch ts a b b32 tt htt rows hl hr x (i+1) m _ _ _ g2 (by omega) (by simp;omega),List.append_assoc]
  rfl
 |_,_,0,_,_,_,_,hm,_=>by omega
theorem Lz (n0 N:Nat) (hN:100001<N) (mode:Int) (ch:List aw) (ts:List (List (List ae))) (hlt:ts.length≤1000) (hl:∀rows∈ts,rows.length≤100000∧∀r∈rows,r.length≤1000000):∀(x:List (List (List ae))) (i m:Nat) (z1 z2:aj),ts.drop i=x→x.length+N≤m→
  uE (yc n0) m mode ch ts (ts.length:Int) (i:Int) s z1 z2 (ts.take i++List.replicate (ts.length-i) [])=yc n0 mode ch s ⟨[]⟩ ⟨ts⟩ ts
 | [],i,m+1,z1,z2,hd,hm=>by
  have hq':ts.length≤i:=by simpa using hd
  have hq:¬((i:Int)<(ts.length:Int)):=by omega
  have e:ts.take i++List.replicate (ts.length-i) []=ts:=by rw[List.take_of_length_le hq',show ts.length-i=0 by omega];simp
  simp only[uE,G8,hq,decide_false,Bool.false_eq_true,if_false,e]
 |rows::x,i,m+1,z1,z2,hd,hm=>by
  obtain ⟨g1,g2,g3⟩:=ba hd;have hq:(i:Int)<(ts.length:Int):=by omega
  have hti:(ts.take i).length=i:=by rw[List.length_take];omega
  have hlen:(ts.take i++List.replicate (ts.length-i) ([]:List (List ae))).length=ts.length:=by simp;omega
  have hg:(ts.take i++List.replicate (ts.length-i) ([]:List (List ae)))[i]? =some []:=by
   rw[List.getElem?_append_right (by omega),hti,Nat.sub_self,List.getElem?_replicate,if_pos (by omega)]
  have e0:Aw (ts.take i++List.replicate (ts.length-i) []) (0+(i:Int).toNat)=some ():=by
   unfold Aw;rw[show 0+(i:Int).toNat=i by omega,hg]
  obtain ⟨r1,r2⟩:=hl rows (List.mem_of_getElem? g1);have e2:setAt (ts.take i++List.replicate (ts.length-i) []) (0+(i:Int).toNat) rows=some (ts.take (i+1)++List.replicate (ts.length-(i+1)) []):=by
   unfold setAt;rw[show 0+(i:Int).toNat=i by omega,if_pos (by rw[hlen];exact g3)]
   congr 1;rw[List.set_append_right _ _ (by omega),hti,Nat.sub_self,show ts.length-i=(ts.length-(i+1))+1 by omega,List.replicate_succ,List.set_cons_zero,List.take_succ,g1]
   simp
  simp at hm;simp only[uE,G8,hq,decide_true,if_true,aO,g1,Option.bind_some,e0];have:=LA (s:=s) (G9 (uE (yc n0) m) m) mode ch ts (ts.length:Int) (i:Int) (ts.take i++List.replicate (ts.length-i) []) i (by omega) rows r1 r2 rows 0 m ⟨[]⟩ ⟨ts.take i++List.replicate (ts.length-i) []⟩ [] rfl (by omega) (by simp;omega)
  rw[show ((0:Nat):Int)=0 from rfl] at this;rw[this];simp only[G9,List.nil_append,e2,Option.bind_some,bA g3 (by omega:ts.length<4294967296)]
  exact Lz n0 N hN mode ch ts hlt hl x (i+1) m _ _ g2 (by omega)
 |_,_,0,_,_,_,hm=>by omega
end
end
section
abbrev gX:=List (List (List ae))
def im (s:ag) (ts:gX) (c:aw):gX:=
 match idx s.ah c.ax,idx ts c.ax with
 |some T,some rows=>ts.set c.ax.toNat (jg T (dW T c) (gP c) rows)
 |_,_=>ts
structure StB (s:ag) (ts:gX):Prop where
 len:ts.length=s.ah.length
 row:∀(t:Nat) T rows,s.ah[t]? =some T→ts[t]? =some rows→(∀r∈rows,bg (bc T) r=true)∧Ord T rows
def LG (s:ag) (ts:gX) (c:aw):Prop:=∃(t:Nat) (T:au) (rows:List (List ae)),c.ax=(t:Int)∧s.ah[t]? =some T∧ts[t]? =some rows∧Em T rows c
def LV (s:ag):gX→List aw→Prop
 |_,[]=>True
 |ts,c::cs=>LG s ts c∧LV s (im s ts c) cs
section
variable {s:ag} {t n:Nat} {T:au} {ts:gX} {rows:List (List ae)} {c:aw}
theorem xq (hc:c.ax=(t:Int)) (hT:s.ah[t]? =some T) (hr:ts[t]? =some rows):im s ts c=ts.set t (jg T (dW T c) (gP c) rows):=by
 unfold im;rw[hc,aO,aO,hT,hr];rfl
theorem StB.set (h:StB s ts) (hT:s.ah[t]? =some T) {rows':List (List ae)} (h1:∀r∈rows',bg (bc T) r=true) (h2:Ord T rows'):StB s (ts.set t rows'):=by
 refine ⟨by rw[List.length_set];exact h.len,fun u U rs hU hrs=> ?_⟩
 have hlt:=(List.getElem?_eq_some_iff.1 hT).1;by_cases e:u=t
 ·subst e;rw[hT] at hU;cases hU;rw[List.getElem?_set_self (by rw[h.len];exact hlt)] at hrs
  cases hrs;exact ⟨h1,h2⟩
 ·rw[List.getElem?_set_ne (fun e'=>e e'.symm)] at hrs
  exact h.row u U rs hU hrs
theorem StB.im (h:StB s ts) (hc:LG s ts c):StB s (im s ts c):=by
 obtain ⟨t,T,rows,h1,h2,h3,h4⟩:=hc;obtain ⟨r1,r2⟩:=h.row t T rows h2 h3;rw[xq h1 h2 h3];refine h.set h2 (fun r hr=> ?_) (Jc r2 (Oe h4))
 rcases pN.1 hr with ⟨hr,_⟩|hr
 ·exact r1 r hr
 ·unfold gP at hr;split at hr
  ·simp at hr
  ·rename_i hn;rw[List.mem_singleton.1 hr];exact (h4.new.resolve_left hn).1
theorem uV:∀{ts:gX} {t:Nat} {rows rows':List (List ae)},ts[t]? =some rows→total (ts.set t rows')+rows.length=total ts+rows'.length
 | [],_,_,_,h=>by simp at h
 |y::ts,0,rows,rows',h=>by
  simp at h;subst h;simp only[List.set_cons_zero,total];omega
 |y::ts,t+1,rows,rows',h=>by
  have:=uV (rows':=rows') (show ts[t]? =some rows by simpa using h)
  simp only[List.set_cons_succ,total];omega
theorem yy (k:List ae):∀rows:List (List ae),(rows.filter fun r=>decide (lt (kOf T r) k)).length+(rows.filter fun r=>decide (lt k (kOf T r))).length≤rows.length
 | []=>by simp
 |r::rows=>by
  have ih:=yy k rows;rw[List.filter_cons,List.filter_cons];by_cases h1:lt (kOf T r) k
  ·have h2:¬lt k (kOf T r):=lt_asymm h1;simp only[h1,h2,decide_true,decide_false,if_true,Bool.false_eq_true,if_false,List.length_cons];omega
  ·by_cases h2:lt k (kOf T r)
   ·simp only[h1,h2,decide_true,decide_false,if_true,Bool.false_eq_true,if_false,List.length_cons];omega
   ·simp only[h1,h2,decide_false,Bool.false_eq_true,if_false,List.length_cons];omega
theorem Jd (k:List ae) (N rows:List (List ae)):(jg T k N rows).length≤rows.length+N.length:=by
 have:=yy (T:=T) k rows;unfold jg;simp only[List.length_append];omega
theorem Ly (hs:SOK s) (n0 N:Nat) (hN:300000≤N) (cs0:List aw) (hcl:cs0.length≤1000):∀(x:List aw) (i m:Nat) (b:gX) (z1 z2:aj),cs0.drop i=x→x.length+N<m→StB s b→LV s b x→total b+x.length≤512→
  xO (G6 n0) m 1 ((total b:Nat):Int) cs0 (cs0.length:Int) (i:Int) s z1 z2 b=some (⟨x.foldl (im s) b⟩,0)
 | [],i,m+1,b,z1,z2,hd,hm,hb,hc,Kb=>by
  have hq':cs0.length≤i:=by simpa using hd
  have hq:¬((i:Int)<(cs0.length:Int)):=by omega
  simp only[xO,G7,G6,hq,decide_false,Bool.false_eq_true,if_false,List.foldl_nil]
 |c::x,i,m+1,b,z1,z2,hd,hm,hb,hc,Kb=>by
  obtain ⟨g1,g2,g3⟩:=ba hd;have hq:(i:Int)<(cs0.length:Int):=by omega
  obtain ⟨hf,hc⟩:=hc;have hb':=hb.im hf;obtain ⟨t,T,rows,h1,h2,h3,h4⟩:=hf;obtain ⟨r1,r2⟩:=hb.row t T rows h2 h3;rw[xq h1 h2 h3] at hc hb';have hlt:=(List.getElem?_eq_some_iff.1 h3).1;have ht:=hs.tab (t:Int) T (by rw[aO];exact h2)
  have hrl:=nK (List.mem_of_getElem? h3);have e1:bnd b.length (t:Int)=some t:=by unfold bnd;rw[if_pos (by omega)];rfl
  have e3:∀o,setAt b t o=some (b.set t o):=fun o=>by unfold setAt;rw[if_pos hlt]
  have hts:=uV (rows':=jg T (dW T c) (gP c) rows) h3;have hpl:=Jd (T:=T) (dW T c) (gP c) rows;have hnl:=JF c;simp at hm Kb;have ew:w64 (((total b:Nat):Int)+w64 (((jg T (dW T c) (gP c) rows).length:Int)-(rows.length:Int)))=((total (b.set t (jg T (dW T c) (gP c) rows)):Nat):Int):=by
   rw[bY (x:=((jg T (dW T c) (gP c) rows).length:Int)-(rows.length:Int)) (by omega) (by omega),bY (by omega) (by omega)]
   omega
  have e5:¬(512:Int)<((total (b.set t (jg T (dW T c) (gP c) rows)):Nat):Int):=by omega
  simp only[xO,G7,hq,decide_true,if_true,aO,g1,Option.bind_some,agZ (n:=m) h2 ht c h1 rows r1 h4 (by omega),Bool.not_true,Bool.false_eq_true,if_false,h1,e1,Nat.zero_add,h3,
   agY (n:=m) (by rw[aO];exact h2) ht c h1 rows (by omega) r1 r2 h4 (by omega),ew,e5,decide_false,e3,bA g3 (by omega:cs0.length<4294967296)]
  rw[Ly hs n0 N hN cs0 hcl x (i+1) m _ _ _ g2 (by omega) hb' hc (by omega),List.foldl_cons,xq h1 h2 h3]
 |_,_,0,_,_,_,_,hm,_,_,_=>by omega
theorem HA:∀{Ts:List au} {rss:gX},(∀(t:Nat) T rows,Ts[t]? =some T→rss[t]? =some rows→kE T none rows=true)→ll Ts rss=true
 | [],_,_=>by simp[ll]
 |_::_,[],_=>by simp[ll]
 |T::Ts,rs::rss,h=>by
  simp only[ll,Bool.and_eq_true];exact ⟨h 0 T rs rfl rfl,HA fun t U rows h1 h2=>h (t+1) U rows (by simpa using h1) (by simpa using h2)⟩
theorem StB.chk (h:StB s ts) (ht:total ts≤512):nn s 0 ts=0:=by
 unfold nn;rw[if_pos rfl,if_neg (by omega),if_pos h.len,HA fun t T rows h1 h2=>by
  obtain ⟨r1,r2⟩:=h.row t T rows h1 h2;exact Ew.2 ⟨r1,by simp,r2⟩,if_pos rfl]
theorem ahj (hs:SOK s) (he:F38 n s=some 0) (h:StB s ts) {cs:List aw} (hc:LV s ts cs) (Kb:total ts+cs.length≤512) (hn:2000100≤n):F20 n s 1 ⟨ts⟩ cs=some (⟨cs.foldl (im s) ts⟩,0):=by
 have hl8:=hs.len;have hlen:=h.len;have e:l9 (ts.length:Int) ([]:List (List ae))=some (List.replicate ts.length []):=by
  unfold l9;rw[if_pos (by omega)];rfl
 have h57:=Lr (B6 n) ts (by omega) ts 0 n 0 rfl (by omega) (by omega)
 have e57:F57 n ⟨ts⟩=some ((total ts:Nat):Int):=by
  unfold F57 GK;simp only[show ((0:Nat):Int)=0 from rfl,Nat.zero_add] at h57;rw[h57];rfl
 unfold F20 S6;rw[XV n s 0 he (fun _=>hs) ⟨ts⟩ (by simp only;omega) hn,Option.bind_some,h.chk (by omega),if_neg (by simp)]
 simp only[e,Option.bind_some];have e2:=Lz (s:=s) n 2000000 (by omega) 1 cs ts (by omega) (fun rows hr=>⟨by have:=nK hr;omega,fun r hr'=>by
  obtain ⟨t,hl,rfl⟩:=List.mem_iff_getElem.1 hr;have hT:s.ah[t]? =some s.ah[t]:=List.getElem?_eq_getElem (by omega)
  have:=cQ ((h.row t _ _ hT (List.getElem?_eq_getElem hl)).1 r hr');have:=(hs.tab (t:Int) _ (by rw[aO];exact hT)).aG
  omega⟩) ts 0 n ⟨[]⟩ ⟨List.replicate ts.length []⟩ rfl (by omega)
 rw[show ((0:Nat):Int)=0 from rfl,List.take_zero,List.nil_append,Nat.sub_zero] at e2;rw[e2];unfold yc;rw[e57,Option.bind_some];exact Ly hs n 300000 (Nat.le_refl _) cs (by omega) cs 0 n ts _ _ rfl (by omega) h hc Kb
end
end
section
section
variable {s:ag} {t n:Nat} {T:au} {ts ts0:gX} {rows:List (List ae)} {c:aw} {key:List ae} {r:List ae}
instance decRow (a b:List ae):Decidable (a=b):=decidable_of_iff (bT a b=0) rV
theorem Ord.inj (h:Ord T rows) {a b:List ae} (ha:a∈rows) (hb:b∈rows) (e:kOf T a=kOf T b):a=b:=by
 obtain ⟨i,hi⟩:=List.getElem?_of_mem ha;obtain ⟨j,hj⟩:=List.getElem?_of_mem hb;by_cases h1:i=j
 ·subst h1;rw[hi] at hj;cases hj;rfl
 ·by_cases h2:i<j
  ·have:=h.get hi hj h2;rw[e] at this;exact absurd this (lt_irrefl _)
  ·have:=h.get hj hi (by omega);rw[e] at this;exact absurd this (lt_irrefl _)
theorem nV:dP T key rows=none↔∀r∈rows,kOf T r≠key:=by
 unfold dP;rw[List.find?_eq_none];constructor
 ·intro h r hr e;have:=h r hr;simp only[beq_iff_eq] at this;exact this (rV.2 e)
 ·intro h r hr hc;simp only[beq_iff_eq] at hc;exact h r hr (kF hc)
theorem qi (h:dP T key rows=some r):kOf T r=key:=by
 have:=List.find?_some h;simp only[beq_iff_eq] at this;exact kF this
theorem rq (hO:Ord T rows):dP T key rows=some r↔r∈rows∧kOf T r=key:=by
 constructor
 ·exact fun h=>⟨lL h,qi h⟩
 ·rintro ⟨h1,h2⟩;cases hg:dP T key rows with
  |none=>exact absurd h2 (nV.1 hg r h1)
  |some r'=>rw[hO.inj (lL hg) h1 ((qi hg).trans h2.symm)]
theorem Zs {k:List ae} {N:List (List ae)} (hO:Ord T rows) (hN:N= []∨∃r,N= [r]∧kOf T r=k):dP T key (jg T k N rows)=if key=k then N.head? else dP T key rows:=by
 have hO':=Jc hO hN;split
 ·rename_i e;subst e;rcases hN with rfl|⟨r,rfl,e⟩
  ·refine nV.2 fun r hr=> ?_
   rcases pN.1 hr with h|h
   ·exact h.2
   ·simp at h
  ·exact (rq hO').2 ⟨pN.2 (.inr (by simp)),e⟩
 ·rename_i e;cases hg:dP T key rows with
  |none=>
   refine nV.2 fun r hr=> ?_
   rcases pN.1 hr with h|h
   ·exact nV.1 hg r h.1
   ·rcases hN with rfl|⟨r',rfl,e'⟩
    ·simp at h
    ·rw[List.mem_singleton.1 h,e'];exact fun h=>e h.symm
  |some r=>
   exact (rq hO').2 ⟨pN.2 (.inl ⟨lL hg,by rw[qi hg];exact e⟩),qi hg⟩
def wlt (a b:ar):Prop:=gF a.ax a.aA b.ax b.aA<0
theorem Tb {a b d:ar} (h1:wlt a b) (h2:wlt b d):wlt a d:=by
 unfold wlt gF at*;by_cases e1:a.ax=b.ax
 ·rw[if_pos e1] at h1;by_cases e2:b.ax=d.ax
  ·rw[if_pos e2] at h2;rw[if_pos (e1.trans e2)];exact jf.2 (lt_trans (jf.1 h1) (jf.1 h2))
  ·rw[if_neg e2] at h2;rw[if_neg (by rw[e1];exact e2),e1]
   exact h2
 ·rw[if_neg e1] at h1;by_cases e2:b.ax=d.ax
  ·rw[←e2,if_neg e1];exact h1
  ·rw[if_neg e2] at h2;split at h1
   ·split at h2
    ·rw[if_neg (by omega),if_pos (by omega)];omega
    ·omega
   ·omega
theorem Tc {a b:ar} (h:wlt a b) (e:a.ax=b.ax):a.aA≠b.aA:=by
 unfold wlt gF at h;rw[if_pos e] at h;intro hk;rw[hk,ga] at h;omega
theorem zK:∀{ws:List ar} {prev:Option ar},fg s prev ws=0→ws.Pairwise wlt∧∀p,prev=some p→∀w∈ws,wlt p w
 | [],_,_=>⟨.nil,fun _ _ _ h=>by simp at h⟩
 |w::ws,prev,h=>by
  obtain ⟨h1,h2,h3⟩:=jx.1 h;obtain ⟨i1,i2⟩:=zK h3;refine ⟨List.pairwise_cons.2 ⟨fun v hv=>i2 w rfl v hv,i1⟩,fun p hp v hv=> ?_⟩
  subst hp;have hw:wlt p w:=by
   simp only[oH,Bool.not_eq_false',decide_eq_true_eq] at h2;exact h2
  rcases List.mem_cons.1 hv with rfl|hv
  ·exact hw
  ·exact Tb hw (i2 w rfl v hv)
theorem I0:∀{ks:List Int} {r:List ae} {i:Nat} {v:ae} {k:Int},bg ks r=true→ks[i]? =some k→iq v=true→v.aD=k→bg ks (r.set i v)=true
 |k::ks,w::r,0,v,k',h,hk,h1,h2=>by
  simp only[bg,Bool.and_eq_true,beq_iff_eq] at h;simp at hk;subst hk;simp[bg,h1,h2,h.2]
 |k::ks,w::r,i+1,v,k',h,hk,h1,h2=>by
  simp only[bg,Bool.and_eq_true] at h;simp only[List.set_cons_succ,bg,Bool.and_eq_true];exact ⟨h.1,I0 h.2 (by simpa using hk) h1 h2⟩
 | [],[],_,_,_,_,hk,_,_=>by simp at hk
 | [],_::_,_,_,_,h,_,_,_=>by simp[bg] at h
 |_::_,[],_,_,_,h,_,_,_=>by simp[bg] at h
theorem Nc {ks:List Int}:∀{cs l:List Int} {vs:List ae} {last:Int} {r:List ae}, -1≤last→dT ks last cs=some l→bg l vs=true→bg ks r=true→bg ks (dD r cs vs)=true∧(dD r cs vs).take (last+1).toNat=r.take (last+1).toNat
 | [],l,vs,last,r,_,h,hl,hr=>by simp[dD,hr]
 |c::cs,l,vs,last,r,QF,h,hl,hr=>by
  simp only[dT] at h;split at h
  ·rename_i hc;cases h3:dT ks c cs with
   |none=>rw[h3] at h;cases h
   |some l'=>
    rw[h3] at h;simp at h;subst h;cases vs with
    |nil=>simp[bg] at hl
    |cons v vs=>
     simp only[bg,Bool.and_eq_true,beq_iff_eq] at hl;have hlt:c.toNat<ks.length:=by omega
     have hk:ks[c.toNat]? =some ks[c.toNat]:=List.getElem?_eq_getElem hlt;rw[hk] at hl;have hr':=I0 (i:=c.toNat) hr hk hl.1.1 hl.1.2;obtain ⟨a,b⟩:=Nc (by omega) h3 hl.2 hr'
     refine ⟨a,?_⟩;simp only[dD];have e:(last+1).toNat=min (last+1).toNat (c+1).toNat:=by omega
     rw[e,←List.take_take,b,List.take_take,←e,List.take_set_of_le (by omega)]
  ·cases h
theorem ads {w:ar} (ht:cE T) (h:wOK T w=true) (h2:w.fOp=2) (hr:bg (bc T) r=true):bg (bc T) (dD r w.aq w.aV)=true∧kOf T (dD r w.aq w.aV)=kOf T r:=by
 have k1:=ht.ia;simp only[wOK,g6,Bool.and_eq_true] at h;have h:=h.2;rw[if_neg (by omega),if_pos h2] at h
 split at h
 ·rename_i l hl;obtain ⟨a,b⟩:=Nc (r:=r) (by omega) hl h hr
  refine ⟨a,?_⟩;rw[show T.aA-1+1=T.aA by omega] at b
  exact b
 ·cases h
theorem Nb {w:ar} (h:wOK T w=true) (h1:w.fOp=1):bg (bc T) w.aV=true∧kOf T w.aV=w.aA:=by
 simp only[wOK,g6,Bool.and_eq_true] at h;have h:=h.2;rw[if_pos h1] at h;simp only[Bool.and_eq_true,beq_iff_eq] at h;exact ⟨h.2.1,kF h.2.2⟩
theorem IY (ht:cE T) (hr:bg (bc T) r=true):r≠ []:=by
 rintro rfl;have:=cQ hr;have k1:=ht.ia;have k2:=ht.cL;simp at this;omega
def eJ (s:ag) (ts0:gX) (w:ar):Option aw:=
 match idx s.ah w.ax,idx ts0 w.ax with
 |some T,some rows=>
  match dP T w.aA rows with
  |some r=>if w.fOp=2 then (if bT r (dD r w.aq w.aV)=0 then none else some (aw.mk w.ax r (dD r w.aq w.aV))) else some (aw.mk w.ax r [])
  |none=>some (aw.mk w.ax [] w.aV)
 |_,_=>none
def eff (T:au) (cJ:List (List ae)) (w:ar):Option (List ae):=
 match dP T w.aA cJ with
 |some r=>if w.fOp=2 then some (dD r w.aq w.aV) else none
 |none=>some w.aV
def Acc (s:ag) (ts0:gX) (w:ar):Prop:=∃(t:Nat) (T:au) (rows:List (List ae)),w.ax=(t:Int)∧s.ah[t]? =some T∧ts0[t]? =some rows∧wOK T w=true∧((dP T w.aA rows=none∧w.fOp=1)∨∃r,dP T w.aA rows=some r∧(w.fOp=2∨w.fOp=3))
theorem Oq (hlen:ts0.length=s.ah.length):∀(ws:List ar) (acc:List aw),(∀w∈ws,oo s w)→((∀w∈ws,Acc s ts0 w)∧iB s ts0 ws acc=(acc++ws.filterMap (eJ s ts0),tF,0))∨∃rf:aM,rf.dI≠0∧iB s ts0 ws acc=([],rf,0)
 | [],acc,_=>.inl ⟨by simp,by simp[iB]⟩
 |w::ws,acc,hg=>by
  obtain ⟨T,hT,hop,hok⟩:=hg w (by simp)
  obtain ⟨i1,i2,i3⟩:=nT hT;have hlt:w.ax.toNat<ts0.length:=by rw[hlen];exact i2
  have hr:ts0[w.ax.toNat]? =some ts0[w.ax.toNat]:=List.getElem?_eq_getElem hlt;have ht:w.ax=(w.ax.toNat:Int):=by omega
  have hri:idx ts0 w.ax=some ts0[w.ax.toNat]:=by unfold idx;rw[if_pos i1];exact hr
  have ih:=fun acc'=>Oq hlen ws acc' fun v hv=>hg v (by simp[hv])
  have key:∀(o:List aw),Acc s ts0 w→(match eJ s ts0 w with|some c=> [c]|none=> [])=o→iB s ts0 (w::ws) acc=iB s ts0 ws (acc++o)→((∀v∈w::ws,Acc s ts0 v)∧iB s ts0 (w::ws) acc=(acc++(w::ws).filterMap (eJ s ts0),tF,0))∨∃rf:aM,rf.dI≠0∧iB s ts0 (w::ws) acc=([],rf,0):=by
   intro o ha ho he;rw[he];rcases ih (acc++o) with ⟨a,b⟩|⟨rf,a,b⟩
   ·refine .inl ⟨fun v hv=> ?_,?_⟩
    ·rcases List.mem_cons.1 hv with rfl|hv
     ·exact ha
     ·exact a v hv
    ·rw[b,List.filterMap_cons];cases hc:eJ s ts0 w with
     |none=>rw[hc] at ho;subst ho;simp
     |some c=>rw[hc] at ho;subst ho;simp
   ·exact .inr ⟨rf,a,b⟩
  cases hgk:dP T w.aA ts0[w.ax.toNat] with
  |none=>
   by_cases h1:w.fOp=1
   ·refine key [aw.mk w.ax [] w.aV] ⟨_,T,_,ht,i3,hr,hok,.inl ⟨hgk,h1⟩⟩ ?_ ?_
    ·simp only[eJ,hT,hri,hgk]
    ·simp only[iB,hT,hri,hgk,h1,if_true]
   ·exact .inr ⟨aM.mk 5 0 w.ax w.aA,by simp,by simp only[iB,hT,hri,hgk,h1,if_false]⟩
  |some r=>
   by_cases h1:w.fOp=1
   ·exact .inr ⟨aM.mk 4 0 w.ax w.aA,by simp,by simp only[iB,hT,hri,hgk,h1,if_true]⟩
   ·have ha:Acc s ts0 w:=⟨_,T,_,ht,i3,hr,hok,.inr ⟨r,hgk,by omega⟩⟩
    by_cases h2:w.fOp=2
    ·by_cases h3:bT r (dD r w.aq w.aV)=0
     ·refine key [] ha ?_ ?_
      ·simp only[eJ,hT,hri,hgk,h2,if_true,h3]
      ·simp only[iB,hT,hri,hgk,h2,h3,if_true,List.append_nil];rw[if_neg (by omega)]
     ·refine key [aw.mk w.ax r (dD r w.aq w.aV)] ha ?_ ?_
      ·simp only[eJ,hT,hri,hgk,h2,if_true,h3,if_false]
      ·simp only[iB,hT,hri,hgk,h2,h3,if_true,if_false];rw[if_neg (by omega)]
    ·refine key [aw.mk w.ax r []] ha ?_ ?_
     ·simp only[eJ,hT,hri,hgk,h2,if_false]
     ·simp only[iB,hT,hri,hgk,h1,h2,if_false]
theorem aht (hs:SOK s) {w:ar} {cur:gX} {cJ:List (List ae)} (hb:StB s cur) (ht:w.ax=(t:Int)) (hT:s.ah[t]? =some T) (h0:ts0[t]? =some cJ) (hc:cur[t]? =some rows) (hg:dP T w.aA rows=dP T w.aA cJ) (hok:wOK T w=true) (hop:(dP T w.aA cJ=none∧w.fOp=1)∨∃r,dP T w.aA cJ=some r∧(w.fOp=2∨w.fOp=3)):
  (∀c,eJ s ts0 w=some c→LG s cur c)∧∃rows',(match eJ s ts0 w with|some c=>im s cur c|none=>cur)=cur.set t rows'∧StB s (cur.set t rows')∧∀key,dP T key rows'=if key=w.aA then eff T cJ w else dP T key rows:=by
 have hTi:idx s.ah w.ax=some T:=by rw[ht,aO];exact hT
 have h0i:idx ts0 w.ax=some cJ:=by rw[ht,aO];exact h0
 have htb:=hs.tab _ _ hTi;obtain ⟨r1,r2⟩:=hb.row t T rows hT hc;have fits:∀c:aw,c.ax=w.ax→Em T rows c→dW T c=w.aA→eff T cJ w=(gP c).head? →eJ s ts0 w=some c→(∀c,eJ s ts0 w=some c→LG s cur c)∧∃rows',(match eJ s ts0 w with|some c=>im s cur c|none=>cur)=cur.set t rows'∧StB s (cur.set t rows')∧∀key,dP T key rows'=if key=w.aA then eff T cJ w else dP T key rows:=by
  intro c e1 e2 e3 e4 e5;have hf:LG s cur c:=⟨t,T,rows,e1.trans ht,hT,hc,e2⟩;have e6:=xq (e1.trans ht) hT hc;have hb':=hb.im hf;rw[e6] at hb';refine ⟨fun c' hc'=>(by rw[e5] at hc';cases hc';exact hf),_,(by rw[e5];exact e6),hb',fun key=> ?_⟩
  rw[Zs r2 (Oe e2),e3,e4]
 cases hgk:dP T w.aA cJ with
 |none=>
  have h1:w.fOp=1:=by
   rcases hop with h|⟨r,h,_⟩
   ·exact h.2
   ·rw[hgk] at h;cases h
  obtain ⟨a,b⟩:=Nb hok h1;have hne:=IY htb a;have ek:dW T (aw.mk w.ax [] w.aV)=w.aA:=by simp only[dW,if_true];exact b
  refine fits (aw.mk w.ax [] w.aV) rfl ⟨.inr ⟨a,by rw[ek];exact b⟩,.inl ⟨rfl,hne,fun r hr=> ?_⟩⟩ ek ?_ ?_
  ·rw[ek];exact nV.1 (hg.trans hgk) r hr
  ·simp only[eff,hgk,gP,hne,if_false];rfl
  ·simp only[eJ,hTi,h0i,hgk]
 |some r=>
  have hop':w.fOp=2∨w.fOp=3:=by
   rcases hop with h|⟨r',h,h'⟩
   ·rw[hgk] at h;cases h.1
   ·exact h'
  have hgr:=hg.trans hgk;have iS:=lL hgr;have ml:=qi hgr;have hrk:=r1 r iS;have DH:=IY htb hrk;by_cases h2:w.fOp=2
  ·obtain ⟨a,b⟩:=ads htb hok h2 hrk;have hne:=IY htb a;by_cases h3:bT r (dD r w.aq w.aV)=0
   ·have e:=kF h3;have ec:eJ s ts0 w=none:=by simp only[eJ,hTi,h0i,hgk,h2,if_true,h3]
    have eset:cur.set t rows=cur:=by
     obtain ⟨q1,q2⟩:=List.getElem?_eq_some_iff.1 hc;rw[←q2];exact List.set_getElem_self q1
    refine ⟨fun c hc'=>(by rw[ec] at hc';cases hc'),rows,by rw[ec,eset],by rw[eset];exact hb,fun key=> ?_⟩
    split
    ·rename_i ek;rw[ek,hgr];simp only[eff,hgk,h2,if_true];rw[←e]
    ·rfl
   ·have ek:dW T (aw.mk w.ax r (dD r w.aq w.aV))=w.aA:=by simp only[dW,DH,if_false];exact ml
    refine fits _ rfl ⟨.inr ⟨a,by rw[ek];exact b.trans ml⟩,.inr ⟨DH,iS⟩⟩ ek ?_ ?_
    ·simp only[eff,hgk,h2,if_true,gP,hne,if_false];rfl
    ·simp only[eJ,hTi,h0i,hgk,h2,if_true,h3,if_false]
  ·have ek:dW T (aw.mk w.ax r [])=w.aA:=by simp only[dW,DH,if_false];exact ml
   refine fits (aw.mk w.ax r []) rfl ⟨.inl rfl,.inr ⟨DH,iS⟩⟩ ek ?_ ?_
   ·simp only[eff,hgk,h2,if_false,gP,if_true];rfl
   ·simp only[eJ,hTi,h0i,hgk,h2,if_false]
theorem writes (hs:SOK s):∀(ws:List ar) (cur:gX),StB s cur→ws.Pairwise wlt→(∀w∈ws,Acc s ts0 w)→(∀w∈ws,∀(t:Nat) T cJ rows,w.ax=(t:Int)→s.ah[t]? =some T→ts0[t]? =some cJ→cur[t]? =some rows→dP T w.aA rows=dP T w.aA cJ)→
  LV s cur (ws.filterMap (eJ s ts0))∧StB s ((ws.filterMap (eJ s ts0)).foldl (im s) cur)∧
  (∀w∈ws,∀(t:Nat) T cJ dF,w.ax=(t:Int)→s.ah[t]? =some T→ts0[t]? =some cJ→((ws.filterMap (eJ s ts0)).foldl (im s) cur)[t]? =some dF→dP T w.aA dF=eff T cJ w)∧
  (∀(t:Nat) T rows dF key,s.ah[t]? =some T→cur[t]? =some rows→((ws.filterMap (eJ s ts0)).foldl (im s) cur)[t]? =some dF→(∀w∈ws,w.ax=(t:Int)→w.aA≠key)→dP T key dF=dP T key rows)
 | [],cur,hb,_,_,_=>⟨trivial,hb,fun _ h=>by simp at h,fun t T rows dF key _ h1 h2 _=>by
   have h2:cur[t]? =some dF:=h2;rw[h1] at h2;cases h2;rfl⟩
 |w::ws,cur,hb,hp,ha,hg=>by
  obtain ⟨p1,p2⟩:=List.pairwise_cons.1 hp;obtain ⟨t,T,cJ,ht,hT,h0,hok,hop⟩:=ha w (by simp)
  have hlt:t<cur.length:=by rw[hb.len];exact (List.getElem?_eq_some_iff.1 hT).1
  have hc:cur[t]? =some cur[t]:=List.getElem?_eq_getElem hlt;obtain ⟨s1,rows',s2,s3,s4⟩:=aht hs hb ht hT h0 hc (hg w (by simp) t T cJ _ ht hT h0 hc) hok hop
  have get':∀{u:Nat} {rs:List (List ae)},(cur.set t rows')[u]? =some rs→(u=t∧rs=rows')∨(u≠t∧cur[u]? =some rs):=by
   intro u rs h;by_cases e:u=t
   ·subst e;rw[List.getElem?_set_self hlt] at h;cases h;exact .inl ⟨rfl,rfl⟩
   ·rw[List.getElem?_set_ne (fun e'=>e e'.symm)] at h;exact .inr ⟨e,h⟩
  obtain ⟨i1,i2,i3,i4⟩:=writes hs ws (cur.set t rows') s3 p2 (fun v hv=>ha v (by simp[hv])) fun v hv u U Ad rs hu hU h0' hrs=>by
   rcases get' hrs with ⟨rfl,rfl⟩|⟨hne,hrs⟩
   ·rw[hT] at hU;cases hU;rw[s4,if_neg (fun e=>Tc (p1 v hv) (ht.trans hu.symm) e.symm)]
    exact hg v (by simp[hv]) u T Ad _ hu hT h0' hc
   ·exact hg v (by simp[hv]) u U Ad rs hu hU h0' hrs
  have aif:((w::ws).filterMap (eJ s ts0)).foldl (im s) cur=(ws.filterMap (eJ s ts0)).foldl (im s) (cur.set t rows'):=by
   rw[List.filterMap_cons,←s2];cases eJ s ts0 w<;>rfl
  have hcs:LV s cur ((w::ws).filterMap (eJ s ts0)):=by
   rw[List.filterMap_cons];cases hch:eJ s ts0 w with
   |none=>rw[hch] at s2;have s2:cur=cur.set t rows':=s2;simp only;rw[s2];exact i1
   |some c=>rw[hch] at s2;have s2:im s cur c=cur.set t rows':=s2;exact ⟨s1 c hch,by rw[s2];exact i1⟩
  rw[aif];have hltF:t<((ws.filterMap (eJ s ts0)).foldl (im s) (cur.set t rows')).length:=by rw[i2.len];exact (List.getElem?_eq_some_iff.1 hT).1
  refine ⟨hcs,i2,fun v hv u U Ad dF hu hU h0' hF=> ?_,fun u U rs dF key hU hrs hF hk=> ?_⟩
  ·rcases List.mem_cons.1 hv with rfl|hv
   ·have e:u=t:=by omega
    subst e;rw[hT] at hU;cases hU;rw[h0] at h0';cases h0';rw[i4 u T rows' dF v.aA hT (List.getElem?_set_self hlt) hF fun x hx hxt hxk=>Tc (p1 x hx) (ht.trans hxt.symm) hxk.symm,s4,if_pos rfl]
   ·exact i3 v hv u U Ad dF hu hU h0' hF
  ·have hk':∀x∈ws,x.ax=(u:Int)→x.aA≠key:=fun x hx=>hk x (by simp[hx])
   by_cases e:u=t
   ·subst e;rw[hT] at hU;cases hU;rw[hc] at hrs;cases hrs;rw[i4 u T rows' dF key hT (List.getElem?_set_self hlt) hF hk',s4,if_neg (fun e=>hk w (by simp) ht e.symm)]
   ·exact i4 u U rs dF key hU (by rw[List.getElem?_set_ne (fun e'=>e e'.symm)];exact hrs) hF hk'
end
end
section
section
variable {s:ag} {t n:Nat} {T:au} {ts ts0 tsF:gX} {rows dF:List (List ae)} {r:List ae}
theorem Oy (k:List ar→List ar→Int→Int→Bool→Int→Int→Int→List au→Int→au→au→List bl→Int→ag→aj→aj→List ae→List ae→List ae→ar→Option Bool) (w:ar) (hl:w.aq.length<4294967296) (hc:w.aV.length=w.aq.length) (l6 t76:List ar) (t77 t78:Int) (t107:Bool) (t112 t114 t119:Int) (t121:List au) (t123:Int) (t124 t125:au) (t126:List bl) (t127:Int) (b4:ag) (b5 b10:aj) (p q:List ae):∀(x:List Int) (i m:Nat) (b:List ae),w.aq.drop i=x→x.length<m→(∀c∈x,0≤c∧c.toNat<b.length)→
  Eg k m l6 t76 t77 t78 t107 t112 t114 t119 t121 t123 t124 t125 t126 t127 w.aq (w.aq.length:Int) (i:Int) b4 b5 b10 w p b q=k l6 t76 t77 t78 t107 t112 t114 t119 t121 t123 t124 t125 t126 t127 b4 b5 b10 p (dD b x (w.aV.drop i)) q w
 | [],i,m+1,b,hd,hm,_=>by
  have hq':w.aq.length≤i:=by simpa using hd
  have hq:¬((i:Int)<(w.aq.length:Int)):=by omega
  simp only[Eg,SB,hq,decide_false,Bool.false_eq_true,if_false,dD]
 |c::x,i,m+1,b,hd,hm,hb=>by
  obtain ⟨g1,g2,g3⟩:=ba hd;have hq:(i:Int)<(w.aq.length:Int):=by omega
  have hi:i<w.aV.length:=by omega
  have hv:w.aV[i]? =some w.aV[i]:=List.getElem?_eq_getElem _;obtain ⟨c1,c2⟩:=hb c (by simp)
  have b1:bnd b.length c=some c.toNat:=by unfold bnd;rw[if_pos ⟨c1,c2⟩]
  have b2:b[0+c.toNat]? =some (b[c.toNat]):=by rw[Nat.zero_add];exact List.getElem?_eq_getElem _
  have b3:setAt b (0+c.toNat) w.aV[i]=some (b.set c.toNat w.aV[i]):=by rw[Nat.zero_add];unfold setAt;rw[if_pos c2]
  simp at hm;simp only[Eg,SB,hq,decide_true,if_true,aO,g1,hv,Option.bind_some,b1,b2,b3,bA g3 hl];rw[Oy k w hl hc l6 t76 t77 t78 t107 t112 t114 t119 t121 t123 t124 t125 t126 t127 b4 b5 b10 p q x (i+1) m _ g2 (by omega) (fun d hd=>by rw[List.length_set];exact hb d (List.mem_cons_of_mem _ hd)),List.drop_eq_getElem_cons hi]
  simp only[dD]
 |_,_,0,_,_,hm,_=>by simp at hm
structure Done (s:ag) (ts0 tsF:gX) (w:ar):Prop where
 acc:Acc s ts0 w
 eff:∀(t:Nat) T cJ dF,w.ax=(t:Int)→s.ah[t]? =some T→ts0[t]? =some cJ→tsF[t]? =some dF→dP T w.aA dF=eff T cJ w
theorem Ox (hs:SOK s) (n0 N:Nat) (hN:10000≤N) (h0:StB s ts0) (hF:StB s tsF) (l0:∀rows∈ts0,rows.length≤512) (lF:∀rows∈tsF,rows.length≤512) (ws:List ar) (hws:ws.length≤1000) (hd:∀w∈ws,Done s ts0 tsF w):∀(x:List ar) (i m:Nat),ws.drop i=x→x.length+N<m→
  wo (rO n0) m ws ws (ws.length:Int) (i:Int) s ⟨ts0⟩ ⟨tsF⟩=rO n0 ws ⟨ts0⟩ ⟨tsF⟩
 | [],i,m+1,hx,hm=>by
  have hq':ws.length≤i:=by simpa using hx
  have hq:¬((i:Int)<(ws.length:Int)):=by omega
  simp only[wo,Sy,hq,decide_false,Bool.false_eq_true,if_false]
 |w::x,i,m+1,hx,hm=>by
  obtain ⟨g1,g2,g3⟩:=ba hx;have hq:(i:Int)<(ws.length:Int):=by omega
  simp at hm;have ih:=Ox hs n0 N hN h0 hF l0 lF ws hws hd x (i+1) m g2 (by omega)
  obtain ⟨⟨t,T,cJ,ht,hT,h0r,hok,hop⟩,he⟩:=hd w (List.mem_of_getElem? g1);have hTi:idx s.ah w.ax=some T:=by rw[ht,aO];exact hT
  have hTt:idx s.ah (t:Int)=some T:=by rw[aO];exact hT
  have htb:=hs.tab _ _ hTi;have h8:=htb.aG;have hltF:t<tsF.length:=by rw[hF.len];exact (List.getElem?_eq_some_iff.1 hT).1
  have hFr:tsF[t]? =some tsF[t]:=List.getElem?_eq_getElem hltF;have he:=he t T cJ _ ht hT h0r hFr;obtain ⟨a1,a2⟩:=h0.row t T _ hT h0r;obtain ⟨c1,c2⟩:=hF.row t T _ hT hFr;have e1:=LM (n:=m) hT htb ⟨ts0⟩ cJ h0r (l0 _ (List.mem_of_getElem? h0r)) a1 w.aA (by omega)
  have e2:=LM (n:=m) hT htb ⟨tsF⟩ _ hFr (lF _ (List.mem_of_getElem? hFr)) c1 w.aA (by omega)
  rw[he] at e2;simp only[wo,Sy,hq,decide_true,if_true,aO,g1,Option.bind_some,ht,e1,e2,hTt];have key:∀r,zE (wo (rO n0) m) r ws ws (ws.length:Int) (i:Int) s ⟨ts0⟩ ⟨tsF⟩=rO n0 ws ⟨ts0⟩ ⟨tsF⟩:=fun r=>by
   unfold zE;rw[bA g3 (by omega)]
   exact ih
  rcases hop with ⟨h1,h2⟩|⟨r,h1,h2⟩
  ·have hcl:=cQ (Nb hok h2).1;have e5:eff T cJ w=some w.aV:=by simp only[Go.Proofs.YtmealahmjddpcaaGreatDoor.eff,h1]
   simp only[h1,e5,qg,h2,beq_self_eq_true,if_true,Bool.false_eq_true,if_false,Bool.not_true,qG m w.aV w.aV (by omega) (by omega),ga,Option.bind_some,bne_self_eq_false,key]
  ·have hrc:=cQ (a1 r (lL h1));rcases h2 with h2|h2
   ·have e5:eff T cJ w=some (dD r w.aq w.aV):=by simp only[Go.Proofs.YtmealahmjddpcaaGreatDoor.eff,h1,h2,if_true]
    obtain ⟨u1,u2,u3⟩:=Kl hs hTi hok h2;have ul:=yE r w.aq w.aV;have e6:((2:Int)==1)=false:=rfl;have e7:((2:Int)==3)=false:=rfl;have e8:(((dD r w.aq w.aV).length:Int) !=(r.length:Int))=false:=by rw[ul];simp
    have e9:((r.length:Int) !=(T.aq.length:Int))=false:=by rw[hrc];simp
    simp only[h1,e5,qg,h2,e6,e7,Bool.false_eq_true,if_false,Bool.not_true,e8,e9,dy ([]:List ae) r (by simp;omega),Option.bind_some,List.nil_append]
    have e10:=Oy (SA (zE (wo (rO n0) m) m) m) w (by omega) u2 ws ws (ws.length:Int) (i:Int) true ((dD r w.aq w.aV).length:Int) (r.length:Int) (r.length:Int) s.ah (t:Int) T T T.aq (T.aq.length:Int) s ⟨ts0⟩ ⟨tsF⟩ (dD r w.aq w.aV) r w.aq 0 m r rfl (by omega) (fun c hc=>by rw[hrc];exact u3 c hc)
    rw[show ((0:Nat):Int)=0 from rfl,List.drop_zero] at e10;rw[e10];simp only[SA,qG m (dD r w.aq w.aV) (dD r w.aq w.aV) (by omega) (by omega),ga,Option.bind_some,bne_self_eq_false,Bool.false_eq_true,if_false,key]
   ·have e5:eff T cJ w=none:=by
     simp only[Go.Proofs.YtmealahmjddpcaaGreatDoor.eff,h1];rw[if_neg (by omega)]
    have e6:((3:Int)==1)=false:=rfl;simp only[h1,e5,qg,h2,e6,beq_self_eq_true,if_true,Bool.false_eq_true,if_false,Bool.not_true,key]
 |_,_,0,_,hm=>by omega
theorem XL (n0:Nat) (r:List ae) (rows:List (List ae)) (hl:rows.length≤1000000) (hr:∀y∈rows,y.length≤100):∀(x:List (List ae)) (i m:Nat),rows.drop i=x→x.length+1000<m→r∈x→BN (S3 n0) m r rows (rows.length:Int) (i:Int)=some true
 | [],_,_,_,_,h=>by simp at h
 |y::x,i,m+1,hd,hm,h=>by
  obtain ⟨g1,g2,g3⟩:=ba hd;have hq:(i:Int)<(rows.length:Int):=by omega
  have hyl:=hr y (List.mem_of_getElem? g1);simp at hm;simp only[BN,S4,hq,decide_true,if_true,aO,g1,Option.bind_some,qG m y r (by omega) (by omega)]
  by_cases e:y=r
  ·subst e;simp only[ga,beq_self_eq_true,if_true]
  ·have e':(bT y r==0)=false:=by
    rw[beq_eq_false_iff_ne];exact fun h=>e (kF h)
   simp only[e',Bool.false_eq_true,if_false,bA g3 (by omega:rows.length<4294967296)]
   exact XL n0 r rows hl hr x (i+1) m g2 (by omega) ((List.mem_cons.1 h).resolve_left fun h=>e h.symm)
 |_,_,0,_,hm,_=>by omega
theorem ahi (hl:rows.length≤1000000) (hr:∀y∈rows,y.length≤100) (h:r∈rows) (hn:2000000<n):F23 n rows r=some true:=by
 unfold F23 S2;exact XL n r rows hl hr rows 0 n rfl (by omega) h
def names (T:au) (t:Nat) (r:List ae) (w:ar):Bool:=w.ax==(t:Int)&&bT w.aA (kOf T r)==0
theorem Ow (k:List ar→Int→List ae→Bool→gX→Int→Int→List (List ae)→Int→Int→aj→Option Bool) (ht:cE T) (hr:r.length=T.aq.length) (ws:List ar) (hws:ws.length≤1000) (hk:∀w∈ws,w.ax=(t:Int)→w.aA.length=T.aA.toNat) (a:gX) (b c:Int) (d:List (List ae)) (e f:Int) (z:aj):∀(x:List ar) (i m:Nat) (named:Bool),ws.drop i=x→x.length+1000<m→
  Ef k m ws (t:Int) r named a b c d e f ws (ws.length:Int) (i:Int) z=k ws (t:Int) r (named||x.any (names T t r)) a b c d e f z
 | [],i,m+1,named,hd,hm=>by
  have hq':ws.length≤i:=by simpa using hd
  have hq:¬((i:Int)<(ws.length:Int)):=by omega
  simp only[Ef,Sx,hq,decide_false,Bool.false_eq_true,if_false,List.any_nil,Bool.or_false]
 |w::x,i,m+1,named,hd,hm=>by
  obtain ⟨g1,g2,g3⟩:=ba hd;have hq:(i:Int)<(ws.length:Int):=by omega
  have h8:=ht.aG;have k1:=ht.ia;have k2:=ht.cL;simp at hm;have ih:=fun nm=>Ow k ht hr ws hws hk a b c d e f z x (i+1) m nm g2 (by omega)
  simp only[Ef,Sx,hq,decide_true,if_true,aO,g1,Option.bind_some,bA g3 (by omega:ws.length<4294967296),List.any_cons]
  cases named with
  |true=>simp only[if_true,ih,Bool.true_or]
  |false=>
   simp only[Bool.false_eq_true,if_false,Bool.false_or];by_cases h1:w.ax=(t:Int)
   ·have h2:=hk w (List.mem_of_getElem? g1) h1;have e1:cut r none (some ((w.aA.length:Nat):Int))=some (kOf T r):=by
     rw[Bo (by omega) (by omega),h2]
     rfl
    have e2:(w.ax==(t:Int))=true:=by rw[h1];simp
    simp only[e2,if_true,e1,Option.bind_some,qG m w.aA (kOf T r) (by omega) (by omega),ih,names,Bool.true_and]
   ·have e2:(w.ax==(t:Int))=false:=by simpa using h1
    simp only[e2,Bool.false_eq_true,if_false,ih,names,Bool.false_and,Bool.false_or]
 |_,_,0,_,_,hm=>by omega
theorem Ov (N:Nat) (hN:3000000≤N) (k:List ar→gX→Int→Int→aj→Option Bool) (ht:cE T) (ws:List ar) (hws:ws.length≤1000) (hk:∀w∈ws,w.ax=(t:Int)→w.aA.length=T.aA.toNat) (a:gX) (b c:Int) (rows dF:List (List ae)) (hF:tsF[t]? =some dF) (hl:rows.length≤1000) (hlF:dF.length≤1000) (hr:∀r∈rows,r.length=T.aq.length) (hrF:∀r∈dF,r.length=T.aq.length) (hu:∀r∈rows,ws.any (names T t r)=true∨r∈dF):∀(x:List (List ae)) (i m:Nat),rows.drop i=x→x.length+N<m→
  zB k m ws (t:Int) a b c rows (rows.length:Int) (i:Int) ⟨tsF⟩=k ws a b c ⟨tsF⟩
 | [],i,m+1,hd,hm=>by
  have hq':rows.length≤i:=by simpa using hd
  have hq:¬((i:Int)<(rows.length:Int)):=by omega
  simp only[zB,Sv,hq,decide_false,Bool.false_eq_true,if_false]
 |r::x,i,m+1,hd,hm=>by
  obtain ⟨g1,g2,g3⟩:=ba hd;have hq:(i:Int)<(rows.length:Int):=by omega
  have iS:=List.mem_of_getElem? g1;have h8:=ht.aG;simp at hm;have ih:=Ov N hN k ht ws hws hk a b c rows dF hF hl hlF hr hrF hu x (i+1) m g2 (by omega)
  simp only[zB,Sv,hq,decide_true,if_true,aO,g1,Option.bind_some];have e:=Ow (Sw (zB k m) m) ht (hr r iS) ws hws hk a b c rows (rows.length:Int) (i:Int) ⟨tsF⟩ ws 0 m false rfl (by omega)
  rw[show ((0:Nat):Int)=0 from rfl,Bool.false_or] at e;rw[e];unfold Sw;rw[bA g3 (by omega:rows.length<4294967296),ih]
  cases hn:ws.any (names T t r) with
  |true=>simp
  |false=>
   have hm':=(hu r iS).resolve_left (by rw[hn];simp)
   simp only[Bool.not_false,if_true,aO,hF,Option.bind_some,ahi (n:=m) (by omega:dF.length≤1000000) (fun y hy=>by rw[hrF y hy];omega) hm' (by omega),Bool.not_true,Bool.false_eq_true,if_false]
 |_,_,0,_,hm=>by omega
theorem Ou (hs:SOK s) (N:Nat) (hN:3001001≤N) (k:Option Bool) (h0:StB s ts0) (hF:StB s tsF) (l0:∀rows∈ts0,rows.length≤512) (lF:∀rows∈tsF,rows.length≤512) (ws:List ar) (hws:ws.length≤1000) (hk:∀w∈ws,∀(t:Nat) T,w.ax=(t:Int)→s.ah[t]? =some T→w.aA.length=T.aA.toNat) (hu:∀(t:Nat) T rows dF,s.ah[t]? =some T→ts0[t]? =some rows→tsF[t]? =some dF→∀r∈rows,ws.any (names T t r)=true∨r∈dF):∀(x:gX) (i m:Nat),ts0.drop i=x→x.length+N<m→
  zA k m ws ts0 (ts0.length:Int) (i:Int) ⟨tsF⟩=k
 | [],i,m+1,hd,hm=>by
  have hq':ts0.length≤i:=by simpa using hd
  have hq:¬((i:Int)<(ts0.length:Int)):=by omega
  simp only[zA,Ss,hq,decide_false,Bool.false_eq_true,if_false]
 |rows::x,i,m+1,hd,hm=>by
  obtain ⟨g1,g2,g3⟩:=ba hd;have hq:(i:Int)<(ts0.length:Int):=by omega
  have hi:i<s.ah.length:=by rw[←h0.len];exact g3
  have hT:s.ah[i]? =some s.ah[i]:=List.getElem?_eq_getElem hi;have hFr:tsF[i]? =some (tsF[i]'(by rw[hF.len];exact hi)):=List.getElem?_eq_getElem _
  have ht:=hs.tab (i:Int) _ (by rw[aO];exact hT)
  have hl8:=hs.len;have hlen:=h0.len;have r0:=l0 _ (List.mem_of_getElem? g1);have rF:=lF _ (List.mem_of_getElem? hFr);simp at hm;have ih:=Ou hs N hN k h0 hF l0 lF ws hws hk hu x (i+1) m g2 (by omega)
  simp only[zA,Ss,hq,decide_true,if_true,aO,g1,Option.bind_some];have e:=Ov (tsF:=tsF) 3000000 (Nat.le_refl _) (Su (zA k m) m) ht ws hws (fun w hw e=>hk w hw i _ e hT) ts0 (ts0.length:Int) (i:Int) rows _ hFr (by omega) (by omega) (fun r hr=>cQ ((h0.row i _ _ hT g1).1 r hr)) (fun r hr=>cQ ((hF.row i _ _ hT hFr).1 r hr)) (hu i _ _ _ hT g1 hFr) rows 0 m rfl (by omega)
  rw[show ((0:Nat):Int)=0 from rfl] at e;rw[e];unfold Su;rw[bA g3 (by omega)]
  exact ih
 |_,_,0,_,hm=>by omega
end
theorem Hw:∀{ts:gX} {m:Nat},(∀rows∈ts,rows.length≤m)→total ts≤m*ts.length
 | [],_,_=>by simp[total]
 |y::ts,m,h=>by
  have h1:=Hw (ts:=ts) (m:=m) fun r hr=>h r (by simp[hr])
  have h2:=h y (by simp)
  simp only[total,List.length_cons,Nat.mul_add];omega
theorem RM (s:ag) (ts:gX) (c:aw):total (im s ts c)≤total ts+1:=by
 unfold im;split
 ·rename_i T rows hT hr;obtain ⟨_,_,h3⟩:=nT hr;have h1:=uV (rows':=jg T (dW T c) (gP c) rows) h3;have h2:=Jd (T:=T) (dW T c) (gP c) rows;have h4:=JF c;omega
 ·omega
theorem BD (s:ag):∀(cs:List aw) (ts:gX),total (cs.foldl (im s) ts)≤total ts+cs.length
 | [],ts=>by simp
 |c::cs,ts=>by
  have h1:=RM s ts c;have h2:=BD s cs (im s ts c);simp only[List.foldl_cons,List.length_cons];omega
theorem ael (aQ:List Int) (hb:∀x∈aQ,0≤x∧x≤255):F5 4000000 aQ=some true:=by
 unfold F5 Sz;obtain ⟨c,hc,c1⟩:=akS 4000000 aQ 400 hb (by omega) (by omega)
 rw[hc,Option.bind_some];obtain ⟨sc,hsc,s1,s2⟩:=akR 4000000 (by omega) (by omega) c c1
 have hs:=s2.ok;rw[hsc,Option.bind_some];obtain ⟨⟨⟨ts0⟩,cst⟩,hst,st1,st2⟩:=ahm 4000000 (by omega) sc.1 hs sc.2 s1
 rw[hst,Option.bind_some];simp only at st1 st2 ⊢;have hw:=ahn 4000000 (by omega) sc.1 hs s2.pos cst st1 ⟨ts0⟩ st2 5 (by omega)
 rw[show ((5:Nat):Int)=5 from rfl] at hw;obtain ⟨⟨ws,cw⟩,hws,w1,w2,w3⟩:=hw;rw[hws,Option.bind_some];simp only at w1 w2 w3 ⊢;have hl8:=hs.len;have h0:StB sc.1 ts0:=⟨st2.len,fun t T rows hT hr=>⟨(st2.row t T rows hT hr).2,st2.ord t T rows hT hr⟩⟩
 have l0:∀rows∈ts0,rows.length≤8:=fun rows hr=>by
  obtain ⟨i,hi,rfl⟩:=List.mem_iff_getElem.1 hr;have hi':i<sc.1.ah.length:=by rw[←st2.len];exact hi
  exact (st2.row i _ _ (List.getElem?_eq_getElem hi') (List.getElem?_eq_getElem hi)).1
 have Kb:=Hw l0;have hlen:=st2.len;have htot':total ts0≤64:=by
  have:8*ts0.length≤8*8:=Nat.mul_le_mul_left _ (by omega)
  omega
 have he:F38 4000000 sc.1=some 0:=by
  have:=ahd 4000000 sc.1 s2.sz (by omega) (by omega)
  rwa[s2.chk] at this
 have hg:=uS w2;have hwB:∀w∈ws,wB w:=fun w hw=>(Zq hs (hg w hw)).wB (by omega)
 have hch:F16 4000000 sc.1 ⟨ts0⟩ ws=some (iB sc.1 ts0 ws []):=by
  rw[ahk 4000000 sc.1 0 he (fun _=>hs) ws hwB ⟨ts0⟩ (by simp only;omega) (by omega)]
  have htc:rQ sc.1 0 ws=0:=by unfold rQ;rw[if_pos rfl,if_neg (by omega),w2]
  unfold Z0;rw[if_pos htc,if_pos (h0.chk (by omega))]
 rw[hch,Option.bind_some];rcases Oq st2.len ws [] hg with ⟨ha,he1⟩|⟨rf,hr1,he1⟩
 ·obtain ⟨p1,_⟩:=zK w2;obtain ⟨i1,i2,i3,i4⟩:=writes hs ws ts0 h0 p1 ha fun w _ t T cJ rows _ _ h1 h2=>by rw[h1] at h2;cases h2;rfl
  rw[he1,List.nil_append];have hcl:(ws.filterMap (eJ sc.1 ts0)).length≤ws.length:=List.length_filterMap_le _ _;have hfl:=BD sc.1 (ws.filterMap (eJ sc.1 ts0)) ts0;rw[show (((ws.filterMap (eJ sc.1 ts0),tF,0):List aw×aM×Int).2.2 !=0)=false from rfl];simp only[Bool.false_eq_true,if_false,ahj (n:=4000000) hs he h0 i1 (by omega) (by omega),Option.bind_some,bne_self_eq_false]
  generalize (ws.filterMap (eJ sc.1 ts0)).foldl (im sc.1) ts0=tsF at i2 i3 i4 hfl;have hln:((tsF.length:Int) !=(ts0.length:Int))=false:=by rw[i2.len,st2.len];simp
  have lF:∀rows∈tsF,rows.length≤512:=fun rows hr=>by have:=nK hr;omega
  have l0':∀rows∈ts0,rows.length≤512:=fun rows hr=>by have:=l0 rows hr;omega
  have e3:=Ox hs 4000000 10000 (Nat.le_refl _) h0 i2 l0' lF ws (by omega) (fun w hw=>⟨ha w hw,i3 w hw⟩) ws 0 4000000 rfl (by omega)
  rw[show ((0:Nat):Int)=0 from rfl] at e3;simp only[hln,Bool.false_eq_true,if_false,e3];unfold rO;have e4:=Ou (tsF:=tsF) hs 3001001 (Nat.le_refl _) (aai 4000000) h0 i2 l0' lF ws (by omega) (fun w hw t T ht hT=>by
   obtain ⟨t',T',rows',ht',hT',_,hok,_⟩:=ha w hw;have:t=t':=by omega
   subst this;rw[hT] at hT';cases hT';simp only[wOK,Bool.and_eq_true] at hok;rw[dK hok.1,y6 (hs.tab (t:Int) T (by rw[aO];exact hT))]) (fun t T rows dF hT hr hF r hrm=>by
   by_cases hn:ws.any (names T t r)=true
   ·exact .inl hn
   ·right;have hO:=(h0.row t T rows hT hr).2;have hOF:=(i2.row t T dF hT hF).2;have:=i4 t T rows dF (kOf T r) hT hr hF (fun w hw ht hk=>hn (List.any_eq_true.2 ⟨w,hw,by
     simp only[names,ht,hk,ga,beq_self_eq_true,Bool.and_self]⟩))
    rw[(rq hO).2 ⟨hrm,rfl⟩] at this;exact ((rq hOF).1 this).1) ts0 0 4000000 rfl (by omega)
  rw[show ((0:Nat):Int)=0 from rfl] at e4;exact e4.trans rfl
 ·rw[he1];have hr1':(rf.dI !=0)=true:=by simpa using hr1
  simp only[bne_self_eq_false,Bool.false_eq_true,if_false,hr1',if_true,List.length_nil,F15,Option.bind_some];rfl
theorem Zc {k:IntKind} {n:Int} (h:Ba (.int k n)):k.min≤n∧n≤k.max:=by
 simpa[Ba,Lit.wf] using h
theorem vR:∀{rows:List (List AV)},qn rows→∀r∈rows,mo r
 | [],_,_,h=>by simp at h
 |r::rs,h,x,hx=>by
  rcases List.mem_cons.1 hx with rfl|hx
  ·exact h.1
  ·exact vR h.2 x hx
theorem Ru {aQ:List Int} (h:Ba (.slx 5 1 (nr aQ))):∀x∈aQ,0≤x∧x≤255:=by
 intro x hx;have h1:=vR (show qn (nr aQ) from h) (KF x) (List.mem_map.2 ⟨x,hx,rfl⟩);have h2:=Zc (show Ba (.int .u8 x) from h1.1);simpa[IntKind.min,IntKind.max,IntKind.signed,IntKind.bits] using h2
theorem vo (y0:List Int) (h0:mo [.slx 5 1 (nr y0)]) (hb:fI [.slx 5 1 (nr y0)]≤1048576):∃n,F5 n y0=some true:=⟨4000000,ael y0 (Ru h0.1)⟩
end
end Go.Proofs.YtmealahmjddpcaaGreatDoor
end
