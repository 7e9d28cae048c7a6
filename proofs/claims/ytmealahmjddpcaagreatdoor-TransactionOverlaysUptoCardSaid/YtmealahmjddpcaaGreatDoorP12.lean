/- Texts that belong together. The first: Plain laws: the made writes are valid. Condition: enough steps. -/
import Derived.Test.YtmealahmjddpcaaGreatDoorP11
set_option linter.all false
set_option maxRecDepth 100000
noncomputable section
namespace Go.Proofs.YtmealahmjddpcaaGreatDoor
open Go.Sim
theorem EV:∀{ks:Wq0} {r:Wq2} (j:Nat),bf ks r=true->bf (ks.take j) (r.take j)=true
 |_,_,0,_=>by simp[bf]
 | [],[],j+1,_=>rfl
 |k::ks,v::r,j+1,h=>by
  simp only[bf,Bool.and_eq_true] at h;simp only[List.take_succ_cons,bf,Bool.and_eq_true];exact ⟨h.1,EV j h.2⟩
 | [],_::_,_+1,h=>by simp[bf] at h
 |_::_,[],_+1,h=>by simp[bf] at h
theorem J0:∀{ks:Wq0} {r:Wq2} {i:Nat} {v:aI},bf ks r=true->r[i]? =some v->∃k,ks[i]? =some k/\v.aw=k/\fD v=true
 |k::ks,w::r,0,v,h,hv=>by
  simp only[bf,Bool.and_eq_true,beq_iff_eq] at h;simp at hv;subst hv;exact ⟨k,rfl,h.1.2,h.1.1⟩
 |k::ks,w::r,i+1,v,h,hv=>by
  simp only[bf,Bool.and_eq_true] at h;simpa using J0 h.2 (by simpa using hv)
 | [],[],_,_,_,hv=>by simp at hv
 | [],_::_,_,_,h,_=>by simp[bf] at h
 |_::_,[],_,_,_,hv=>by simp at hv
def Bu:Int->Wq0->Int
 |l,[]=>l
 |_,c::cs=>Bu c cs
theorem Bt:∀(l:Int) (cs:Wq0) (c:Int),Bu l (cs++ [c])=c
 |_,[],_=>rfl
 |_,d::cs,c=>Bt d cs c
theorem B3 (ks:Wq0):∀{last:Int} {cs l:Wq0} {c k:Int},cS ks last cs=some l->Bu last cs<c->0<=c->ks[c.toNat]? =some k->cS ks last (cs++ [c])=some (l++ [k])
 |last,[],l,c,k,h,h1,h2,hk=>by
  simp[cS] at h;subst h;have hlt:=(List.getElem?_eq_some_iff.1 hk).1;have:last<c/\c<(ks.length:Int):=⟨h1,by omega⟩
  simp[cS,this,hk]
 |last,d::cs,l,c,k,h,h1,h2,hk=>by
  simp only[cS] at h;split at h
  ·rename_i hd;cases h3:cS ks d cs with
   |none=>rw[h3] at h;cases h
   |some l'=>
    rw[h3] at h;simp at h;subst h;have:=B3 ks h3 h1 h2 hk;simp only[List.cons_append,cS,hd,and_self,if_true,this];simp
  ·cases h
def my (s:ag) (w:aA):Prop:=∃T,idx s.ae w.au=some T/\¬(w.fOp<1\/3<w.fOp)/\wOK T w=true
theorem kr {s:ag} {prev:Option aA} {w:aA} {ws:Wq3}:eH s prev (w::ws)=0↔my s w/\nv prev w=false/\eH s (some w) ws=0:=by
 constructor
 ·intro h;simp only[eH] at h;cases hT:idx s.ae w.au with
  |none=>simp[hT] at h
  |some T=>
   simp only[hT] at h;split at h
   ·cases h
   ·rename_i h1;split at h
    ·cases h
    ·rename_i h2;split at h
     ·cases h
     ·rename_i h3;exact ⟨⟨T,hT,h1,by simpa using h2⟩,by simpa using h3,h⟩
 ·rintro ⟨⟨T,hT,h1,h2⟩,h3,h4⟩;simp only[eH,hT,h1,h2,h3,h4,if_false,Bool.not_true,Bool.false_eq_true]
def Br:Option aA->Wq3->Option aA
 |p,[]=>p
 |_,x::a=>Br (some x) a
theorem EK {s:ag} {w:aA} {b:Wq3} (hw:my s w) (hb:∀y,b.head? =some y->nv (some w) y=false):∀{a:Wq3} {prev:Option aA},eH s prev (a++b)=0->nv (Br prev a) w=false->eH s prev (a++w::b)=0
 | [],prev,h,hl=>by
  rw[List.nil_append,kr];refine ⟨hw,hl,?_⟩;cases b with
  |nil=>rfl
  |cons y b=>
   obtain ⟨h1,_,h3⟩:=kr.1 h;exact kr.2 ⟨h1,hb y rfl,h3⟩
 |x::a,prev,h,hl=>by
  obtain ⟨h1,h2,h3⟩:=kr.1 h;exact kr.2 ⟨h1,h2,EK hw hb h3 hl⟩
theorem vt {s:ag}:∀{ws:Wq3} {prev:Option aA},eH s prev ws=0->∀w∈ws,my s w
 | [],_,_,w,hw=>by cases hw
 |x::ws,prev,h,w,hw=>by
  obtain ⟨h1,_,h3⟩:=kr.1 h;rcases List.mem_cons.1 hw with rfl|hw
  ·exact h1
  ·exact vt h3 w hw
theorem E6:∀{a:Wq3} {p:Option aA},Br p a=if a= [] then p else a[a.length-1]?
 | [],p=>rfl
 | [x],p=>by simp[Br]
 |x::y::a,p=>by
  have:=E6 (a:=y::a) (p:=some x);simp only[Br] at this ⊢;simpa using this
theorem z7 {s:ag} (hs:SOK s) {w:aA} (h:my s w):w.aq.length<=8:=by
 obtain ⟨T,hT,_,h2⟩:=h;have ht:=hs.tab _ _ hT;have:=ht.aB;have:=ht.bO;have:=zW ht;simp only[wOK,Bool.and_eq_true] at h2;have:=fK h2.1;omega
theorem wq {s:ag} (hs:SOK s) {w:aA} (h:my s w):w.ah.length<=100:=by
 obtain ⟨T,hT,h1,h2⟩:=h;have ht:=hs.tab _ _ hT;have hc:=ht.aB;have k1:=ht.hZ;simp only[wOK,gm,Bool.and_eq_true] at h2;have h2:=h2.2;split at h2
 ·simp at h2;simp[h2.1]
 ·split at h2
  ·cases hcl:cS (aS T) (T.aq-1) w.ah with
   |none=>rw[hcl] at h2;cases h2
   |some l=>
    have hb:∀{cs:Wq0} {last:Int} {l:Wq0}, -1<=last->cS (aS T) last cs=some l->(cs.length:Int)+last<=8\/cs= []:=by
     intro cs;induction cs with
     |nil=>intro last l _ _;exact .inr rfl
     |cons c cs ih=>
      intro last l hl h;simp only[cS] at h;split at h
      ·rename_i hd;cases h3:cS (aS T) c cs with
       |none=>rw[h3] at h;cases h
       |some l'=>
        have hkl:=bW T;rcases ih (by omega) h3 with h4|rfl
        ·left;simp;omega
        ·left;simp;omega
      ·cases h
    rcases hb (by omega) hcl with h|h
    ·omega
    ·simp[h]
  ·simp at h2;simp[h2.1]
theorem XF (n0:Nat) (s:ag) (t:Nat) (T:av) (hT:s.ae[t]? =some T) (ht:cn T) (key:Wq2) (rows:Wq8) (hl:rows.length<=100) (hr:∀r∈rows,r.length=T.ah.length):∀(x:Wq8) (i m:Nat),rows.drop i=x->x.length+100<m->
  Ok (pt (yX n0) m (t:Int) key rows (rows.length:Int) (i:Int) s) fun r=>r= -1\/(0<=r/\r<(rows.length:Int))
 | [],i,m+1,hd,hm=>by
  have:rows.length<=i:=by simpa using hd
  have hq:¬((i:Int)<(rows.length:Int)):=by omega
  simp only[pt,yY,yX,hq,decide_false,Bool.false_eq_true,if_false];exact Ok.pure (.inl rfl)
 |r::x,i,m+1,hd,hm=>by
  obtain ⟨g1,g2,g3⟩:=aK hd;have hq:(i:Int)<(rows.length:Int):=by omega
  have hTi:idx s.ae (t:Int)=some T:=by rw[aJ];exact hT
  have hc:=ht.aB;have hk2:=ht.bO;simp at hm;simp only[pt,yY,hq,decide_true,if_true,aJ,g1,Option.bind_some,oh (n:=m) hTi ht r (hr r (List.mem_of_getElem? g1)),qN m (r.take T.aq.toNat) key (by simp;omega) (by simp;omega),aY g3 (by omega)]
  refine Ok.ite (fun _=>Ok.pure (.inr ⟨by omega,hq⟩)) fun _=> ?_
  exact XF n0 s t T hT ht key rows hl hr x (i+1) m g2 (by omega)
 |_,_,0,_,hm=>by simp at hm
theorem ahT (n:Nat) (hn:1000<n) (s:ag) (t:Nat) (T:av) (hT:s.ae[t]? =some T) (ht:cn T) (key:Wq2) (st:ai) (rows:Wq8) (dH:st.ae[t]? =some rows) (hl:rows.length<=100) (hr:∀r∈rows,r.length=T.ah.length):Ok (F35 n s st (t:Int) key) fun _=>True:=by
 have h1:t<s.ae.length:=(List.getElem?_eq_some_iff.1 hT).1;have h2:t<st.ae.length:=(List.getElem?_eq_some_iff.1 dH).1;have e1:¬(t:Int)<0:=by omega
 have e2:(t:Int)<(s.ae.length:Int):=by omega
 have e3:(t:Int)<(st.ae.length:Int):=by omega
 have hc:=ht.aB;unfold F35 HS F75 G4;simp only[e1,e2,e3,decide_false,decide_true,Bool.not_true,Bool.false_eq_true,if_false,aJ,dH,Option.bind_some];refine Ok.bind (XF n s t T hT ht key rows hl hr rows 0 n rfl (by omega)) fun q hq=> ?_
 refine Ok.ite (fun _=>Ok.pure trivial) fun hq'=> ?_
 simp at hq';have hq:0<=q/\q<(rows.length:Int):=hq.resolve_left (by omega)
 have hg:idx rows q=some (rows[q.toNat]'(by omega)):=by unfold idx;rw[if_pos hq.1];exact List.getElem?_eq_getElem _
 rw[hg,Option.bind_some,qM _ (by rw[hr _ (List.getElem_mem _)];omega)]
 exact Ok.pure trivial
abbrev KW:=Int->ak->ag->ai->Wq3->Option (Wq3×ak)
structure Few (w:aA) (N:Nat):Prop where
 key:w.aq.length<=N
 col:w.ah.length<=N
 cel:w.aF.length<=N
theorem Few.wB {w:aA} {N:Nat} (h:Few w N) (hN:N<=1000):wB w:=⟨by have:=h.col;omega,by have:=h.key;omega⟩
theorem Zx {s:ag} (hs:SOK s) {w:aA} (h:my s w):Few w 100:=by
 refine ⟨by have:=z7 hs h;omega,wq hs h,?_⟩
 have hcols:=wq hs h;obtain ⟨T,hT,h1,h2⟩:=h;have ht:=hs.tab _ _ hT;have hc:=ht.aB;have k1:=ht.hZ;have hkl:=bW T;simp only[wOK,gm,Bool.and_eq_true] at h2;have h2:=h2.2;split at h2
 ·simp at h2;have:=fK h2.2.1;omega
 ·split at h2
  ·cases hcl:cS (aS T) (T.aq-1) w.ah with
   |none=>rw[hcl] at h2;cases h2
   |some l=>
    rw[hcl] at h2;have:=fK h2;have:=(mD ht.ks (by omega) hcl).1
    omega
  ·simp at h2;simp[h2.2]
theorem Du {l:Wq3} {i:Nat} {w y:aA} (h:y∈l.set i w):y∈l\/y=w:=by
 rcases List.mem_or_eq_of_mem_set h with h|h
 ·exact .inl h
 ·exact .inr h
theorem ahZ (n:Nat) (hn:1000<=n) (c:ak) (hc:aT c) (l:Wq3) (hl:l.length<=100) (hf:∀w∈l,Few w 100):Ok (F13 n c l) fun r=>aT r.2/\∀w∈r.1,Few w 101:=by
 have up:∀w∈l,Few w 101:=fun w hw=>by have:=hf w hw;exact ⟨by have:=this.key;omega,by have:=this.col;omega,by have:=this.cel;omega⟩
 unfold F13 TO;rw[cB _ _ (by simp;omega),Option.bind_some,List.nil_append]
 refine Ok.ite (fun h0=> ?_) fun h0=> ?_
 ·refine Ok.bind (dw n c 5 hc) fun a ⟨ha,_⟩=>Ok.bind (dw n a.2 4 ha) fun b ⟨hb,_⟩=>Ok.pure ⟨hb,fun w hw=> ?_⟩
  simp at hw;subst hw;exact ⟨by simp,by simp,by simp⟩
 ·have sd:0<l.length:=by
   rcases Nat.eq_zero_or_pos l.length with h|h
   ·rw[h] at h0;cases h0
   ·exact h
  refine Ok.bind (dw n c _ hc) fun i ⟨hi,i0,i1,_⟩=> ?_
  have i1:=i1 (by omega)
  have e1:bnd l.length i.1=some i.1.toNat:=by unfold bnd;rw[if_pos (by omega)]
  have hlt:i.1.toNat<l.length:=by omega
  have e2:l[0+i.1.toNat]? =some l[i.1.toNat]:=by rw[Nat.zero_add];exact List.getElem?_eq_getElem hlt
  have hw:=hf _ (List.getElem_mem hlt);generalize l[i.1.toNat]=w at e2 hw;have e3:∀w',setAt l (0+i.1.toNat) w'=some (l.set i.1.toNat w'):=fun w'=>by rw[Nat.zero_add];unfold setAt;rw[if_pos hlt]
  have kN:∀w',Few w' 101->∀y∈l.set i.1.toNat w',Few y 101:=fun w' h y hy=>by
   rcases Du hy with h'|h'
   ·exact up y h'
   ·rw[h'];exact h
  have b0:bnd l.length 0=some 0:=by unfold bnd;rw[if_pos (by omega)];rfl
  have g0:l[0+0]? =some l[0]:=List.getElem?_eq_getElem sd;have hw0:=List.getElem_mem sd;generalize l[0]=w0 at g0 hw0;have hk:=hw.key;have hcl:=hw.col;have hce:=hw.cel;rw[e1,Option.bind_some];refine Ok.bind (dw n i.2 8 hi) fun q ⟨hq,q0,q1,_⟩=> ?_
  simp only[e2,e3,Option.bind_some,b0,g0];refine Ok.ite (fun _=>Ok.bind (dw n q.2 5 hq) fun a ⟨ha,_⟩=>Ok.pure ⟨ha,kN _ ⟨by simp only;omega,by simp only;omega,by simp only;omega⟩⟩) fun _=> ?_
  refine Ok.ite (fun _=>Ok.bind (dw n q.2 7 hq) fun a ⟨ha,_⟩=>Ok.pure ⟨ha,kN _ ⟨by simp only;omega,by simp only;omega,by simp only;omega⟩⟩) fun _=> ?_
  refine Ok.ite (fun _=> ?_) fun _=> ?_
  ·rw[cB _ _ (by simp;omega),Option.bind_some,List.nil_append]
   refine Ok.bind (MY n (by omega) q.2 hq) fun a ⟨ha,_⟩=> ?_
   rw[cB _ _ (by simp;omega),Option.bind_some]
   exact Ok.pure ⟨ha,kN _ ⟨by simp;omega,by simp only;omega,by simp only;omega⟩⟩
  refine Ok.ite (fun _=> ?_) fun _=> ?_
  ·rw[cB _ _ (by simp;omega),Option.bind_some,List.nil_append]
   refine Ok.bind (MY n (by omega) q.2 hq) fun a ⟨ha,_⟩=> ?_
   rw[cB _ _ (by simp;omega),Option.bind_some]
   exact Ok.pure ⟨ha,kN _ ⟨by simp only;omega,by simp only;omega,by simp;omega⟩⟩
  refine Ok.ite (fun _=> ?_) fun _=> ?_
  ·rw[cB _ _ (by simp;omega),Option.bind_some,List.nil_append]
   refine Ok.bind (dw n q.2 5 hq) fun a ⟨ha,_⟩=> ?_
   rw[cB _ _ (by simp;omega),Option.bind_some]
   exact Ok.pure ⟨ha,kN _ ⟨by simp only;omega,by simp;omega,by simp only;omega⟩⟩
  refine Ok.ite (fun _=> ?_) fun _=> ?_
  ·rw[cB _ _ (by simp;omega),Option.bind_some]
   refine Ok.pure ⟨hq,fun y hy=> ?_⟩
   rcases List.mem_append.1 hy with h|h
   ·exact up y h
   ·simp at h;subst h;exact up _ hw0
  refine Ok.ite (fun _=> ?_) fun _=> ?_
  ·have hw1:w64 ((l.length:Int)-1)=((l.length-1:Nat):Int):=by rw[bI (by omega) (by omega)];omega
   have b1:bnd l.length ((l.length-1:Nat):Int)=some (l.length-1):=by unfold bnd;rw[if_pos (by omega)];simp
   have g1:l[0+(l.length-1)]? =some (l[l.length-1]'(by omega)):=by rw[Nat.zero_add];exact List.getElem?_eq_getElem _
   have hm1:=List.getElem_mem (by omega:l.length-1<l.length)
   generalize l[l.length-1]=w1 at g1 hm1;have s0:setAt l (0+0) w1=some (l.set 0 w1):=by unfold setAt;rw[if_pos (by omega)]
   have g2:(l.set 0 w1)[0+(l.length-1)]? =some ((l.set 0 w1)[l.length-1]'(by simp;omega)):=by rw[Nat.zero_add];exact List.getElem?_eq_getElem _
   have s1:setAt (l.set 0 w1) (0+(l.length-1)) w0=some ((l.set 0 w1).set (l.length-1) w0):=by rw[Nat.zero_add];unfold setAt;rw[if_pos (by simp;omega)]
   simp only[hw1,b1,g1,Option.bind_some,s0,g2,s1];refine Ok.pure ⟨hq,fun y hy=> ?_⟩
   rcases Du hy with h|h
   ·rcases Du h with h|h
    ·exact up y h
    ·rw[h];exact up _ hm1
   ·rw[h];exact up _ hw0
  ·refine Ok.ite (fun h5=> ?_) fun _=>Ok.pure ⟨hq,up⟩
   simp at h5;rw[cB _ _ (by simp;omega),Option.bind_some,List.nil_append]
   refine Ok.bind (dw n q.2 _ hq) fun j ⟨hj,j0,j1,_⟩=> ?_
   have j1:=j1 (by omega)
   refine Ok.bind (MY n (by omega) j.2 hj) fun a ⟨ha,_⟩=> ?_
   have b1:bnd w.aF.length j.1=some j.1.toNat:=by unfold bnd;rw[if_pos (by omega)]
   have g1:w.aF[0+j.1.toNat]? =some (w.aF[j.1.toNat]'(by omega)):=by rw[Nat.zero_add];exact List.getElem?_eq_getElem _
   have s1:setAt w.aF (0+j.1.toNat) a.1=some (w.aF.set j.1.toNat a.1):=by rw[Nat.zero_add];unfold setAt;rw[if_pos (by omega)]
   simp only[b1,g1,s1,Option.bind_some];exact Ok.pure ⟨ha,kN _ ⟨by simp only;omega,by simp only;omega,by simp;omega⟩⟩
section
theorem vL {T:av} {r:Wq2} (h:bf (aS T) r=true):r.length=T.ah.length:=by rw[fK h,bW]
def behind (T:av):Option Wq2->Wq2->Bool
 |none,_=>true
 |some q,r=>decide (bZ (q.take T.aq.toNat) (r.take T.aq.toNat)<0)
def total:Wq9->Nat
 | []=>0
 |rs::rss=>rs.length+total rss
variable {s:ag} {t n:Nat} {T:av}
theorem XV (hT:idx s.ae t=some T) (ht:cn T) (r:Wq2) (hr:r.length=T.ah.length):F71 n s t r=some (r.take T.aq.toNat):=by
 obtain ⟨h0,h1,_⟩:=nY hT;have:=ht.aB;have k1:=ht.hZ;have k2:=ht.bO;have e1:¬(t:Int)<0:=by omega
 have e2:(t:Int)<(s.ae.length:Int):=by omega
 have e3:¬(r.length:Int)<T.aq:=by omega
 have e4:0<T.aq:=by omega
 simp only[F71,S9,e1,e2,decide_false,decide_true,Bool.not_true,Bool.false_eq_true,if_false,hT,Option.bind_some,e3,e4,if_true];rw[tg (by omega) (by omega),Option.bind_some]
theorem jZ {x:Wq9} {rs:Wq8} (h:rs∈x):rs.length<=total x:=by
 induction x with
 |nil=>simp at h
 |cons y x ih=>
  simp only[total];rcases List.mem_cons.1 h with rfl|h
  ·omega
  ·have:=ih h;omega
theorem MF (k:Int->Option Int) (ts:Wq9) (hl:ts.length+total ts<=2000000):∀(x:Wq9) (i m a:Nat),ts.drop i=x->x.length<m->a+total x<=2000000->yv k m (a:Int) ts (ts.length:Int) (i:Int)=k ((a+total x:Nat):Int)
 | [],i,m+1,a,hd,hm,ha=>by
  have hq':ts.length<=i:=by simpa using hd
  have hq:¬((i:Int)<(ts.length:Int)):=by omega
  simp only[yv,Hl,hq,decide_false,Bool.false_eq_true,if_false,total,Nat.add_zero]
 |rs::x,i,m+1,a,hd,hm,ha=>by
  obtain ⟨g1,g2,g3⟩:=aK hd;have hq:(i:Int)<(ts.length:Int):=by omega
  simp at hm;simp only[total] at ha;have hw:w64 ((a:Int)+(rs.length:Int))=((a+rs.length:Nat):Int):=by rw[bI (by omega) (by omega)];omega
  simp only[yv,Hl,hq,decide_true,if_true,aJ,g1,Option.bind_some,aY g3 (by omega:ts.length<4294967296),hw]
  rw[MF k ts hl x (i+1) m (a+rs.length) g2 (by omega) (by omega)]
  simp only[total,Nat.add_assoc]
 |_,_,0,_,_,hm,_=>by simp at hm
end
section
def dy (T:av) (key:Wq2) (rows:Wq8):Option Wq2:=rows.find? fun r=>bZ (r.take T.aq.toNat) key==0
def Eb:Option Wq2->Wq2×Bool
 |some r=>(r,true)
 |none=>([],false)
variable {s:ag} {t n:Nat} {T:av}
theorem MX (n:Nat) (r:Wq2) (h:r.length<=1000000):F62 n r=some r:=by
 unfold F62 Tk;rw[cB _ _ (by simpa using h)];rfl
theorem kf {key:Wq2} {rows:Wq8} {r:Wq2} (h:dy T key rows=some r):r∈rows:=List.mem_of_find?_eq_some h
def dg:Wq2->Wq0->Wq2->Wq2
 |r,c::cs,v::vs=>dg (r.set c.toNat v) cs vs
 |r,_,_=>r
theorem Ip:∀(r:Wq2) (cs:Wq0) (vs:Wq2),(dg r cs vs).length=r.length
 |r,[],vs=>by simp[dg]
 |r,c::cs,[]=>by simp[dg]
 |r,c::cs,v::vs=>by simp only[dg];rw[Ip];simp
theorem XI (n0:Nat) (w:aA) (hl:w.ah.length<4294967296) (hc:w.aF.length=w.ah.length):∀(x:Wq0) (i m:Nat) (b:Wq2),w.ah.drop i=x->x.length<m->(∀c∈x,0<=c/\c.toNat<b.length)->
  yr (Hg n0) m w.ah (w.ah.length:Int) (i:Int) w b=some (dg b x (w.aF.drop i))
 | [],i,m+1,b,hd,hm,_=>by
  have hq':w.ah.length<=i:=by simpa using hd
  have hq:¬((i:Int)<(w.ah.length:Int)):=by omega
  simp only[yr,Hh,Hg,hq,decide_false,Bool.false_eq_true,if_false,dg]
 |c::x,i,m+1,b,hd,hm,hb=>by
  obtain ⟨g1,g2,g3⟩:=aK hd;have hq:(i:Int)<(w.ah.length:Int):=by omega
  have hi:i<w.aF.length:=by omega
  have hv:w.aF[i]? =some w.aF[i]:=List.getElem?_eq_getElem _;obtain ⟨c1,c2⟩:=hb c (by simp)
  have b1:bnd b.length c=some c.toNat:=by unfold bnd;rw[if_pos ⟨c1,c2⟩]
  have b2:b[0+c.toNat]? =some (b[c.toNat]):=by rw[Nat.zero_add];exact List.getElem?_eq_getElem _
  have b3:setAt b (0+c.toNat) w.aF[i]=some (b.set c.toNat w.aF[i]):=by rw[Nat.zero_add];unfold setAt;rw[if_pos c2]
  simp at hm;simp only[yr,Hh,hq,decide_true,if_true,aJ,g1,hv,Option.bind_some,b1,b2,b3,aY g3 hl];rw[XI n0 w hl hc x (i+1) m _ g2 (by omega) (fun d hd=>by rw[List.length_set];exact hb d (List.mem_cons_of_mem _ hd)),List.drop_eq_getElem_cons hi]
  simp only[dg]
 |_,_,0,_,_,hm,_=>by simp at hm
theorem XJ (n0:Nat) (w:aA) (hl:w.ah.length<4294967296) (hc:w.aF.length=w.ah.length):∀(x:Wq0) (i m:Nat) (b:Wq2),w.ah.drop i=x->x.length<m->(∀c∈x,0<=c/\c.toNat<b.length)->
  yw (Hm n0) m w.ah (w.ah.length:Int) (i:Int) w b=some (dg b x (w.aF.drop i))
 | [],i,m+1,b,hd,hm,_=>by
  have hq':w.ah.length<=i:=by simpa using hd
  have hq:¬((i:Int)<(w.ah.length:Int)):=by omega
  simp only[yw,Hn,Hm,hq,decide_false,Bool.false_eq_true,if_false,dg]
 |c::x,i,m+1,b,hd,hm,hb=>by
  obtain ⟨g1,g2,g3⟩:=aK hd;have hq:(i:Int)<(w.ah.length:Int):=by omega
  have hi:i<w.aF.length:=by omega
  have hv:w.aF[i]? =some w.aF[i]:=List.getElem?_eq_getElem _;obtain ⟨c1,c2⟩:=hb c (by simp)
  have b1:bnd b.length c=some c.toNat:=by unfold bnd;rw[if_pos ⟨c1,c2⟩]
  have b2:b[0+c.toNat]? =some (b[c.toNat]):=by rw[Nat.zero_add];exact List.getElem?_eq_getElem _
  have b3:setAt b (0+c.toNat) w.aF[i]=some (b.set c.toNat w.aF[i]):=by rw[Nat.zero_add];unfold setAt;rw[if_pos c2]
  simp at hm;simp only[yw,Hn,hq,decide_true,if_true,aJ,g1,hv,Option.bind_some,b1,b2,b3,aY g3 hl];rw[XJ n0 w hl hc x (i+1) m _ g2 (by omega) (fun d hd=>by rw[List.length_set];exact hb d (List.mem_cons_of_mem _ hd)),List.drop_eq_getElem_cons hi]
  simp only[dg]
 |_,_,0,_,_,hm,_=>by simp at hm
theorem Lv (hs:SOK s) {w:aA} (hT:idx s.ae w.au=some T) (h:wOK T w=true) (h2:w.fOp=2):w.ah.length<=100/\w.aF.length=w.ah.length/\∀c∈w.ah,0<=c/\c.toNat<T.ah.length:=by
 have ht:=hs.tab _ _ hT;have k1:=ht.hZ;have hlen:=wq hs (w:=w) ⟨T,hT,by omega,h⟩
 simp only[wOK,gm,Bool.and_eq_true] at h;have h:=h.2;rw[if_neg (by omega),if_pos h2] at h
 cases hcl:cS (aS T) (T.aq-1) w.ah with
 |none=>rw[hcl] at h;cases h
 |some l=>
  rw[hcl] at h;obtain ⟨a1,a2⟩:=mD ht.ks (by omega) hcl
  have h3:=fK h;refine ⟨hlen,by omega,fun c hc=> ?_⟩
  obtain ⟨i,hi,rfl⟩:=List.mem_iff_getElem.1 hc;have:=a2 i _ (List.getElem?_eq_getElem hi);rw[bW] at this;exact ⟨this.1,this.2.1⟩
end
section
variable {s:ag} {n:Nat}
theorem vx {s:ag} {e:Int} {ws:Wq3} (h:oj s e ws=0):e=0/\ws.length<=64/\∀w∈ws,my s w:=by
 unfold oj at h;split at h
 ·rename_i h0;split at h
  ·cases h
  ·exact ⟨h0,by omega,vt h⟩
 ·exact absurd h (by assumption)
end

section
section
variable {s:ag} {t n:Nat} {T:av}
theorem half (i j:Nat) (h:i+j<=2000000):w64 (Int.fdiv (IntKind.wrap .u64 (w64 ((i:Int)+(j:Int)))) 2)=(((i+j) / 2:Nat):Int):=by
 rw[bI (x:=(i:Int)+(j:Int)) (by omega) (by omega),IntWalk.u64_in _ (by omega),Int.fdiv_eq_ediv_of_nonneg _ (by omega),bI (by omega) (by omega)]
 omega
structure Place (T:av) (key:Wq2) (rows:Wq8) (p:Nat):Prop where
 le:p<=rows.length
 lo:∀k r,rows[k]? =some r->k<p->lt (kOf T r) key
 hi:∀k r,rows[k]? =some r->p<=k->¬lt (kOf T r) key
theorem Ord.get {rows:Wq8} (h:Ord T rows) {i j:Nat} {a b:Wq2} (hi:rows[i]? =some a) (hj:rows[j]? =some b) (hij:i<j):lt (kOf T a) (kOf T b):=by
 obtain ⟨h1,rfl⟩:=List.getElem?_eq_some_iff.1 hi;obtain ⟨h2,rfl⟩:=List.getElem?_eq_some_iff.1 hj;exact List.pairwise_iff_getElem.1 h i j h1 h2 hij
def atK (T:av) (key:Wq2):Option Wq2->Bool
 |some r=>bZ (kOf T r) key==0
 |none=>false
def ot (T:av) (c:dX):Wq2:=if c.LC= [] then kOf T c.Ac else kOf T c.LC
def r9 (c:dX):Wq8:=if c.Ac= [] then [] else [c.Ac]
structure aap (T:av) (rows:Wq8) (c:dX):Prop where
 new:c.Ac= []\/(bf (aS T) c.Ac=true/\kOf T c.Ac=ot T c)
 old:(c.LC= []/\c.Ac≠ []/\∀r∈rows,kOf T r≠ot T c)\/(c.LC≠ []/\c.LC∈rows)
theorem Pf {rows:Wq8} {c:dX} (h:aap T rows c):r9 c= []\/∃r,r9 c= [r]/\kOf T r=ot T c:=by
 unfold r9;split
 ·exact .inl rfl
 ·rename_i hn;exact .inr ⟨_,rfl,(h.new.resolve_left hn).2⟩
end
end
section
abbrev cN:=Wq9
def lR (s:ag) (ts:cN) (c:dX):cN:=
 match idx s.ae c.au,idx ts c.au with
 |some T,some rows=>ts.set c.au.toNat (cF T (ot T c) (r9 c) rows)
 |_,_=>ts
structure StB (s:ag) (ts:cN):Prop where
 len:ts.length=s.ae.length
 row:∀(t:Nat) T rows,s.ae[t]? =some T->ts[t]? =some rows->(∀r∈rows,bf (aS T) r=true)/\Ord T rows
def MU (s:ag) (ts:cN) (c:dX):Prop:=∃(t:Nat) (T:av) (rows:Wq8),c.au=(t:Int)/\s.ae[t]? =some T/\ts[t]? =some rows/\aap T rows c
def aao (s:ag):cN->List dX->Prop
 |_,[]=>True
 |ts,c::cs=>MU s ts c/\aao s (lR s ts c) cs
section
variable {s:ag} {t n:Nat} {T:av} {ts:cN} {rows:Wq8} {c:dX}
theorem Ps (hc:c.au=(t:Int)) (hT:s.ae[t]? =some T) (hr:ts[t]? =some rows):lR s ts c=ts.set t (cF T (ot T c) (r9 c) rows):=by
 unfold lR;rw[hc,aJ,aJ,hT,hr];rfl
theorem StB.set (h:StB s ts) (hT:s.ae[t]? =some T) {rows':List (List aI)} (h1:∀r∈rows',bf (aS T) r=true) (h2:Ord T rows'):StB s (ts.set t rows'):=by
 refine ⟨by rw[List.length_set];exact h.len,fun u U rs hU hrs=> ?_⟩
 have hlt:=(List.getElem?_eq_some_iff.1 hT).1
 by_cases e:u=t
 ·subst e
  rw[hT] at hU;cases hU
  rw[List.getElem?_set_self (by rw[h.len];exact hlt)] at hrs
  cases hrs
  exact ⟨h1,h2⟩
 ·rw[List.getElem?_set_ne (fun e'=>e e'.symm)] at hrs
  exact h.row u U rs hU hrs
theorem StB.lR (h:StB s ts) (hc:MU s ts c):StB s (lR s ts c):=by
 obtain ⟨t,T,rows,h1,h2,h3,h4⟩:=hc;obtain ⟨r1,r2⟩:=h.row t T rows h2 h3;rw[Ps h1 h2 h3];refine h.set h2 (fun r hr=> ?_) (tV r2 (Pf h4))
 rcases lG.1 hr with ⟨hr,_⟩|hr
 ·exact r1 r hr
 ·unfold r9 at hr;split at hr
  ·simp at hr
  ·rename_i hn;rw[List.mem_singleton.1 hr];exact (h4.new.resolve_left hn).1
theorem jY:∀{ts:cN} {t:Nat} {rows rows':Wq8},ts[t]? =some rows->total (ts.set t rows')+rows.length=total ts+rows'.length
 | [],_,_,_,h=>by simp at h
 |y::ts,0,rows,rows',h=>by
  simp at h;subst h;simp only[List.set_cons_zero,total];omega
 |y::ts,t+1,rows,rows',h=>by
  have:=jY (rows':=rows') (show ts[t]? =some rows by simpa using h)
  simp only[List.set_cons_succ,total];omega
theorem zr (k:Wq2):∀rows:Wq8,(rows.filter fun r=>decide (lt (kOf T r) k)).length+(rows.filter fun r=>decide (lt k (kOf T r))).length<=rows.length
 | []=>by simp
 |r::rows=>by
  have ih:=zr k rows;rw[List.filter_cons,List.filter_cons];by_cases h1:lt (kOf T r) k
  ·have h2:¬lt k (kOf T r):=lt_asymm h1;simp only[h1,h2,decide_true,decide_false,if_true,Bool.false_eq_true,if_false,List.length_cons];omega
  ·by_cases h2:lt k (kOf T r)
   ·simp only[h1,h2,decide_true,decide_false,if_true,Bool.false_eq_true,if_false,List.length_cons];omega
   ·simp only[h1,h2,decide_false,Bool.false_eq_true,if_false,List.length_cons];omega
theorem Ys (k:Wq2) (N rows:Wq8):(cF T k N rows).length<=rows.length+N.length:=by
 have:=zr (T:=T) k rows;unfold cF;simp only[List.length_append];omega
end
end
section
section
variable {s:ag} {t n:Nat} {T:av} {ts ts0:cN} {rows:Wq8} {c:dX} {key:Wq2} {r:Wq2}
instance decRow (a b:Wq2):Decidable (a=b):=decidable_of_iff (bZ a b=0) rY
theorem Ord.inj (h:Ord T rows) {a b:Wq2} (ha:a∈rows) (hb:b∈rows) (e:kOf T a=kOf T b):a=b:=by
 obtain ⟨i,hi⟩:=List.getElem?_of_mem ha;obtain ⟨j,hj⟩:=List.getElem?_of_mem hb;by_cases h1:i=j
 ·subst h1;rw[hi] at hj;cases hj;rfl
 ·by_cases h2:i<j
  ·have:=h.get hi hj h2;rw[e] at this;exact absurd this (lt_irrefl _)
  ·have:=h.get hj hi (by omega);rw[e] at this;exact absurd this (lt_irrefl _)
theorem iE:dy T key rows=none↔∀r∈rows,kOf T r≠key:=by
 unfold dy;rw[List.find?_eq_none];constructor
 ·intro h r hr e;have:=h r hr;simp only[beq_iff_eq] at this;exact this (rY.2 e)
 ·intro h r hr hc;simp only[beq_iff_eq] at hc;exact h r hr (jK hc)
theorem lO (h:dy T key rows=some r):kOf T r=key:=by
 have:=List.find?_some h;simp only[beq_iff_eq] at this;exact jK this
theorem Fi (hO:Ord T rows):dy T key rows=some r↔r∈rows/\kOf T r=key:=by
 constructor
 ·exact fun h=>⟨kf h,lO h⟩
 ·rintro ⟨h1,h2⟩;cases hg:dy T key rows with
  |none=>exact absurd h2 (iE.1 hg r h1)
  |some r'=>rw[hO.inj (kf hg) h1 ((lO hg).trans h2.symm)]
theorem ZA {k:Wq2} {N:Wq8} (hO:Ord T rows) (hN:N= []\/∃r,N= [r]/\kOf T r=k):dy T key (cF T k N rows)=if key=k then N.head? else dy T key rows:=by
 have hO':=tV hO hN;split
 ·rename_i e;subst e;rcases hN with rfl|⟨r,rfl,e⟩
  ·refine iE.2 fun r hr=> ?_
   rcases lG.1 hr with h|h
   ·exact h.2
   ·simp at h
  ·exact (Fi hO').2 ⟨lG.2 (.inr (by simp)),e⟩
 ·rename_i e;cases hg:dy T key rows with
  |none=>
   refine iE.2 fun r hr=> ?_
   rcases lG.1 hr with h|h
   ·exact iE.1 hg r h.1
   ·rcases hN with rfl|⟨r',rfl,e'⟩
    ·simp at h
    ·rw[List.mem_singleton.1 h,e'];exact fun h=>e h.symm
  |some r=>
   exact (Fi hO').2 ⟨lG.2 (.inl ⟨kf hg,by rw[lO hg];exact e⟩),lO hg⟩
def wlt (a b:aA):Prop:=gA a.au a.aq b.au b.aq<0
theorem TS {a b:aA} (h:wlt a b) (e:a.au=b.au):a.aq≠b.aq:=by
 unfold wlt gA at h;rw[if_pos e] at h;intro hk;rw[hk,l4] at h;omega
theorem JZ:∀{ks:Wq0} {r:Wq2} {i:Nat} {v:aI} {k:Int},bf ks r=true->ks[i]? =some k->fD v=true->v.aw=k->bf ks (r.set i v)=true
 |k::ks,w::r,0,v,k',h,hk,h1,h2=>by
  simp only[bf,Bool.and_eq_true,beq_iff_eq] at h;simp at hk;subst hk;simp[bf,h1,h2,h.2]
 |k::ks,w::r,i+1,v,k',h,hk,h1,h2=>by
  simp only[bf,Bool.and_eq_true] at h;simp only[List.set_cons_succ,bf,Bool.and_eq_true];exact ⟨h.1,JZ h.2 (by simpa using hk) h1 h2⟩
 | [],[],_,_,_,_,hk,_,_=>by simp at hk
 | [],_::_,_,_,_,h,_,_,_=>by simp[bf] at h
 |_::_,[],_,_,_,h,_,_,_=>by simp[bf] at h
theorem Om {ks:Wq0}:∀{cs l:Wq0} {vs:Wq2} {last:Int} {r:Wq2}, -1<=last->cS ks last cs=some l->bf l vs=true->bf ks r=true->bf ks (dg r cs vs)=true/\(dg r cs vs).take (last+1).toNat=r.take (last+1).toNat
 | [],l,vs,last,r,_,h,hl,hr=>by simp[dg,hr]
 |c::cs,l,vs,last,r,adp,h,hl,hr=>by
  simp only[cS] at h;split at h
  ·rename_i hc;cases h3:cS ks c cs with
   |none=>rw[h3] at h;cases h
   |some l'=>
    rw[h3] at h;simp at h;subst h;cases vs with
    |nil=>simp[bf] at hl
    |cons v vs=>
     simp only[bf,Bool.and_eq_true,beq_iff_eq] at hl;have hlt:c.toNat<ks.length:=by omega
     have hk:ks[c.toNat]? =some ks[c.toNat]:=List.getElem?_eq_getElem hlt;rw[hk] at hl;have hr':=JZ (i:=c.toNat) hr hk hl.1.1 hl.1.2;obtain ⟨a,b⟩:=Om (by omega) h3 hl.2 hr'
     refine ⟨a,?_⟩;simp only[dg];have e:(last+1).toNat=min (last+1).toNat (c+1).toNat:=by omega
     rw[e,<-List.take_take,b,List.take_take,<-e,List.take_set_of_le (by omega)]
  ·cases h
theorem adZ {w:aA} (ht:cn T) (h:wOK T w=true) (h2:w.fOp=2) (hr:bf (aS T) r=true):bf (aS T) (dg r w.ah w.aF)=true/\kOf T (dg r w.ah w.aF)=kOf T r:=by
 have k1:=ht.hZ;simp only[wOK,gm,Bool.and_eq_true] at h;have h:=h.2;rw[if_neg (by omega),if_pos h2] at h
 split at h
 ·rename_i l hl;obtain ⟨a,b⟩:=Om (r:=r) (by omega) hl h hr
  refine ⟨a,?_⟩;rw[show T.aq-1+1=T.aq by omega] at b
  exact b
 ·cases h
theorem xn {w:aA} (h:wOK T w=true) (h1:w.fOp=1):bf (aS T) w.aF=true/\kOf T w.aF=w.aq:=by
 simp only[wOK,gm,Bool.and_eq_true] at h;have h:=h.2;rw[if_pos h1] at h;simp only[Bool.and_eq_true,beq_iff_eq] at h;exact ⟨h.2.1,jK h.2.2⟩
theorem JV (ht:cn T) (hr:bf (aS T) r=true):r≠ []:=by
 rintro rfl;have:=vL hr;have k1:=ht.hZ;have k2:=ht.bO;simp at this;omega
def jh (s:ag) (ts0:cN) (w:aA):Option dX:=
 match idx s.ae w.au,idx ts0 w.au with
 |some T,some rows=>
  match dy T w.aq rows with
  |some r=>if w.fOp=2 then (if bZ r (dg r w.ah w.aF)=0 then none else some (dX.mk w.au r (dg r w.ah w.aF))) else some (dX.mk w.au r [])
  |none=>some (dX.mk w.au [] w.aF)
 |_,_=>none
def eff (T:av) (gG:Wq8) (w:aA):Option Wq2:=
 match dy T w.aq gG with
 |some r=>if w.fOp=2 then some (dg r w.ah w.aF) else none
 |none=>some w.aF
def Acc (s:ag) (ts0:cN) (w:aA):Prop:=∃(t:Nat) (T:av) (rows:Wq8),w.au=(t:Int)/\s.ae[t]? =some T/\ts0[t]? =some rows/\wOK T w=true/\((dy T w.aq rows=none/\w.fOp=1)\/∃r,dy T w.aq rows=some r/\(w.fOp=2\/w.fOp=3))
theorem aif (hs:SOK s) {w:aA} {cur:cN} {gG:Wq8} (hb:StB s cur) (ht:w.au=(t:Int)) (hT:s.ae[t]? =some T) (h0:ts0[t]? =some gG) (hc:cur[t]? =some rows) (hg:dy T w.aq rows=dy T w.aq gG) (hok:wOK T w=true) (hop:(dy T w.aq gG=none/\w.fOp=1)\/∃r,dy T w.aq gG=some r/\(w.fOp=2\/w.fOp=3)):
  (∀c,jh s ts0 w=some c->MU s cur c)/\∃rows',(match jh s ts0 w with|some c=>lR s cur c|none=>cur)=cur.set t rows'/\StB s (cur.set t rows')/\∀key,dy T key rows'=if key=w.aq then eff T gG w else dy T key rows:=by
 have hTi:idx s.ae w.au=some T:=by rw[ht,aJ];exact hT
 have h0i:idx ts0 w.au=some gG:=by rw[ht,aJ];exact h0
 have htb:=hs.tab _ _ hTi;obtain ⟨r1,r2⟩:=hb.row t T rows hT hc;have fits:∀c:dX,c.au=w.au->aap T rows c->ot T c=w.aq->eff T gG w=(r9 c).head? ->jh s ts0 w=some c->(∀c,jh s ts0 w=some c->MU s cur c)/\∃rows',(match jh s ts0 w with|some c=>lR s cur c|none=>cur)=cur.set t rows'/\StB s (cur.set t rows')/\∀key,dy T key rows'=if key=w.aq then eff T gG w else dy T key rows:=by
  intro c e1 e2 e3 e4 e5;have hf:MU s cur c:=⟨t,T,rows,e1.trans ht,hT,hc,e2⟩;have e6:=Ps (e1.trans ht) hT hc;have hb':=hb.lR hf;rw[e6] at hb';refine ⟨fun c' hc'=>(by rw[e5] at hc';cases hc';exact hf),_,(by rw[e5];exact e6),hb',fun key=> ?_⟩
  rw[ZA r2 (Pf e2),e3,e4]
 cases hgk:dy T w.aq gG with
 |none=>
  have h1:w.fOp=1:=by
   rcases hop with h|⟨r,h,_⟩
   ·exact h.2
   ·rw[hgk] at h;cases h
  obtain ⟨a,b⟩:=xn hok h1;have hne:=JV htb a;have ek:ot T (dX.mk w.au [] w.aF)=w.aq:=by simp only[ot,if_true];exact b
  refine fits (dX.mk w.au [] w.aF) rfl ⟨.inr ⟨a,by rw[ek];exact b⟩,.inl ⟨rfl,hne,fun r hr=> ?_⟩⟩ ek ?_ ?_
  ·rw[ek];exact iE.1 (hg.trans hgk) r hr
  ·simp only[eff,hgk,r9,hne,if_false];rfl
  ·simp only[jh,hTi,h0i,hgk]
 |some r=>
  have hop':w.fOp=2\/w.fOp=3:=by
   rcases hop with h|⟨r',h,h'⟩
   ·rw[hgk] at h;cases h.1
   ·exact h'
  have hgr:=hg.trans hgk;have mr:=kf hgr;have mu:=lO hgr;have hrk:=r1 r mr;have Rx:=JV htb hrk;by_cases h2:w.fOp=2
  ·obtain ⟨a,b⟩:=adZ htb hok h2 hrk;have hne:=JV htb a;by_cases h3:bZ r (dg r w.ah w.aF)=0
   ·have e:=jK h3;have ec:jh s ts0 w=none:=by simp only[jh,hTi,h0i,hgk,h2,if_true,h3]
    have Ae:cur.set t rows=cur:=by
     obtain ⟨q1,q2⟩:=List.getElem?_eq_some_iff.1 hc;rw[<-q2];exact List.set_getElem_self q1
    refine ⟨fun c hc'=>(by rw[ec] at hc';cases hc'),rows,by rw[ec,Ae],by rw[Ae];exact hb,fun key=> ?_⟩
    split
    ·rename_i ek;rw[ek,hgr];simp only[eff,hgk,h2,if_true];rw[<-e]
    ·rfl
   ·have ek:ot T (dX.mk w.au r (dg r w.ah w.aF))=w.aq:=by simp only[ot,Rx,if_false];exact mu
    refine fits _ rfl ⟨.inr ⟨a,by rw[ek];exact b.trans mu⟩,.inr ⟨Rx,mr⟩⟩ ek ?_ ?_
    ·simp only[eff,hgk,h2,if_true,r9,hne,if_false];rfl
    ·simp only[jh,hTi,h0i,hgk,h2,if_true,h3,if_false]
  ·have ek:ot T (dX.mk w.au r [])=w.aq:=by simp only[ot,Rx,if_false];exact mu
   refine fits (dX.mk w.au r []) rfl ⟨.inl rfl,.inr ⟨Rx,mr⟩⟩ ek ?_ ?_
   ·simp only[eff,hgk,h2,if_false,r9,if_true];rfl
   ·simp only[jh,hTi,h0i,hgk,h2,if_false]
theorem writes (hs:SOK s):∀(ws:Wq3) (cur:cN),StB s cur->ws.Pairwise wlt->(∀w∈ws,Acc s ts0 w)->(∀w∈ws,∀(t:Nat) T gG rows,w.au=(t:Int)->s.ae[t]? =some T->ts0[t]? =some gG->cur[t]? =some rows->dy T w.aq rows=dy T w.aq gG)->
  aao s cur (ws.filterMap (jh s ts0))/\StB s ((ws.filterMap (jh s ts0)).foldl (lR s) cur)/\
  (∀w∈ws,∀(t:Nat) T gG ky,w.au=(t:Int)->s.ae[t]? =some T->ts0[t]? =some gG->((ws.filterMap (jh s ts0)).foldl (lR s) cur)[t]? =some ky->dy T w.aq ky=eff T gG w)/\
  (∀(t:Nat) T rows ky key,s.ae[t]? =some T->cur[t]? =some rows->((ws.filterMap (jh s ts0)).foldl (lR s) cur)[t]? =some ky->(∀w∈ws,w.au=(t:Int)->w.aq≠key)->dy T key ky=dy T key rows)
 | [],cur,hb,_,_,_=>⟨trivial,hb,fun _ h=>by simp at h,fun t T rows ky key _ h1 h2 _=>by
   have h2:cur[t]? =some ky:=h2;rw[h1] at h2;cases h2;rfl⟩
 |w::ws,cur,hb,hp,ha,hg=>by
  obtain ⟨p1,p2⟩:=List.pairwise_cons.1 hp;obtain ⟨t,T,gG,ht,hT,h0,hok,hop⟩:=ha w (by simp)
  have hlt:t<cur.length:=by rw[hb.len];exact (List.getElem?_eq_some_iff.1 hT).1
  have hc:cur[t]? =some cur[t]:=List.getElem?_eq_getElem hlt;obtain ⟨s1,rows',s2,s3,s4⟩:=aif hs hb ht hT h0 hc (hg w (by simp) t T gG _ ht hT h0 hc) hok hop
  have get':∀{u:Nat} {rs:Wq8},(cur.set t rows')[u]? =some rs->(u=t/\rs=rows')\/(u≠t/\cur[u]? =some rs):=by
   intro u rs h;by_cases e:u=t
   ·subst e;rw[List.getElem?_set_self hlt] at h;cases h;exact .inl ⟨rfl,rfl⟩
   ·rw[List.getElem?_set_ne (fun e'=>e e'.symm)] at h;exact .inr ⟨e,h⟩
  obtain ⟨i1,i2,i3,i4⟩:=writes hs ws (cur.set t rows') s3 p2 (fun v hv=>ha v (by simp[hv])) fun v hv u U A1 rs hu hU h0' hrs=>by
   rcases get' hrs with ⟨rfl,rfl⟩|⟨hne,hrs⟩
   ·rw[hT] at hU;cases hU;rw[s4,if_neg (fun e=>TS (p1 v hv) (ht.trans hu.symm) e.symm)]
    exact hg v (by simp[hv]) u T A1 _ hu hT h0' hc
   ·exact hg v (by simp[hv]) u U A1 rs hu hU h0' hrs
  have aiM:((w::ws).filterMap (jh s ts0)).foldl (lR s) cur=(ws.filterMap (jh s ts0)).foldl (lR s) (cur.set t rows'):=by
   rw[List.filterMap_cons,<-s2];cases jh s ts0 w<;>rfl
  have hcs:aao s cur ((w::ws).filterMap (jh s ts0)):=by
   rw[List.filterMap_cons];cases hch:jh s ts0 w with
   |none=>rw[hch] at s2;have s2:cur=cur.set t rows':=s2;simp only;rw[s2];exact i1
   |some c=>rw[hch] at s2;have s2:lR s cur c=cur.set t rows':=s2;exact ⟨s1 c hch,by rw[s2];exact i1⟩
  rw[aiM];have hltF:t<((ws.filterMap (jh s ts0)).foldl (lR s) (cur.set t rows')).length:=by rw[i2.len];exact (List.getElem?_eq_some_iff.1 hT).1
  refine ⟨hcs,i2,fun v hv u U A1 ky hu hU h0' hF=> ?_,fun u U rs ky key hU hrs hF hk=> ?_⟩
  ·rcases List.mem_cons.1 hv with rfl|hv
   ·have e:u=t:=by omega
    subst e;rw[hT] at hU;cases hU;rw[h0] at h0';cases h0';rw[i4 u T rows' ky v.aq hT (List.getElem?_set_self hlt) hF fun x hx hxt hxk=>TS (p1 x hx) (ht.trans hxt.symm) hxk.symm,s4,if_pos rfl]
   ·exact i3 v hv u U A1 ky hu hU h0' hF
  ·have hk':∀x∈ws,x.au=(u:Int)->x.aq≠key:=fun x hx=>hk x (by simp[hx])
   by_cases e:u=t
   ·subst e;rw[hT] at hU;cases hU;rw[hc] at hrs;cases hrs;rw[i4 u T rows' ky key hT (List.getElem?_set_self hlt) hF hk',s4,if_neg (fun e=>hk w (by simp) ht e.symm)]
   ·exact i4 u U rs ky key hU (by rw[List.getElem?_set_ne (fun e'=>e e'.symm)];exact hrs) hF hk'
end
end
section
def lu (md key:Int) (i:Nat) (k:Int) (v:aI):Bool:=dk v&&decide (v.aw=k\/(¬(i:Int)<key/\((v.aw=2/\md≠1)\/(v.aw=1/\md=3))))
def cf (md key:Int):Nat->Wq0->Wq2->Bool
 |_,[],[]=>true
 |i,k::ks,v::vs=>lu md key i k v&&cf md key (i+1) ks vs
 |_,_,_=>false
section
variable {md key:Int}
theorem tR:∀{i:Nat} {ks:Wq0} {vs:Wq2},cf md key i ks vs=true->vs.length=ks.length
 |_,[],[],_=>rfl
 |_,k::ks,v::vs,h=>by simp[cf] at h;simp[tR h.2]
 |_,[],_::_,h=>by simp[cf] at h
 |_,_::_,[],h=>by simp[cf] at h
theorem OF {i:Nat} {ks:Wq0} {r:Wq2} (h:¬r.length=ks.length):cf md key i ks r=false:=by
 cases hr:cf md key i ks r with
 |false=>rfl
 |true=>exact absurd (tR hr) h
theorem EU:∀{i:Nat} {ks:Wq0} {vs:Wq2} {k:Int} {v:aI},cf md key i ks vs=true->lu md key (i+ks.length) k v=true->cf md key i (ks++ [k]) (vs++ [v])=true
 |i,[],[],k,v,_,h1=>by simpa[cf] using h1
 |i,k'::ks,v'::vs,k,v,h,h1=>by
  simp only[cf,Bool.and_eq_true] at h;simp only[List.cons_append,cf,Bool.and_eq_true];exact ⟨h.1,EU h.2 (by rw[show i+1+ks.length=i+(k'::ks).length by simp;omega];exact h1)⟩
 |_,[],_::_,_,_,h,_=>by simp[cf] at h
 |_,_::_,[],_,_,h,_=>by simp[cf] at h
theorem wO {i:Nat} {k:Int} {v:aI} (h1:v.aw=k) (h2:fD v=true):lu md key i k v=true:=by
 unfold fD at h2;rw[Bool.and_eq_true] at h2;unfold lu;rw[Bool.and_eq_true];exact ⟨h2.1,by simp[h1]⟩
theorem OE:∀{i:Nat} {ks:Wq0} {vs:Wq2},bf ks vs=true->cf md key i ks vs=true
 |_,[],[],_=>rfl
 |i,k::ks,v::vs,h=>by
  simp only[bf,Bool.and_eq_true,beq_iff_eq] at h;simp only[cf,Bool.and_eq_true];exact ⟨wO h.1.2 h.1.1,OE h.2⟩
 |_,[],_::_,h=>by simp[bf] at h
 |_,_::_,[],h=>by simp[bf] at h
theorem JX:∀{i:Nat} {ks:Wq0} {r:Wq2} {j:Nat} {v:aI} {k:Int},cf md key i ks r=true->ks[j]? =some k->fD v=true->v.aw=k->cf md key i ks (r.set j v)=true
 |i,k::ks,w::r,0,v,k',h,hk,h1,h2=>by
  simp only[cf,Bool.and_eq_true] at h;simp at hk;subst hk;simp only[List.set_cons_zero,cf,Bool.and_eq_true];exact ⟨wO h2 h1,h.2⟩
 |i,k::ks,w::r,j+1,v,k',h,hk,h1,h2=>by
  simp only[cf,Bool.and_eq_true] at h;simp only[List.set_cons_succ,cf,Bool.and_eq_true];exact ⟨h.1,JX h.2 (by simpa using hk) h1 h2⟩
 |_,[],[],_,_,_,_,hk,_,_=>by simp at hk
 |_,[],_::_,_,_,_,h,_,_,_=>by simp[cf] at h
 |_,_::_,[],_,_,_,h,_,_,_=>by simp[cf] at h
theorem JY:∀{i:Nat} {ks:Wq0} {r:Wq2} {n:Nat},dx ks=true->cf md key i ks r=true->((i+n:Nat):Int)<=key->bf (ks.take n) (r.take n)=true
 |_,_,_,0,_,_,_=>by simp[bf]
 |_,[],[],n+1,_,_,_=>rfl
 |i,k::ks,v::r,n+1,h0,h,hk=>by
  simp only[cf,Bool.and_eq_true] at h;simp only[List.take_succ_cons,bf,Bool.and_eq_true];have h1:kOK k=true:=j9 h0 (i:=0) rfl;have hlt:(i:Int)<key:=by omega
  have hc:=h.1;unfold lu at hc;simp only[Bool.and_eq_true,decide_eq_true_eq] at hc;have he:v.aw=k:=hc.2.resolve_right fun q=>q.1 hlt
  exact ⟨⟨by rw[qq h1 he];exact hc.1,by simp[he]⟩,JY (E7 h0 1) h.2 (by omega)⟩
 |_,[],_::_,_+1,_,h,_=>by simp[cf] at h
 |_,_::_,[],_+1,_,h,_=>by simp[cf] at h
end
theorem adO (n0:Nat) (md:Int) (T:av) (r:Wq2) (hr:r.length=T.ah.length) (hl:r.length<4294967296):∀(x:Wq2) (i m:Nat),r.drop i=x->i<=r.length->x.length<m->lx (pA n0) m md r (r.length:Int) (i:Int) T=some (cf md T.aq i ((aS T).drop i) (r.drop i))
 | [],i,m+1,hd,h1,hm=>by
  have hq':r.length<=i:=by simpa using hd
  have hq:¬((i:Int)<(r.length:Int)):=by omega
  simp only[lx,yZ,pA,hq,decide_false,Bool.false_eq_true,if_false];rw[hd,List.drop_of_length_le (by rw[bW];omega)]
  rfl
 |x::xs,i,m+1,hd,h1,hm=>by
  obtain ⟨g1,g2,g3⟩:=aK hd;have hq:(i:Int)<(r.length:Int):=by omega
  have hlt:i<T.ah.length:=by omega
  have hc:T.ah[i]? =some T.ah[i]:=List.getElem?_eq_getElem hlt;have hk:=nA hc;generalize T.ah[i]=c at hc hk;have ih:=adO n0 md T r hr hl xs (i+1) m g2 (by omega) (by simp at hm;omega)
  rw[g2] at ih;have key:∀b:Bool,rT (lx (pA n0) m) m md (i:Int) b r (r.length:Int) (i:Int) T x=if x.aw=c.aw\/b=true\/(¬(i:Int)<T.aq/\x.aw=1/\md=3) then some (cf md T.aq (i+1) ((aS T).drop (i+1)) xs) else some false:=by
   intro b;unfold rT y6;simp only[aJ,hc,Option.bind_some,aY g3 hl,ih];by_cases he:x.aw=c.aw
   ·simp[he]
   ·by_cases e1:x.aw=1
    ·by_cases m3:md=3
     ·by_cases hk:(i:Int)<T.aq<;>cases b<;>simp[he,e1,m3,hk]<;>(intro hh;exact absurd (e1.trans hh) he)
     ·cases b<;>simp[he,e1,m3]<;>(intro hh;exact absurd (e1.trans hh) he)
    ·cases b<;>simp[he,e1]
  simp only[lx,yZ,hq,decide_true,if_true,aJ,g1,Option.bind_some,EH,key];rw[hd,hk];simp only[cf,lu];cases hv:dk x with
  |false=>simp
  |true=>
   simp only[Bool.not_true,Bool.false_eq_true,if_false,Bool.true_and];by_cases he:x.aw=c.aw
   ·by_cases h2:x.aw=2
    ·by_cases m1:md=1<;>simp[he,h2,m1]
    ·by_cases h1:x.aw=1<;>simp[he,h1,h2]
   ·by_cases h2:x.aw=2
    ·have f2:¬(2:Int)=c.aw:=fun h=>he (h2.trans h)
     by_cases m1:md=1
     ·subst m1;simp[he,h2,f2]
     ·by_cases hk:(i:Int)<T.aq<;>simp[he,h2,m1,hk,f2]
    ·by_cases h1:x.aw=1
     ·have f1:¬(1:Int)=c.aw:=fun h=>he (h1.trans h)
      by_cases m3:md=3<;>by_cases hk:(i:Int)<T.aq<;>simp[he,h1,m3,hk,f1]
     ·simp[he,h1,h2]
 |_,_,0,_,_,hm=>by simp at hm
theorem adM (n0:Nat) (md:Int) (s:ag) (t:Int) (T:av) (hT:idx s.ae t=some T) (r:Wq2) (hr:r.length=T.ah.length) (hl:r.length<4294967296):∀(x:Wq2) (i m:Nat),r.drop i=x->i<=r.length->x.length<m->pq (yV n0) m t md r (r.length:Int) (i:Int) s=some (cf md T.aq i ((aS T).drop i) (r.drop i))
 | [],i,m+1,hd,h1,hm=>by
  have hq':r.length<=i:=by simpa using hd
  have hq:¬((i:Int)<(r.length:Int)):=by omega
  simp only[pq,yW,yV,hq,decide_false,Bool.false_eq_true,if_false];rw[hd,List.drop_of_length_le (by rw[bW];omega)]
  rfl
 |x::xs,i,m+1,hd,h1,hm=>by
  obtain ⟨g1,g2,g3⟩:=aK hd;have hq:(i:Int)<(r.length:Int):=by omega
  have hlt:i<T.ah.length:=by omega
  have hc:T.ah[i]? =some T.ah[i]:=List.getElem?_eq_getElem hlt;have hk:=nA hc;generalize T.ah[i]=c at hc hk;have ih:=adM n0 md s t T hT r hr hl xs (i+1) m g2 (by omega) (by simp at hm;omega)
  rw[g2] at ih;simp only[pq,yW,jW,lz,hq,decide_true,if_true,aJ,g1,Option.bind_some,tB,hT,hc,aY g3 hl,ih];rw[hd,hk];simp only[cf,lu];cases hv:dk x with
  |false=>simp
  |true=>
   simp only[Bool.not_true,Bool.false_eq_true,if_false,Bool.true_and];by_cases he:x.aw=c.aw
   ·simp[he]
   ·have e0:(x.aw==c.aw)=false:=by simpa using he
    by_cases h2:x.aw=2
    ·have f2:¬(2:Int)=c.aw:=fun h=>he (h2.trans h)
     have f2':((2:Int)==c.aw)=false:=by simpa using f2
     by_cases m1:md=1
     ·subst m1;simp[h2,f2,f2']
     ·by_cases hk:(i:Int)<T.aq<;>simp[h2,m1,hk,f2,f2']
    ·by_cases h1:x.aw=1
     ·have f1:¬(1:Int)=c.aw:=fun h=>he (h1.trans h)
      have f1':((1:Int)==c.aw)=false:=by simpa using f1
      by_cases m3:md=3<;>by_cases hk:(i:Int)<T.aq<;>simp[h1,m3,hk,f1,f1']
     ·simp[e0,he,h1,h2]
 |_,_,0,_,_,hm=>by simp at hm
section
variable {s:ag} {t md:Int} {T:av} {n:Nat}
def qK (md:Int):Prop:=md=1\/md=2\/md=3
theorem amr (hm:qK md) (hT:idx s.ae t=some T) (ht:cn T) (r:Wq2) (hn:1000<n):F70 n s t r md=some (cf md T.aq 0 (aS T) r):=by
 have hc:=ht.aB;have hl:=bW T;have e0:F70 n s t r md=rS n t r md false s:=by
  rcases hm with rfl|rfl|rfl<;>simp[F70,G7,w8 hT]
 rw[e0];simp only[rS,Bool.false_eq_true,if_false,hT,Option.bind_some];by_cases h:r.length=T.ah.length
 ·have e:((r.length:Int) !=(T.ah.length:Int))=false:=by simp[h]
  rw[e];simp only[Bool.false_eq_true,if_false];have:=adO n md T r h (by omega) r 0 n rfl (by omega) (by omega)
  simp only[List.drop_zero] at this;exact this
 ·have e:((r.length:Int) !=(T.ah.length:Int))=true:=by simp;omega
  rw[e,OF (by omega)]
  rfl
theorem amq (hm:qK md) (hT:idx s.ae t=some T) (ht:cn T) (r:Wq2) (hn:1000<n):F86 n s t r md=some (cf md T.aq 0 (aS T) r):=by
 obtain ⟨h0,h1,_⟩:=nY hT;have e1:¬t<0:=by omega
 have e2:t<(s.ae.length:Int):=by omega
 have hc:=ht.aB;have hl:=bW T;have m1:¬md<1:=by rcases hm with rfl|rfl|rfl<;>omega
 have m2:¬3<md:=by rcases hm with rfl|rfl|rfl<;>omega
 simp only[F86,GI,m1,m2,e1,e2,decide_false,decide_true,Bool.not_true,Bool.false_eq_true,if_false,hT,Option.bind_some];by_cases h:r.length=T.ah.length
 ·have e:((r.length:Int) !=(T.ah.length:Int))=false:=by simp[h]
  rw[e];simp only[Bool.false_eq_true,if_false];have:=adM n md s t T hT r h (by omega) r 0 n rfl (by omega) (by omega)
  simp only[List.drop_zero] at this;exact this
 ·have e:((r.length:Int) !=(T.ah.length:Int))=true:=by simp;omega
  rw[e,OF (by omega)]
  rfl
end
theorem Zs {md key k:Int} {i:Nat} (h1:md≠1) (h2:¬(i:Int)<key):lu md key i k ⟨2,0,ByteArray.empty⟩=true:=by
 have:dk ⟨2,0,ByteArray.empty⟩=true:=by simp[dk]
 simp[lu,this,h1,h2]
theorem YO {md key k:Int} {i:Nat} (h1:md=3) (h2:¬(i:Int)<key):lu md key i k ⟨1,0,ByteArray.empty⟩=true:=by
 have:dk ⟨1,0,ByteArray.empty⟩=true:=by simp[dk]
 simp[lu,this,h1,h2]
theorem adP (md:Int) (ks:Wq0) (hk:dx ks=true) (hl:ks.length<=100) (key:Int) (n0:Nat):∀(xs:Wq0) (i m:Nat) (out:Wq2) (c:ak),ks.drop i=xs->300+xs.length<m->aT c->cf md key 0 (ks.take i) out=true->
  Ok (ly (pB n0) m key md ks (ks.length:Int) (i:Int) c out) fun r=>aT r.2/\cf md key 0 ks r.1=true
 | [],i,m+1,out,c,hd,hm,hc,ho=>by
  have:ks.length<=i:=by simpa using hd
  have hq:¬((i:Int)<(ks.length:Int)):=by omega
  simp only[ly,y8,pB,hq,decide_false,Bool.false_eq_true,if_false];exact Ok.pure ⟨hc,by rwa[List.take_of_length_le this] at ho⟩
 |x::xs,i,m+1,out,c,hd,hm,hc,ho=>by
  obtain ⟨g1,g2,g3⟩:=aK hd;have hq:((i:Int)<(ks.length:Int)):=by omega
  have hx:=j9 hk g1;have hkr:=nW hx;have hlen:=tR ho;rw[List.length_take] at hlen;have htl:(ks.take i).length=i:=by rw[List.length_take];omega
  simp only[ly,y8,hq,decide_true,if_true,aJ,g1,Option.bind_some];simp at hm;have next:∀v c',aT c'->lu md key i x v=true->Ok (lA (ly (pB n0) m) m key md ks (ks.length:Int) (i:Int) c' (out++ [v])) fun r=>aT r.2/\cf md key 0 ks r.1=true:=by
   intro v c' hc' hv;unfold lA;rw[aY g3 (by omega)]
   refine adP md ks hk hl key n0 xs (i+1) m _ _ g2 (by omega) hc' ?_
   rw[List.take_succ,g1];exact EU ho (by rw[htl,Nat.zero_add];exact hv)
  have cell:∀c' b,aT c'->(b=true->md=3/\¬(i:Int)<key)->Ok (nI (lA (ly (pB n0) m) m) m key md x ks (ks.length:Int) (i:Int) b c' out) fun r=>aT r.2/\cf md key 0 ks r.1=true:=by
   intro c' b hc' hb;unfold nI;refine Ok.ite (fun h=> ?_) fun _=> ?_
   ·rw[cB _ _ (by simp;omega),Option.bind_some]
    exact next _ _ hc' (YO (hb h).1 (hb h).2)
   ·refine Ok.bind (w9 m (by omega) c' x hc' hkr.1 hkr.2) fun r ⟨hr,r1,r2⟩=> ?_
    rw[cB _ _ (by simp;omega),Option.bind_some]
    exact next _ _ hr (wO r1 r2)
  refine Ok.ite (fun hge=> ?_) fun _=>cell _ _ hc (fun h=>by cases h)
  have hge:¬(i:Int)<key:=by simpa using hge
  refine Ok.ite (fun h1=> ?_) fun _=> ?_
  ·have h1:md≠1:=by simpa using h1
   refine Ok.bind (iM m c 5 hc) fun b hb=> ?_
   refine Ok.ite (fun _=> ?_) fun _=> ?_
   ·rw[cB _ _ (by simp;omega),Option.bind_some]
    exact next _ _ hb (Zs h1 hge)
   ·refine Ok.ite (fun h3=> ?_) fun _=>cell _ _ hb (fun h=>by cases h)
    refine Ok.bind (iM m b.2 5 hb) fun d hd=> ?_
    exact cell _ _ hd fun _=>⟨by simpa using h3,hge⟩
  ·refine Ok.ite (fun h3=> ?_) fun _=>cell _ _ hc (fun h=>by cases h)
   refine Ok.bind (iM m c 5 hc) fun d hd=> ?_
   exact cell _ _ hd fun _=>⟨by simpa using h3,hge⟩
 |_,_,0,_,_,_,hm,_,_=>by simp at hm
theorem amv (n:Nat) (md:Int) (hn:1000<=n) (c:ak) (ks:Wq0) (key:Int) (hk:dx ks=true) (hl:ks.length<=100) (hc:aT c):Ok (F33 n c ks key md) fun r=>aT r.2/\cf md key 0 ks r.1=true:=
 adP md ks hk hl key n ks 0 n [] c rfl (by omega) hc rfl
end
section
theorem dT {md key:Int} {T:av} {r:Wq2} (h:cf md key 0 (aS T) r=true):r.length=T.ah.length:=by rw[tR h,bW]
def ku (md:Int) (T:av):Option Wq2->Wq8->Bool
 |_,[]=>true
 |p,r::rs=>cf md T.aq 0 (aS T) r&&(behind T p r&&ku md T (some r) rs)
def me (md:Int):Wq1->Wq9->Bool
 |T::Ts,rs::rss=>ku md T none rs&&me md Ts rss
 |_,_=>true
def jC (md:Int) (s:ag) (e:Int) (ts:Wq9):Int:=
 if e=0 then (if 512<total ts then 2 else if ts.length=s.ae.length then (if me md s.ae ts then 0 else 80) else 80) else e
variable {s:ag} {t n:Nat} {T:av} {md:Int}
theorem ams (hmd:qK md) {e:Int} (he:F38 n s=some e):F69 n s md=some e:=by
 unfold F69 Tb;rw[he,Option.bind_some];rcases hmd with rfl|rfl|rfl<;>simp<;>omega
theorem Py (hmd:qK md) (hT:idx s.ae (t:Int)=some T) (ht:cn T) (rows:Wq8) (hl:rows.length<=2000000) (k:Int->Wq9->Int->Int->ag->Option Int) (a:Wq9) (a1 a2:Int):
  ∀(x:Wq8) (i m:Nat),rows.drop i=x->x.length+1100<m->(i=0\/∃q,rows[i-1]? =some q/\q.length=T.ah.length)->
   yI k m md (t:Int) rows a a1 a2 rows (rows.length:Int) (i:Int) s=if ku md T (if i=0 then none else rows[i-1]?) x then k md a a1 a2 s else some 80
 | [],i,m+1,hd,hm,_=>by
  have hq':rows.length<=i:=by simpa using hd
  have hq:¬((i:Int)<(rows.length:Int)):=by omega
  simp only[yI,HX,hq,decide_false,Bool.false_eq_true,if_false,ku,if_true]
 |r::x,i,m+1,hd,hm,hp=>by
  obtain ⟨g1,g2,g3⟩:=aK hd;have hq:(i:Int)<(rows.length:Int):=by omega
  simp at hm;simp only[yI,HX,hq,decide_true,if_true,aJ,g1,Option.bind_some,amr hmd hT ht r (by omega:1000<m),ku]
  rcases Bool.eq_false_or_eq_true (cf md T.aq 0 (aS T) r) with hr|hr
  rotate_left
  ·simp[hr]
  ·have hc:=dT hr;have h8:=ht.aB;have ih:=Py hmd hT ht rows hl k a a1 a2 x (i+1) m g2 (by omega) (.inr ⟨r,by rw[Nat.add_sub_cancel];exact g1,hc⟩)
   rw[if_neg (by omega:¬i+1=0),Nat.add_sub_cancel,g1] at ih
   simp only[hr,Bool.not_true,Bool.false_eq_true,if_false,Bool.true_and,aY g3 (by omega:rows.length<4294967296),ih]
   by_cases h0:i=0
   ·subst h0;simp[behind]
   ·obtain ⟨q,hg,hql⟩:=hp.resolve_left h0;have h0':0<(i:Int):=by omega
    have hw:w64 ((i:Int)-1)=((i-1:Nat):Int):=by rw[bI (by omega) (by omega)];omega
    simp only[h0',decide_true,if_true,hw,aJ,hg,Option.bind_some,h0,if_false,XV hT ht q hql,XV hT ht r hc,xa m (q.take T.aq.toNat) (r.take T.aq.toNat) (by simp;omega) (by simp;omega),behind]
    by_cases h5:bZ (q.take T.aq.toNat) (r.take T.aq.toNat)<0
    ·simp[h5]
    ·simp[h5]
 |_,_,0,_,hm,_=>by simp at hm
theorem Pv (hmd:qK md) (hT:idx s.ae (t:Int)=some T) (ht:cn T) (rows:Wq8) (hl:rows.length<=2000000) (k:Int->Wq9->Int->Int->ag->Option Int) (a:Wq9) (a1 a2:Int):
  ∀(x:Wq8) (i m:Nat),rows.drop i=x->x.length+1100<m->(i=0\/∃q,rows[i-1]? =some q/\q.length=T.ah.length)->
   yx k m md (t:Int) rows a a1 a2 rows (rows.length:Int) (i:Int) s=if ku md T (if i=0 then none else rows[i-1]?) x then k md a a1 a2 s else some 80
 | [],i,m+1,hd,hm,_=>by
  have hq':rows.length<=i:=by simpa using hd
  have hq:¬((i:Int)<(rows.length:Int)):=by omega
  simp only[yx,Ht,hq,decide_false,Bool.false_eq_true,if_false,ku,if_true]
 |r::x,i,m+1,hd,hm,hp=>by
  obtain ⟨g1,g2,g3⟩:=aK hd;have hq:(i:Int)<(rows.length:Int):=by omega
  simp at hm;simp only[yx,Ht,hq,decide_true,if_true,aJ,g1,Option.bind_some,amq hmd hT ht r (by omega:1000<m),ku]
  rcases Bool.eq_false_or_eq_true (cf md T.aq 0 (aS T) r) with hr|hr
  rotate_left
  ·simp[hr]
  ·have hc:=dT hr;have h8:=ht.aB;have ih:=Pv hmd hT ht rows hl k a a1 a2 x (i+1) m g2 (by omega) (.inr ⟨r,by rw[Nat.add_sub_cancel];exact g1,hc⟩)
   rw[if_neg (by omega:¬i+1=0),Nat.add_sub_cancel,g1] at ih
   simp only[hr,Bool.not_true,Bool.false_eq_true,if_false,Bool.true_and,aY g3 (by omega:rows.length<4294967296),ih]
   by_cases h0:i=0
   ·subst h0;simp[behind]
   ·obtain ⟨q,hg,hql⟩:=hp.resolve_left h0;have h0':0<(i:Int):=by omega
    have hw:w64 ((i:Int)-1)=((i-1:Nat):Int):=by rw[bI (by omega) (by omega)];omega
    simp only[h0',decide_true,if_true,hw,aJ,hg,Option.bind_some,h0,if_false,oh (n:=m) hT ht q hql,oh (n:=m) hT ht r hc,qN m (q.take T.aq.toNat) (r.take T.aq.toNat) (by simp;omega) (by simp;omega),behind]
    by_cases h5:bZ (q.take T.aq.toNat) (r.take T.aq.toNat)<0
    ·simp[h5]
    ·simp[h5]
 |_,_,0,_,hm,_=>by simp at hm
theorem Px (hmd:qK md) (hs:SOK s) (n0:Nat) (ts:Wq9) (hlen:ts.length=s.ae.length) (hl:total ts<=512):
  ∀(x:Wq9) (i m:Nat),ts.drop i=x->x.length+2000<m->
   vh (Cw n0) m md ts (ts.length:Int) (i:Int) s=some (if me md (s.ae.drop i) x then 0 else 80)
 | [],i,m+1,hd,hm=>by
  have hq':ts.length<=i:=by simpa using hd
  have hq:¬((i:Int)<(ts.length:Int)):=by omega
  simp only[vh,HV,Cw,hq,decide_false,Bool.false_eq_true,if_false];cases s.ae.drop i<;>simp[me]
 |rs::x,i,m+1,hd,hm=>by
  obtain ⟨g1,g2,g3⟩:=aK hd;have hq:(i:Int)<(ts.length:Int):=by omega
  have h8:=hs.len;have hrs:=jZ (List.mem_of_getElem? g1);simp at hm;have hi:i<s.ae.length:=by omega
  have hT:idx s.ae (i:Int)=some (s.ae[i]):=by rw[aJ];exact List.getElem?_eq_getElem _
  have ih:=Px hmd hs n0 ts hlen hl x (i+1) m g2 (by omega)
  simp only[vh,HV,hq,decide_true,if_true,aJ,g1,Option.bind_some];have e:=Py hmd hT (hs.tab _ _ hT) rs (by omega) (HW (vh (Cw n0) m) m) ts (ts.length:Int) (i:Int) rs 0 m rfl (by omega) (.inl rfl)
  rw[if_pos rfl,show ((0:Nat):Int)=0 from rfl] at e;rw[e,List.drop_eq_getElem_cons hi];simp only[HW,aY g3 (by omega:ts.length<4294967296),ih,me]
  rcases Bool.eq_false_or_eq_true (ku md s.ae[i] none rs) with hb|hb<;>simp[hb]
 |_,_,0,_,hm=>by simp at hm
theorem Pu (hmd:qK md) (hs:SOK s) (n0:Nat) (ts:Wq9) (hlen:ts.length=s.ae.length) (hl:total ts<=512):
  ∀(x:Wq9) (i m:Nat),ts.drop i=x->x.length+2000<m->
   vd (Cs n0) m md ts (ts.length:Int) (i:Int) s=some (if me md (s.ae.drop i) x then 0 else 80)
 | [],i,m+1,hd,hm=>by
  have hq':ts.length<=i:=by simpa using hd
  have hq:¬((i:Int)<(ts.length:Int)):=by omega
  simp only[vd,Hq,Cs,hq,decide_false,Bool.false_eq_true,if_false];cases s.ae.drop i<;>simp[me]
 |rs::x,i,m+1,hd,hm=>by
  obtain ⟨g1,g2,g3⟩:=aK hd;have hq:(i:Int)<(ts.length:Int):=by omega
  have h8:=hs.len;have hrs:=jZ (List.mem_of_getElem? g1);simp at hm;have hi:i<s.ae.length:=by omega
  have hT:idx s.ae (i:Int)=some (s.ae[i]):=by rw[aJ];exact List.getElem?_eq_getElem _
  have ih:=Pu hmd hs n0 ts hlen hl x (i+1) m g2 (by omega)
  simp only[vd,Hq,hq,decide_true,if_true,aJ,g1,Option.bind_some];have e:=Pv hmd hT (hs.tab _ _ hT) rs (by omega) (Hr (vd (Cs n0) m) m) ts (ts.length:Int) (i:Int) rs 0 m rfl (by omega) (.inl rfl)
  rw[if_pos rfl,show ((0:Nat):Int)=0 from rfl] at e;rw[e,List.drop_eq_getElem_cons hi];simp only[Hr,aY g3 (by omega:ts.length<4294967296),ih,me]
  rcases Bool.eq_false_or_eq_true (ku md s.ae[i] none rs) with hb|hb<;>simp[hb]
 |_,_,0,_,hm=>by simp at hm
theorem Pw (k:Int->ag->ai->Option Int) (st:ai) (ts:Wq9) (hl:ts.length+total ts<=2000000):∀(x:Wq9) (i m a:Nat),ts.drop i=x->x.length<m->a<=512->total x<=total ts->(512<a+total x->px k m md (a:Int) ts (ts.length:Int) (i:Int) s st=some 2)/\(a+total x<=512->px k m md (a:Int) ts (ts.length:Int) (i:Int) s st=k md s st)
 | [],i,m+1,a,hd,hm,ha,_=>by
  have hq':ts.length<=i:=by simpa using hd
  have hq:¬((i:Int)<(ts.length:Int)):=by omega
  refine ⟨fun h=> ?_,fun _=> ?_⟩
  ·simp only[total] at h;omega
  ·simp only[px,Hu,hq,decide_false,Bool.false_eq_true,if_false]
 |rs::x,i,m+1,a,hd,hm,ha,hx=>by
  obtain ⟨g1,g2,g3⟩:=aK hd;have hq:(i:Int)<(ts.length:Int):=by omega
  simp at hm;simp only[total] at hx ⊢;have hw:w64 ((a:Int)+(rs.length:Int))=((a+rs.length:Nat):Int):=by rw[bI (by omega) (by omega)];omega
  have hv:w64 (512-(a:Int))=512-(a:Int):=bI (by omega) (by omega)
  have e:px k (m+1) md (a:Int) ts (ts.length:Int) (i:Int) s st=if decide (512-(a:Int)<(rs.length:Int)) then some 2 else px k m md ((a+rs.length:Nat):Int) ts (ts.length:Int) ((i+1:Nat):Int) s st:=by
   simp only[px,Hu,hq,decide_true,if_true,aJ,g1,Option.bind_some,aY g3 (by omega:ts.length<4294967296),hw,hv]
  rw[e];by_cases h:512-(a:Int)<(rs.length:Int)
  ·simp only[h,decide_true,if_true];exact ⟨fun _=>trivial,fun h'=>by omega⟩
  ·simp only[h,decide_false,Bool.false_eq_true,if_false];obtain ⟨h1,h2⟩:=Pw k st ts hl x (i+1) m (a+rs.length) g2 (by omega) (by omega) (by omega)
   exact ⟨fun h'=>h1 (by omega),fun h'=>h2 (by omega)⟩
 |_,_,0,_,_,hm,_,_=>by simp at hm
theorem amw (hmd:qK md) (n:Nat) (s:ag) (e:Int) (he:F38 n s=some e) (hs:e=0->SOK s) (st:ai) (hl:st.ae.length+total st.ae<=2000000) (hn:2000100<=n):F28 n s md st=some (jC md s e st.ae):=by
 unfold F28 TF jC;rw[ams hmd he,Option.bind_some];by_cases h0:e=0
 ·subst h0;have h57:=MF (Cr n) st.ae hl st.ae 0 n 0 rfl (by omega) (by omega)
  simp only[bne_self_eq_false,Bool.false_eq_true,if_false,if_true,Option.bind_some,F57,Hk,show ((0:Nat):Int)=0 from rfl,Nat.zero_add] at h57 ⊢;rw[h57];simp only[Cr,Option.bind_some];by_cases h1:512<total st.ae
  ·have h1':(512:Int)<(total st.ae:Int):=by omega
   simp only[h1,h1',decide_true,if_true]
  ·have h1':¬(512:Int)<(total st.ae:Int):=by omega
   simp only[h1,h1',decide_false,Bool.false_eq_true,if_false];by_cases h2:st.ae.length=s.ae.length
   ·have h2':((st.ae.length:Int) !=(s.ae.length:Int))=false:=by simp[h2]
    rw[h2',if_pos h2,if_neg (by simp)]
    have h8:=(hs rfl).len;have:=Px hmd (hs rfl) n st.ae h2 (by omega) st.ae 0 n rfl (by omega)
    rw[List.drop_zero,show ((0:Nat):Int)=0 from rfl] at this;exact this
   ·have h2':((st.ae.length:Int) !=(s.ae.length:Int))=true:=by simp;omega
    simp only[h2',if_true,h2,if_false]
 ·have:(e !=0)=true:=by simpa using h0
  simp[this,h0]
theorem amt (hmd:qK md) (n:Nat) (s:ag) (e:Int) (he:F44 n s=some e) (hs:e=0->SOK s) (st:ai) (hl:st.ae.length+total st.ae<=2000000) (hn:2000100<=n):F53 n s md st=some (jC md s e st.ae):=by
 unfold F53 To jC;have m1:¬md<1:=by rcases hmd with rfl|rfl|rfl<;>omega
 have m2:¬3<md:=by rcases hmd with rfl|rfl|rfl<;>omega
 rw[he,Option.bind_some];by_cases h0:e=0
 ·subst h0;obtain ⟨h57,h58⟩:=Pw (s:=s) (Ho n) st st.ae hl st.ae 0 n 0 rfl (by omega) (by omega) (by omega)
  rw[show ((0:Nat):Int)=0 from rfl] at h57 h58;simp only[bne_self_eq_false,Bool.false_eq_true,if_false,if_true,m1,m2,decide_false];by_cases h1:512<total st.ae
  ·rw[h57 (by omega),if_pos h1]
  ·rw[h58 (by omega),if_neg h1]
   unfold Ho;by_cases h2:st.ae.length=s.ae.length
   ·have h2':((st.ae.length:Int) !=(s.ae.length:Int))=false:=by simp[h2]
    rw[h2',if_pos h2,if_neg (by simp)]
    have h8:=(hs rfl).len;have:=Pu hmd (hs rfl) n st.ae h2 (by omega) st.ae 0 n rfl (by omega)
    rw[List.drop_zero,show ((0:Nat):Int)=0 from rfl] at this;exact this
   ·have h2':((st.ae.length:Int) !=(s.ae.length:Int))=true:=by simp;omega
    simp only[h2',if_true,h2,if_false]
 ·have:(e !=0)=true:=by simpa using h0
  simp[this,h0]
end
section
def fA (T:av) (key row:Wq2):Bool->Wq8->Wq8
 |done,[]=>if done=true then [] else [row]
 |done,r::x=>if bZ (kOf T r) key<0 then r::fA T key row done x else (if done=true then [] else [row])++(if bZ (kOf T r) key=0 then [] else [r])++fA T key row true x
section
variable {s:ag} {t n:Nat} {T:av} {md:Int} {ts:cN} {rows:Wq8} {key row:Wq2}
theorem OK:∀{x:Wq8},(∀y∈x,lt key (kOf T y))->fA T key row true x=x
 | [],_=>rfl
 |r::x,h=>by
  have h1:=h r (by simp)
  have h2:¬bZ (kOf T r) key<0:=fun h=>lt_asymm h1 (l5.1 h)
  have h3:¬bZ (kOf T r) key=0:=fun e=>by rw[jK e] at h1;exact lt_irrefl _ h1
  have ih:=OK (x:=x) fun y hy=>h y (by simp[hy])
  simp only[fA,h2,h3,if_false,if_true,List.nil_append,List.singleton_append,ih]
theorem OL:∀{done:Bool} {x:Wq8},Ord T x->fA T key row done x=cF T key (if done=true then [] else [row]) x
 |done,[],_=>by simp[fA,cF]
 |done,r::x,h=>by
  obtain ⟨h1,h2⟩:=List.pairwise_cons.1 h;by_cases hl:bZ (kOf T r) key<0
  ·have hl':=l5.1 hl;have e1:decide (lt (kOf T r) key)=true:=by simpa using hl'
   have e2:decide (lt key (kOf T r))=false:=by simpa using lt_asymm hl'
   have ih:=OL (done:=done) h2;simp only[fA,hl,if_true,ih,cF,List.filter_cons,e1,e2,Bool.false_eq_true,if_false,List.cons_append]
  ·have hl':¬lt (kOf T r) key:=fun h=>hl (l5.2 h)
   have gt:∀y∈x,lt key (kOf T y):=fun y hy=>by
    rcases vX (kOf T r) key with h|h|h
    ·exact absurd h hl'
    ·rw[<-h];exact h1 y hy
    ·exact lt_trans h (h1 y hy)
   have e1:decide (lt (kOf T r) key)=false:=by simpa using hl'
   have e3:x.filter (fun r=>decide (lt (kOf T r) key))= []:=filter_none fun y hy=>by simpa using lt_asymm (gt y hy)
   have e4:x.filter (fun r=>decide (lt key (kOf T r)))=x:=filter_all fun y hy=>by simpa using gt y hy
   simp only[fA,hl,if_false,OK gt,cF,List.filter_cons,e1,e3,e4,Bool.false_eq_true,List.nil_append];by_cases h0:bZ (kOf T r) key=0
   ·have e5:decide (lt key (kOf T r))=false:=by
     rw[jK h0];simpa using lt_irrefl key
    simp only[h0,if_true,e5,Bool.false_eq_true,if_false,List.append_nil]
   ·have e5:decide (lt key (kOf T r))=true:=by
     rcases vX (kOf T r) key with h|h|h
     ·exact absurd h hl'
     ·exact absurd (rY.2 h) h0
     ·simpa using h
    simp only[h0,if_false,e5,if_true,List.append_assoc,List.singleton_append]
theorem EB (n0:Nat) (hT:s.ae[t]? =some T) (ht:cn T) (hkl:key.length<=100) (fM:row.length<=100) (hr:∀r∈rows,r.length=T.ah.length) (hrs:rows.length<=1000) (hts:t<ts.length):∀(x:Wq8) (i m:Nat) (done:Bool) (out:Wq8) (z1 z2:ai),rows.drop i=x->x.length+1100<m->out.length+2*x.length<=100000->
  vg (Cv n0) m (t:Int) key row done rows (rows.length:Int) (i:Int) ts s z1 z2 out=some (⟨ts.set t (out++fA T key row done x)⟩,ts.set t (out++fA T key row done x))
 | [],i,m+1,done,out,z1,z2,hd,hm,ho=>by
  have hq':rows.length<=i:=by simpa using hd
  have hq:¬((i:Int)<(rows.length:Int)):=by omega
  have e1:bnd ts.length (t:Int)=some t:=by unfold bnd;rw[if_pos (by omega)];rfl
  have e2:ts[0+t]? =some ts[t]:=by rw[Nat.zero_add];exact List.getElem?_eq_getElem hts
  have e3:∀o,setAt ts (0+t) o=some (ts.set t o):=fun o=>by rw[Nat.zero_add];unfold setAt;rw[if_pos hts]
  simp only[vg,HQ,Cv,HP,hq,decide_false,Bool.false_eq_true,if_false,e1,e2,e3,Option.bind_some,qM (n:=n0) row (by omega),fA]
  cases done with
  |true=>simp
  |false=>
   simp only[Bool.not_false,if_true,Bool.false_eq_true,if_false];rw[cB _ _ (by simp at ho ⊢;omega),Option.bind_some]
 |r::x,i,m+1,done,out,z1,z2,hd,hm,ho=>by
  obtain ⟨g1,g2,g3⟩:=aK hd;have hq:(i:Int)<(rows.length:Int):=by omega
  have hrl:=hr r (List.mem_of_getElem? g1);have hcl:=ht.aB;have hk2:=ht.bO;simp at hm ho;have hTi:idx s.ae (t:Int)=some T:=by rw[aJ];exact hT
  have step:∀(dn:Bool) (c:Int) (Kj:Wq8),Kj.length<=out.length+1->y7 (vg (Cv n0) m) m (t:Int) key row dn r c rows (rows.length:Int) (i:Int) ts s ⟨ts⟩ ⟨[]⟩ Kj=some (⟨ts.set t (Kj++(if c=0 then [] else [r])++fA T key row dn x)⟩,ts.set t (Kj++(if c=0 then [] else [r])++fA T key row dn x)):=by
   intro dn c Kj h1;unfold y7;rw[aY g3 (by omega)]
   by_cases hc:c=0
   ·subst hc;simp only[bne_self_eq_false,Bool.false_eq_true,if_false,if_true,List.append_nil];exact EB n0 hT ht hkl fM hr hrs hts x (i+1) m dn _ _ _ g2 (by omega) (by omega)
   ·have hc':(c !=0)=true:=by simpa using hc
    simp only[hc',if_true,hc,if_false];rw[cB _ _ (by simp;omega),Option.bind_some]
    exact EB n0 hT ht hkl fM hr hrs hts x (i+1) m dn _ _ _ g2 (by omega) (by simp;omega)
  simp only[vg,HQ,hq,decide_true,if_true,aJ,g1,Option.bind_some,oh (n:=m) hTi ht r hrl,qN m (r.take T.aq.toNat) key (by simp;omega) (by simp;omega),qM (n:=m) row (by omega),fA]
  by_cases hl:bZ (kOf T r) key<0
  ·have h0:¬bZ (kOf T r) key=0:=by omega
   simp only[hl,decide_true,Bool.not_true,Bool.false_eq_true,if_false,if_true];rw[step done _ out (by omega)]
   simp only[h0,if_false,List.append_assoc,List.singleton_append]
  ·simp only[hl,decide_false,Bool.not_false,if_true,if_false];cases done with
   |true=>
    simp only[Bool.not_true,Bool.false_eq_true,if_false,if_true,List.nil_append];rw[step true _ out (by omega)]
    simp only[List.append_assoc]
   |false=>
    simp only[Bool.not_false,if_true,Bool.false_eq_true,if_false];rw[cB _ _ (by simp;omega),Option.bind_some,step true _ _ (by simp)]
    simp only[List.append_assoc]
 |_,_,0,_,_,_,_,_,hm,_=>by simp at hm
def kI (row:Wq2):Wq8:=if row= [] then [] else [row]
theorem PH (hT:s.ae[t]? =some T) (ht:cn T) (hkl:key.length<=100) (fM:row.length<=100) (dH:ts[t]? =some rows) (hr:∀r∈rows,r.length=T.ah.length) (hrs:rows.length<=1000) (hO:Ord T rows) (hn:3000<n):
  F37 n s ⟨ts⟩ (t:Int) key row=some (⟨ts.set t (cF T key (kI row) rows)⟩,ts.set t (cF T key (kI row) rows)):=by
 have hts:t<ts.length:=(List.getElem?_eq_some_iff.1 dH).1;have e1:bnd ts.length (t:Int)=some t:=by unfold bnd;rw[if_pos (by omega)];rfl
 unfold F37 Ty;simp only[e1,Option.bind_some,Nat.zero_add,dH];have h:=EB (key:=key) n hT ht hkl fM hr hrs hts rows 0 n ((row.length:Int)==0) [] ⟨ts⟩ ⟨[]⟩ rfl (by omega) (by simp;omega)
 rw[show ((0:Nat):Int)=0 from rfl,List.nil_append,OL hO] at h;rw[h,KK];have:(if row.isEmpty=true then [] else [row])=kI row:=by unfold kI;cases row<;>simp
 rw[this]
end
structure StM (md:Int) (s:ag) (ts:cN):Prop where
 len:ts.length=s.ae.length
 row:∀(t:Nat) T rows,s.ae[t]? =some T->ts[t]? =some rows->(∀r∈rows,cf md T.aq 0 (aS T) r=true)/\Ord T rows
structure StG (md:Int) (s:ag) (ts:cN):Prop where
 len:ts.length=s.ae.length
 row:∀(t:Nat) T rows,s.ae[t]? =some T->ts[t]? =some rows->rows.length<=8/\∀r∈rows,cf md T.aq 0 (aS T) r=true
 ord:∀(t:Nat) T rows,s.ae[t]? =some T->ts[t]? =some rows->Ord T rows
theorem StG.m {md:Int} {s:ag} {ts:cN} (h:StG md s ts):StM md s ts:=⟨h.len,fun t T rows hT hr=>⟨(h.row t T rows hT hr).2,h.ord t T rows hT hr⟩⟩
theorem mixM {md key:Int}:∀{i:Nat} {ks:Wq0} {a b:Wq2} (j:Nat),dx ks=true->cf md key i ks a=true->bf ks b=true->((i+j:Nat):Int)<=key->bf ks (a.take j++b.drop j)=true
 |_,_,_,_,0,_,_,h,_=>by simpa using h
 |_,[],[],[],j+1,_,_,_,_=>rfl
 |i,k::ks,v::a,w::b,j+1,h0,h1,h2,hk=>by
  have h3:=JY (n:=1) h0 h1 (by omega)
  simp only[List.take_succ_cons,List.take_zero,bf,Bool.and_eq_true,and_true] at h3;simp only[cf,bf,Bool.and_eq_true] at h1 h2;simp only[List.take_succ_cons,List.drop_succ_cons,List.cons_append,bf,Bool.and_eq_true];exact ⟨h3,mixM j (E7 h0 1) h1.2 h2.2 (by omega)⟩
 |_,[],_::_,_,_+1,_,h,_,_=>by simp[cf] at h
 |_,[],[],_::_,_+1,_,_,h,_=>by simp[bf] at h
 |_,_::_,[],_,_+1,_,h,_,_=>by simp[cf] at h
 |_,_::_,_::_,[],_+1,_,_,h,_=>by simp[bf] at h
theorem PA (md:Int) (k:Int->Int->Int->ak->ag->ai->ai->Wq9->Option (ai×ak)) (s:ag) (t:Nat) (T:av) (hT:s.ae[t]? =some T) (ht:cn T) (a1 a2:Int) (Q:ai×ak->Prop):∀(j m:Nat) (c:ak) (z1 z2:ai) (ts:Wq9) (rows:Wq8),4000+j<m->aT c->ts[t]? =some rows->rows.length+j<=8->(∀r∈rows,cf md T.aq 0 (aS T) r=true)->Ord T rows->
  (∀c' z1' z2' rows',aT c'->rows'.length<=8->(∀r∈rows',cf md T.aq 0 (aS T) r=true)->Ord T rows'->Ok (k md a1 a2 c' s z1' z2' (ts.set t rows')) Q)->
  Ok (yO k m md (t:Int) (j:Int) a1 a2 c s z1 z2 ts) Q
 |0,m+1,c,z1,z2,ts,rows,hm,hc,hg,hl,hr,hO,hk=>by
  have hq:¬(0:Int)<((0:Nat):Int):=by omega
  simp only[yO,Ih,hq,decide_false,Bool.false_eq_true,if_false];have:=hk c ⟨[]⟩ ⟨ts⟩ rows hc (by omega) hr hO
  have e:ts.set t rows=ts:=by
   obtain ⟨h1,h2⟩:=List.getElem?_eq_some_iff.1 hg;rw[<-h2];exact List.set_getElem_self h1
  rwa[e] at this
 |j+1,m+1,c,z1,z2,ts,rows,hm,hc,hg,hl,hr,hO,hk=>by
  have hq:(0:Int)<((j+1:Nat):Int):=by omega
  have hTi:idx s.ae (t:Int)=some T:=by rw[aJ];exact hT
  have hcl:=ht.aB;have hkl:=bW T;simp only[yO,Ih,hq,decide_true,if_true,tC hTi (by omega) (by omega:1000<m),Option.bind_some,hTi]
  refine Ok.bind (amv m md (by omega) c (aS T) T.aq ht.ks (by omega) hc) fun r ⟨h1,h2⟩=> ?_
  have hrl:=dT h2;have k1:=ht.hZ;have k2:=ht.bO;rw[oh (n:=m) hTi ht r.1 hrl,Option.bind_some];rw[PH (n:=m) hT ht (by simp;omega) (by omega) hg (fun y hy=>dT (hr y hy)) (by omega) hO (by omega),Option.bind_some]
  have hne:r.1≠ []:=fun e=>by rw[e] at hrl;simp at hrl;omega
  have e1:kI r.1= [r.1]:=by unfold kI;rw[if_neg hne]
  rw[e1];have q2:=Ys (T:=T) (kOf T r.1) [r.1] rows;have q4:=tV (T:=T) hO (.inr ⟨r.1,rfl,rfl⟩: [r.1]= []\/∃y,[r.1]= [y]/\kOf T y=kOf T r.1);have q3:∀y∈cF T (kOf T r.1) [r.1] rows,cf md T.aq 0 (aS T) y=true:=fun y hy=>by
   rcases lG.1 hy with h|h
   ·exact hr y h.1
   ·rw[List.mem_singleton.1 h];exact h2
  generalize cF T (kOf T r.1) [r.1] rows=rows' at q2 q3 q4;simp at q2;have hw:w64 (((j+1:Nat):Int)-1)=(j:Int):=by rw[bI (by omega) (by omega)];omega
  rw[hw];have hts:t<ts.length:=(List.getElem?_eq_some_iff.1 hg).1;refine PA md k s t T hT ht a1 a2 Q j m r.2 _ _ (ts.set t rows') rows' (by omega) h1 (by rw[List.getElem?_set_self hts]) (by omega) q3 q4 fun c' z1' z2' afK k1 k2 k3 k4=> ?_
  rw[List.set_set];exact hk c' z1' z2' afK k1 k2 k3 k4
 |_,0,_,_,_,_,_,hm,_,_,_,_,_,_=>by omega
theorem Pz (md:Int) (n0:Nat) (s:ag) (hs:SOK s):∀(x:Wq1) (i m:Nat) (c:ak) (z1 z2:ai) (ts:Wq9),s.ae.drop i=x->4100+x.length<m->aT c->StG md s ts->(∀t,i<=t->t<ts.length->ts[t]? =some [])->
  Ok (vj (CA n0) m md (s.ae.length:Int) (i:Int) c s z1 z2 ts) fun r=>aT r.2/\StG md s r.1.ae
 | [],i,m+1,c,z1,z2,ts,hd,hm,hc,hts,h0=>by
  have:s.ae.length<=i:=by simpa using hd
  have hq:¬((i:Int)<(s.ae.length:Int)):=by omega
  simp only[vj,Ie,CA,hq,decide_false,Bool.false_eq_true,if_false];exact Ok.pure ⟨hc,hts⟩
 |T::x,i,m+1,c,z1,z2,ts,hd,hm,hc,hts,h0=>by
  obtain ⟨g1,g2,g3⟩:=aK hd;have hq:(i:Int)<(s.ae.length:Int):=by omega
  have hl8:=hs.len;have ht:=hs.tab (i:Int) T (by rw[aJ];exact g1)
  simp at hm;simp only[vj,Ie,hq,decide_true,if_true];refine Ok.bind (dw m c 5 hc) fun r ⟨hr,r0,r1,_⟩=> ?_
  have r1:=r1 (by omega)
  have e:r.1=((r.1.toNat:Nat):Int):=by omega
  rw[e];refine PA md (Ig (vj (CA n0) m) m) s i T g1 ht _ _ _ r.1.toNat m r.2 _ _ ts [] (by omega) hr (h0 i (Nat.le_refl _) (by rw[hts.len];omega)) (by simp;omega) (by simp) (by simp[Ord]) fun c' z1' z2' rows' k1 k2 k3 k4=> ?_
  unfold Ig;rw[aY g3 (by omega)]
  refine Pz md n0 s hs x (i+1) m c' _ _ _ g2 (by omega) k1 ⟨by rw[List.length_set];exact hts.len,fun t T' rows hT' dH=> ?_,fun t T' rows hT' dH=> ?_⟩ fun t h1 h2=> ?_
  ·by_cases hti:t=i
   ·subst hti;rw[g1] at hT';cases hT';rw[List.getElem?_set_self (by rw[hts.len];omega)] at dH
    cases dH;exact ⟨k2,k3⟩
   ·rw[List.getElem?_set_ne (fun e=>hti e.symm)] at dH
    exact hts.row t T' rows hT' dH
  ·by_cases hti:t=i
   ·subst hti;rw[g1] at hT';cases hT';rw[List.getElem?_set_self (by rw[hts.len];omega)] at dH
    cases dH;exact k4
   ·rw[List.getElem?_set_ne (fun e=>hti e.symm)] at dH
    exact hts.ord t T' rows hT' dH
  ·rw[List.getElem?_set_ne (by omega)]
   rw[List.length_set] at h2;exact h0 t (by omega) h2
 |_,_,0,_,_,_,_,_,hm,_,_,_=>by omega
theorem amx (md:Int) (n:Nat) (hn:5000<=n) (s:ag) (hs:SOK s) (c:ak) (hc:aT c):Ok (F11 n c s md) fun r=>aT r.2/\StG md s r.1.ae:=by
 have hl8:=hs.len;have e:lE (s.ae.length:Int) ([]:Wq8)=some (List.replicate s.ae.length []):=by
  unfold lE;rw[if_pos (by omega)];rfl
 unfold F11 TQ;rw[e,Option.bind_some];refine Pz md n s hs s.ae 0 n c _ _ _ rfl (by omega) hc ⟨by simp,fun t T rows hT dH=> ?_,fun t T rows hT dH=> ?_⟩ fun t _ h=> ?_
 ·obtain ⟨h1,h2⟩:=List.getElem?_eq_some_iff.1 dH;simp at h2;subst h2;simp
 ·obtain ⟨h1,h2⟩:=List.getElem?_eq_some_iff.1 dH;simp at h2;subst h2;simp[Ord]
 ·rw[List.length_replicate] at h;simp[h]
def xk (md:Int) (s:ag) (k:KW) (n10:Int) (N:Nat) (Q:Wq3×ak->Prop):Prop:=∀c st ws,aT c->StG md s st.ae->eH s none ws=0->ws.length<=N->Ok (k (w64 (n10-1)) c s st ws) Q
theorem yP (md:Int) (s:ag) (hs:SOK s) (k:KW) (N:Nat) (hN:N<=100) (Q:Wq3×ak->Prop) (n10 a1':Int) (hk:xk md s k n10 (N+1) Q) (a1:Wq1) (a2:Int) (c:ak) (hc:aT c) (st:ai) (hst:StG md s st.ae) (ws:Wq3) (hws:eH s none ws=0) (hl:ws.length<=N) (w:aA) (hw:my s w) (n0:Nat):∀(i m at_:Nat) (tw:Bool) (cs:Wq0) (vs:Wq2),i<=ws.length->i+100<m->at_<=ws.length->i<=at_->
  (∀j y,i<=j->j<at_->ws[j]? =some y->gA w.au w.aq y.au y.aq≠ -1)->(∀y,ws[at_]? =some y->gA w.au w.aq y.au y.aq= -1)->(tw=false->∀j y,i<=j->ws[j]? =some y->gA w.au w.aq y.au y.aq≠0)->
  Ok (yQ (Ij k n0) m n10 (at_:Int) tw ((i:Int)-1) a1 a2 c s st ws ⟨w.fOp,w.au,w.aq,cs,vs⟩ w.ah w.aF) Q
 |0,m+1,at_,tw,cs,vs,hi,hm,ha,hia,p1,p2,p3=>by
  have hq:((0:Nat):Int)-1<0:=by omega
  simp only[yQ,Ik,Ij,hq,decide_true,Bool.not_true,Bool.false_eq_true,if_false];refine Ok.ite (fun htw=> ?_) fun _=>hk c st ws hc hst hws (by omega)
  have htw:tw=false:=by simpa using htw
  have p3:=p3 htw;have e1:gd ws.length (at_:Int)=some at_:=by unfold gd;rw[if_pos (by omega)];rfl
  have e2:iQ ws.length (at_:Int)=some at_:=by unfold iQ;rw[if_pos (by omega)];rfl
  have e3:(ws.drop (0+at_)).take (ws.length-at_)=ws.drop at_:=by rw[Nat.zero_add];exact List.take_of_length_le (by simp)
  simp only[e1,e2,Option.bind_some,e3];rw[cB _ _ (by simp;omega),Option.bind_some]
  have e4:oB ws at_ ([w]++ws.drop at_)=some (ws.take at_++([w]++ws.drop at_)):=by unfold oB;rw[if_pos (by simp;omega)]
  rw[show (aA.mk w.fOp w.au w.aq w.ah w.aF)=w from rfl,e4,Option.bind_some];refine hk c st _ hc hst ?_ (by simp;omega)
  show eH s none (ws.take at_++w::ws.drop at_)=0;refine EK hw (fun y hy=> ?_) (by rw[List.take_append_drop];exact hws) ?_
  ·rw[List.head?_drop] at hy;have:=p2 y hy;simp only[nv,this];rfl
  ·rw[E6];split
   ·rfl
   ·rename_i hne;have hat:0<at_:=by
     rcases Nat.eq_zero_or_pos at_ with h|h
     ·subst h;simp at hne
     ·exact h
    have hlen:(ws.take at_).length=at_:=by rw[List.length_take];omega
    rw[hlen,List.getElem?_take,if_pos (by omega)]
    have hg:ws[at_-1]? =some (ws[at_-1]'(by omega)):=List.getElem?_eq_getElem _
    rw[hg];generalize ws[at_-1]=y at hg;have q1:=p1 (at_-1) y (by omega) (by omega) hg
    have q2:=p3 (at_-1) y (by omega) hg
    have q3:=Sl w.au w.aq y.au y.aq;have q4:=aaa w.au w.aq y.au y.aq;have:gA y.au y.aq w.au w.aq<0:=by omega
    simp[nv,this]
 |i+1,m+1,at_,tw,cs,vs,hi,hm,ha,hia,p1,p2,p3=>by
  have hq:¬(((i+1:Nat):Int)-1<0):=by omega
  have e:((i+1:Nat):Int)-1=(i:Int):=by omega
  have e1:bnd ws.length (((i+1:Nat):Int)-1)=some i:=by rw[e];unfold bnd;rw[if_pos (by omega)];rfl
  have e2:ws[0+i]? =some (ws[i]'(by omega)):=by rw[Nat.zero_add];exact List.getElem?_eq_getElem _
  have hg:ws[i]? =some (ws[i]'(by omega)):=List.getElem?_eq_getElem _
  generalize ws[i]=y at e2 hg;have hkl:=z7 hs hw;have hw2:w64 (((i+1:Nat):Int)-1-1)=(i:Int)-1:=by rw[bI (by omega) (by omega)];omega
  simp only[yQ,Ik,hq,decide_false,Bool.not_false,if_true,e1,e2,Option.bind_some,XX m w.au y.au w.aq y.aq (by omega) (by omega),hw2]
  refine Ok.ite (fun h0=> ?_) fun h0=> ?_
  ·have h0:gA w.au w.aq y.au y.aq=0:=by simpa using h0
   refine yP md s hs k N hN Q n10 a1' hk a1 a2 c hc st hst ws hws hl w hw n0 i m at_ true _ _ (by omega) (by omega) ha (by omega) (fun j z h1 h2 hz=> ?_) p2 (fun h=>by cases h)
   by_cases hj:j=i
   ·subst hj;rw[hg] at hz;cases hz;omega
   ·exact p1 j z (by omega) h2 hz
  ·have h0:gA w.au w.aq y.au y.aq≠0:=by simpa using h0
   have p3':tw=false->∀j z,i<=j->ws[j]? =some z->gA w.au w.aq z.au z.aq≠0:=fun h j z h1 hz=>by
    by_cases hj:j=i
    ·subst hj;rw[hg] at hz;cases hz;exact h0
    ·exact p3 h j z (by omega) hz
   refine Ok.ite (fun h1=> ?_) fun h1=> ?_
   ·have h1:gA w.au w.aq y.au y.aq= -1:=by simpa using h1
    rw[e];refine yP md s hs k N hN Q n10 a1' hk a1 a2 c hc st hst ws hws hl w hw n0 i m i tw _ _ (by omega) (by omega) (by omega) (Nat.le_refl _) (fun j z h1 h2=>by omega) (fun z hz=>by rw[hg] at hz;cases hz;exact h1) p3'
   ·have h1:gA w.au w.aq y.au y.aq≠ -1:=by simpa using h1
    refine yP md s hs k N hN Q n10 a1' hk a1 a2 c hc st hst ws hws hl w hw n0 i m at_ tw _ _ (by omega) (by omega) ha (by omega) (fun j z h2 h3 hz=> ?_) p2 p3'
    by_cases hj:j=i
    ·subst hj;rw[hg] at hz;cases hz;exact h1
    ·exact p1 j z (by omega) h3 hz
 |_,0,_,_,_,_,_,hm,_,_,_,_,_=>by omega
theorem PY (md:Int) (s:ag) (hs:SOK s) (k:KW) (N:Nat) (hN:N<=100) (Q:Wq3×ak->Prop) (n10:Int) (hk:xk md s k n10 (N+1) Q) (a1:Wq1) (a2:Int) (c:ak) (hc:aT c) (st:ai) (hst:StG md s st.ae) (ws:Wq3) (hws:eH s none ws=0) (hl:ws.length<=N) (w:aA) (hw:my s w) (n:Nat) (hn:1000<n) (cs:Wq0) (vs:Wq2):
  Ok (vk k n n10 a1 a2 c s st ws ⟨w.fOp,w.au,w.aq,cs,vs⟩ w.ah w.aF) Q:=by
 unfold vk;rw[bI (by omega) (by omega)]
 exact yP md s hs k N hN Q n10 0 hk a1 a2 c hc st hst ws hws hl w hw n ws.length n ws.length false _ _ (Nat.le_refl _) (by omega) (Nat.le_refl _) (Nat.le_refl _) (fun j y h1 h2=>by omega) (fun y hy=>by rw[List.getElem?_eq_none (Nat.le_refl _)] at hy;cases hy) (fun _ j y h1 hy=>by have:=(List.getElem?_eq_some_iff.1 hy).1;omega)
theorem afc (md:Int) (s:ag) (hs:SOK s) (k:KW) (N:Nat) (hN:N<=100) (Q:Wq3×ak->Prop) (n10:Int) (hk:xk md s k n10 (N+1) Q) (a1:Wq1) (a2:Int) (st:ai) (hst:StG md s st.ae) (ws:Wq3) (hws:eH s none ws=0) (hl:ws.length<=N) (t:Int) (T:av) (hT:idx s.ae t=some T) (row:Wq2) (fM:bf (aS T) row=true) (key:Wq2) (mu:bf (lL T) key=true) (op:Int) (hop:op=2\/op=3) (n0:Nat) (hn0:1000<n0):∀(x:Wq2) (i m:Nat) (c:ak) (cs0 cs:Wq0) (vs0 vs:Wq2) (l:Wq0),row.drop i=x->x.length<m->aT c->cS (aS T) (T.aq-1) cs=some l->bf l vs=true->Bu (T.aq-1) cs<(i:Int)->cs.length<=i->vs.length<=i->(op=3->cs= []/\vs= [])->
  Ok (yR (vk k n0) m n10 (i:Int) a1 a2 c s st ws row ⟨op,t,key,cs0,vs0⟩ cs vs) Q:=by
 have ht:=hs.tab _ _ hT;have hcl:=ht.aB;have hkl:=bW T;have hrl:=fK fM;have k1:=ht.hZ;have fin:∀(c:ak) (cs0 cs:Wq0) (vs0 vs:Wq2) (l:Wq0),aT c->cS (aS T) (T.aq-1) cs=some l->bf l vs=true->(op=3->cs= []/\vs= [])->Ok (vk k n0 n10 a1 a2 c s st ws ⟨op,t,key,cs0,vs0⟩ cs vs) Q:=by
  intro c cs0 cs vs0 vs l hc h1 h2 h3;refine PY md s hs k N hN Q n10 hk a1 a2 c hc st hst ws hws hl ⟨op,t,key,cs,vs⟩ ⟨T,hT,by simp only;omega,?_⟩ n0 hn0 _ _
  rcases hop with rfl|rfl
  ·simp[wOK,mu,gm,h1,h2]
  ·obtain ⟨rfl,rfl⟩:=h3 rfl;simp[wOK,mu,gm]
 intro x;induction x with
 |nil=>
  intro i m c cs0 cs vs0 vs l hd hm hc h1 h2 h3 _ _ h4;obtain ⟨m,rfl⟩:∃m',m=m'+1:=⟨m-1,by simp at hm;omega⟩
  have hq':row.length<=i:=by simpa using hd
  have hq:¬((i:Int)<(row.length:Int)):=by omega
  simp only[yR,Il,hq,decide_false,Bool.false_eq_true,if_false];exact fin c _ cs _ vs l hc h1 h2 h4
 |cons v x ih=>
  intro i m c cs0 cs vs0 vs l hd hm hc h1 h2 h3 hcs hvs h4;obtain ⟨m,rfl⟩:∃m',m=m'+1:=⟨m-1,by simp at hm;omega⟩
  obtain ⟨g1,g2,g3⟩:=aK hd;have hq:(i:Int)<(row.length:Int):=by omega
  simp only[yR,Il,hq,decide_true,if_true];refine Ok.ite (fun ho=> ?_) fun _=>fin c _ cs _ vs l hc h1 h2 h4
  have ho:op=2:=by simpa using ho
  refine Ok.bind (iM m c 2 hc) fun b hb=> ?_
  rw[aY g3 (by omega)]
  refine Ok.ite (fun _=> ?_) fun _=> ?_
  ·have e1:bnd row.length (i:Int)=some i:=by unfold bnd;rw[if_pos (by omega)];rfl
   obtain ⟨kk,q1,q2,q3⟩:=J0 fM g1;rw[cB _ _ (by simp;omega),Option.bind_some,e1,Option.bind_some,Nat.zero_add,g1,Option.bind_some,cB _ _ (by simp;omega),Option.bind_some]
   refine ih (i+1) m b.2 _ _ _ _ (l++ [kk]) g2 (by simp at hm;omega) hb (B3 _ h1 h3 (by omega) (by simpa using q1)) (vK h2 q2 q3) (by rw[Bt];omega) (by simp;omega) (by simp;omega) (fun h=>by omega)
  ·exact ih (i+1) m b.2 _ _ _ _ l g2 (by simp at hm;omega) hb h1 h2 (by omega) (by omega) (by omega) h4
theorem afl (md:Int) (s:ag) (hs:SOK s) (k:KW) (N:Nat) (hN:N<=100) (Q:Wq3×ak->Prop) (n10:Int) (hk:xk md s k n10 (N+1) Q) (a1:Wq1) (a2:Int) (c:ak) (hc:aT c) (st:ai) (hst:StG md s st.ae) (ws:Wq3) (hws:eH s none ws=0) (hl:ws.length<=N) (t:Nat) (T:av) (hT:s.ae[t]? =some T) (row:Wq2) (fM:bf (aS T) row=true) (n:Nat) (hn:2000<n):
  Ok (za k n n10 (t:Int) a1 a2 c s st ws row) Q:=by
 have hTi:idx s.ae (t:Int)=some T:=by rw[aJ];exact hT
 have ht:=hs.tab _ _ hTi;have hcl:=ht.aB;have hkl:=bW T;have hrl:=fK fM;have k1:=ht.hZ;have k2:=ht.bO;have htl:t<s.ae.length:=(List.getElem?_eq_some_iff.1 hT).1;have hsl:t<st.ae.length:=by rw[hst.len];exact htl
 have dH:st.ae[t]? =some st.ae[t]:=List.getElem?_eq_getElem hsl;generalize st.ae[t]=rows at dH;obtain ⟨r1,r2⟩:=hst.row t T rows hT dH;have e1:gd row.length T.aq=some T.aq.toNat:=by unfold gd;rw[if_pos (by omega)]
 have mu:bf (lL T) (row.take T.aq.toNat)=true:=EV _ fM;unfold za;rw[hTi,Option.bind_some];simp only[e1,Option.bind_some,List.drop_zero];rw[cB _ _ (by simp;omega),Option.bind_some,List.nil_append]
 refine Ok.bind (ahT n (by omega) s t T hT ht _ st rows dH (by omega) (fun r h=>dT (r2 r h))) fun f _=> ?_
 refine Ok.bind (iM n c 8 hc) fun b hb=> ?_
 refine Ok.ite (fun _=> ?_) fun _=> ?_
 ·refine Ok.bind (dw n b.2 2 hb) fun o ⟨ho,o0,o1,_⟩=> ?_
  have o1:=o1 (by omega)
  rw[bI (by omega) (by omega)]
  have e:T.aq=((T.aq.toNat:Nat):Int):=by omega
  rw[e];exact afc md s hs k N hN Q n10 hk a1 a2 st hst ws hws hl (t:Int) T hTi row fM _ mu (2+o.1) (by omega) n (by omega) (row.drop T.aq.toNat) T.aq.toNat n o.2 [] [] [] [] [] rfl (by simp;omega) ho rfl rfl (by simp only[Bu];omega) (by simp) (by simp) (fun _=>⟨rfl,rfl⟩)
 ·refine PY md s hs k N hN Q n10 hk a1 a2 b.2 hb st hst ws hws hl ⟨1,(t:Int),row.take T.aq.toNat,[],row⟩ ⟨T,hTi,by simp,?_⟩ n (by omega) [] row
  simp[wOK,mu,gm,fM,l4]
theorem PD (md:Int) (s:ag) (hs:SOK s) (sd:2<=s.ae.length) (n0:Nat):∀(j m:Nat) (c:ak) (st:ai) (ws:Wq3),j+3000<m->aT c->StG md s st.ae->eH s none ws=0->ws.length+j<=50->
  Ok (rQ (y9 n0) m (j:Int) c s st ws) fun r=>aT r.2/\eH s none r.1=0/\r.1.length<=ws.length+j
 |0,m+1,c,st,ws,hm,hc,hst,hws,hl=>by
  have hq:¬(0:Int)<((0:Nat):Int):=by omega
  simp only[rQ,Ii,y9,hq,decide_false,Bool.false_eq_true,if_false];exact Ok.pure ⟨hc,hws,by simp⟩
 |j+1,m+1,c,st,ws,hm,hc,hst,hws,hl=>by
  have hq:(0:Int)<((j+1:Nat):Int):=by omega
  have hq2:(0:Int)<(s.ae.length:Int):=by omega
  have hl8:=hs.len;simp only[rQ,Ii,hq,hq2,decide_true,if_true];refine Ok.bind (dw m c _ hc) fun t ⟨ht,t0,t1,_⟩=> ?_
  have t1:=t1 (by omega)
  obtain ⟨tn,te⟩:∃tn:Nat,t.1=(tn:Int):=⟨t.1.toNat,by omega⟩
  rw[te];have htn:tn<s.ae.length:=by omega
  have hT:s.ae[tn]? =some s.ae[tn]:=List.getElem?_eq_getElem htn;generalize s.ae[tn]=T at hT;have hTi:idx s.ae (tn:Int)=some T:=by rw[aJ];exact hT
  have hto:=hs.tab _ _ hTi;have hcl:=hto.aB;have hkl:=bW T;have k1:=hto.hZ;have k2:=hto.bO;have hsl:tn<st.ae.length:=by rw[hst.len];exact htn
  have dH:st.ae[tn]? =some st.ae[tn]:=List.getElem?_eq_getElem hsl;generalize st.ae[tn]=rows at dH;obtain ⟨r1,r2⟩:=hst.row tn T rows hT dH;rw[tC hTi (by omega) (by omega:1000<m),Option.bind_some,hTi,Option.bind_some]
  refine Ok.bind (ahU m (by omega) t.2 (aS T) T.aq hto.ks (by omega) ht) fun r ⟨h1,h2⟩=> ?_
  have hrl:=fK h2;rw[aJ,dH,Option.bind_some];have hw:w64 (((j+1:Nat):Int)-1)=(j:Int):=by rw[bI (by omega) (by omega)];omega
  have hk:xk md s (rQ (y9 n0) m) ((j+1:Nat):Int) (ws.length+1) fun r=>aT r.2/\eH s none r.1=0/\r.1.length<=ws.length+(j+1):=by
   intro c' st' ws' h1 h2 h3 h4;rw[hw];exact (PD md s hs sd n0 j m c' st' ws' (by omega) h1 h2 h3 (by omega)).mono fun q ⟨q1,q2,q3⟩=>⟨q1,q2,by omega⟩
  have fin:=fun c' (hc':aT c') row fM=>afl md s hs (rQ (y9 n0) m) ws.length (by omega) _ ((j+1:Nat):Int) hk s.ae (s.ae.length:Int) c' hc' st hst ws hws (Nat.le_refl _) tn T hT row fM m (by omega)
  refine Ok.ite (fun hne=> ?_) fun _=>fin _ h1 _ h2
  refine Ok.bind (iM m r.2 3 h1) fun b hb=> ?_
  refine Ok.ite (fun _=> ?_) fun _=>fin _ hb _ h2
  simp at hne;refine Ok.bind (dw m b.2 (rows.length:Int) hb) fun q ⟨hq',q0,q1,_⟩=> ?_
  have q1:=q1 (by omega)
  have hg:idx rows q.1=some (rows[q.1.toNat]'(by omega)):=by unfold idx;rw[if_pos q0];exact List.getElem?_eq_getElem _
  have hold:=r2 _ (List.getElem_mem (by omega:q.1.toNat<rows.length))
  generalize rows[q.1.toNat]=old at hg hold;have hol:=dT hold;rw[hg,Option.bind_some,oh (n:=m) hTi hto old (by omega),Option.bind_some]
  have ui:r.1≠ []:=fun e=>by rw[e] at hrl;simp at hrl;omega
  have hcp:cpy r.1 (old.take T.aq.toNat)=some (old.take T.aq.toNat++r.1.drop T.aq.toNat):=by
   unfold cpy;rw[if_neg ui];have:min (old.take T.aq.toNat).length r.1.length=T.aq.toNat:=by simp;omega
   rw[this,List.take_take,Nat.min_self]
  rw[hcp,Option.bind_some];exact fin _ hq' _ (mixM _ hto.ks hold h2 (by omega))
 |_,0,_,_,_,hm,_,_,_,_=>by omega
theorem amy (md:Int) (n:Nat) (hn:5000<=n) (s:ag) (hs:SOK s) (sd:2<=s.ae.length) (c:ak) (hc:aT c) (st:ai) (hst:StG md s st.ae) (YN:Nat) (hmost:YN<=10):Ok (F10 n c s st (YN:Int)) fun r=>aT r.2/\eH s none r.1=0/\r.1.length<=YN:=by
 unfold F10 TR;rw[bI (by omega) (by omega)]
 refine Ok.bind (dw n c _ hc) fun r ⟨hr,r0,r1,_⟩=> ?_
 have r1:=r1 (by omega)
 have e:r.1=((r.1.toNat:Nat):Int):=by omega
 rw[e];exact (PD md s hs sd n r.1.toNat n r.2 st [] (by omega) hr hst rfl (by simp;omega)).mono fun q ⟨q1,q2,q3⟩=>⟨q1,q2,by simp at q3;omega⟩
end
section
section
variable {s:ag} {t n:Nat} {T:av} {md:Int} {ts:cN} {rows:Wq8} {key row r:Wq2} {p:Nat}
theorem ahJ (rows:Wq8) (ht:cn T) (w:aA) (i:Nat) (r:Wq2) (hg:rows[i]? =some r) (hr:r.length=T.ah.length) (hl:rows.length<=1000000) (hn:1000<n):F64 n (i:Int) rows T.aq w=some (!decide (bZ (kOf T r) w.aq<0),rows,T.aq,w):=by
 have h8:=ht.aB;have k1:=ht.hZ;have k2:=ht.bO;have hi:=(List.getElem?_eq_some_iff.1 hg).1;have e1:bnd rows.length (i:Int)=some i:=by unfold bnd;rw[if_pos (by omega)];rfl
 have e:T.aq=((T.aq.toNat:Nat):Int):=by omega
 unfold F64 Ti;rw[e1,Option.bind_some,Nat.zero_add,hg,Option.bind_some,tg (by omega) (by omega),Option.bind_some,xa n _ _ (by simp;omega) (by simp;omega),Option.bind_some]
theorem ME (n0:Nat) (ht:cn T) (w:aA) (rows:Wq8) (hl:rows.length<=1000000) (hr:∀r∈rows,r.length=T.ah.length) (hO:Ord T rows):
  ∀(d i j m:Nat),j-i<=d->d+1000<m->i<=j->j<=rows.length->(∀k r,rows[k]? =some r->k<i->lt (kOf T r) w.aq)->(∀k r,rows[k]? =some r->j<=k->¬lt (kOf T r) w.aq)->
   ∃p,Place T w.aq rows p/\yu (Hi n0) m (i:Int) (j:Int) T.aq w rows=some ((p:Int),rows,T.aq,w)
 |d,i,j,0,_,hm,_,_,_,_=>by omega
 |d,i,j,m+1,hd,hm,hij,hj,hlo,hhi=>by
  by_cases h:i<j
  ·have hq:(i:Int)<(j:Int):=by omega
   have hh:(i+j) / 2<rows.length:=by omega
   have hg:rows[(i+j) / 2]? =some rows[(i+j) / 2]:=List.getElem?_eq_getElem hh;have hrl:=hr _ (List.getElem_mem hh);have es:nr rows.length rows.length=some ():=by unfold nr;rw[if_pos rfl]
   simp only[yu,Hj,hq,decide_true,if_true,half i j (by omega),ahJ (n:=m) rows ht w _ _ hg hrl hl (by omega),Option.bind_some,es]
   by_cases hc':bZ (kOf T rows[(i+j) / 2]) w.aq<0
   ·have e:w64 ((((i+j) / 2:Nat):Int)+1)=(((i+j) / 2+1:Nat):Int):=by rw[bI (by omega) (by omega)];rfl
    simp only[hc',decide_true,Bool.not_true,Bool.not_false,if_true,e];refine ME n0 ht w rows hl hr hO (d-1) ((i+j) / 2+1) j m (by omega) (by omega) (by omega) hj (fun k r hk hlt=> ?_) hhi
    by_cases hk':k=(i+j) / 2
    ·subst hk';rw[hg] at hk;cases hk;exact l5.1 hc'
    ·exact lt_trans (hO.get hk hg (by omega)) (l5.1 hc')
   ·simp only[hc',decide_false,Bool.not_false,Bool.not_true,Bool.false_eq_true,if_false];refine ME n0 ht w rows hl hr hO (d-1) i ((i+j) / 2) m (by omega) (by omega) (by omega) (by omega) hlo (fun k r hk hle=> ?_)
    by_cases hk':k=(i+j) / 2
    ·subst hk';rw[hg] at hk;cases hk;exact fun h=>hc' (l5.2 h)
    ·exact fun h=>hc' (l5.2 (lt_trans (hO.get hg hk (by omega)) h))
  ·have e:i=j:=by omega
   subst e;have hq:¬((i:Int)<(i:Int)):=by omega
   refine ⟨i,⟨hj,hlo,hhi⟩,?_⟩;simp only[yu,Hj,Hi,hq,decide_false,Bool.false_eq_true,if_false]
theorem ahK (ht:cn T) (w:aA) (rows:Wq8) (hl:rows.length<=100000) (hr:∀r∈rows,r.length=T.ah.length) (hO:Ord T rows) (hn:200000<n):
  ∃p,Place T w.aq rows p/\F63 n (rows.length:Int) rows T.aq w=some ((p:Int),rows,T.aq,w):=by
 obtain ⟨p,h1,h2⟩:=ME n ht w rows (by omega) hr hO rows.length 0 rows.length n (by omega) (by omega) (by omega) (Nat.le_refl _) (fun k r _ h=>by omega) (fun k r hk h=>by
  have:=(List.getElem?_eq_some_iff.1 hk).1;omega)
 refine ⟨p,h1,?_⟩;unfold F63 Tj;rw[show (0:Int)=((0:Nat):Int) from rfl];exact h2
theorem Place.lo' (hp:Place T key rows p):∀r∈rows.take p,lt (kOf T r) key:=fun r hr'=>by
 obtain ⟨k,hk,rfl⟩:=List.mem_iff_getElem.1 hr';rw[List.length_take] at hk;exact hp.lo k _ (by rw[List.getElem_take];exact List.getElem?_eq_getElem _) (by omega)
theorem Place.ins (hp:Place T key rows p) (hn:∀r∈rows,kOf T r≠key) (N:Wq8):cF T key N rows=rows.take p++N++rows.drop p:=by
 rw[<-Yt (k:=key) (N:=N) hp.lo' (B:=rows.drop p) (fun r hr'=>by
  obtain ⟨k,hk⟩:=List.getElem?_of_mem hr';rw[List.getElem?_drop] at hk;rcases vX (kOf T r) key with h|h|h
  ·exact absurd h (hp.hi (p+k) r hk (by omega))
  ·exact absurd h (hn r (List.mem_of_getElem? hk))
  ·exact h),List.take_append_drop]
theorem Place.at (hp:Place T key rows p) (hO:Ord T rows) (hk:rows[p]? =some r) (he:kOf T r=key) (N:Wq8):cF T key N rows=rows.take p++N++rows.drop (p+1):=by
 have hs:rows=rows.take p++r::rows.drop (p+1):=by
  obtain ⟨h3,h4⟩:=List.getElem?_eq_some_iff.1 hk;rw[<-h4,<-List.drop_eq_getElem_cons h3,List.take_append_drop]
 conv=>lhs;rw[hs]
 exact EX hp.lo' he (fun r' hr'=>by
  obtain ⟨k,hk'⟩:=List.getElem?_of_mem hr';rw[List.getElem?_drop] at hk';rw[<-he];exact hO.get hk hk' (by omega))
theorem Place.got (hp:Place T key rows p) (hO:Ord T rows):(∃r,rows[p]? =some r/\kOf T r=key/\dy T key rows=some r)\/(dy T key rows=none/\∀r,rows[p]? =some r->kOf T r≠key):=by
 cases hg:dy T key rows with
 |none=>exact .inr ⟨rfl,fun r hr=>iE.1 hg r (List.mem_of_getElem? hr)⟩
 |some r=>
  left;have hm:=kf hg;have hk:=lO hg;obtain ⟨j,hj⟩:=List.getElem?_of_mem hm;have hpj:p<=j:=by
   by_cases h:p<=j
   ·exact h
   ·exact absurd (hp.lo j _ hj (by omega)) (by rw[hk];exact lt_irrefl _)
  by_cases e:p=j
  ·subst e;exact ⟨r,hj,hk,rfl⟩
  ·have hlt:p<rows.length:=by have:=(List.getElem?_eq_some_iff.1 hj).1;omega
   exact absurd (hO.get (List.getElem?_eq_getElem hlt) hj (by omega)) (by rw[hk];exact hp.hi p _ (List.getElem?_eq_getElem hlt) (Nat.le_refl _))
def ovW (s:ag) (ts:cN) (w:aA):cN:=
 match idx s.ae w.au,idx ts w.au with
 |some T,some rows=>
  match dy T w.aq rows with
  |none=>if w.fOp=1/\total ts<512 then ts.set w.au.toNat (cF T w.aq [w.aF] rows) else ts
  |some r=>if w.fOp=2 then ts.set w.au.toNat (cF T w.aq [dg r w.ah w.aF] rows) else if w.fOp=3 then ts.set w.au.toNat (cF T w.aq [] rows) else ts
 |_,_=>ts
theorem On {key:Int} {ks:Wq0}:∀{cs l:Wq0} {vs:Wq2} {last:Int} {r:Wq2}, -1<=last->cS ks last cs=some l->bf l vs=true->cf md key 0 ks r=true->cf md key 0 ks (dg r cs vs)=true/\(dg r cs vs).take (last+1).toNat=r.take (last+1).toNat
 | [],l,vs,last,r,_,h,hl,hr=>by simp[dg,hr]
 |c::cs,l,vs,last,r,adp,h,hl,hr=>by
  simp only[cS] at h;split at h
  ·rename_i hc;cases h3:cS ks c cs with
   |none=>rw[h3] at h;cases h
   |some l'=>
    rw[h3] at h;simp at h;subst h;cases vs with
    |nil=>simp[bf] at hl
    |cons v vs=>
     simp only[bf,Bool.and_eq_true,beq_iff_eq] at hl;have hlt:c.toNat<ks.length:=by omega
     have hk:ks[c.toNat]? =some ks[c.toNat]:=List.getElem?_eq_getElem hlt;rw[hk] at hl;have hr':=JX (j:=c.toNat) hr hk hl.1.1 hl.1.2;obtain ⟨a,b⟩:=On (by omega) h3 hl.2 hr'
     refine ⟨a,?_⟩;simp only[dg];have e:(last+1).toNat=min (last+1).toNat (c+1).toNat:=by omega
     rw[e,<-List.take_take,b,List.take_take,<-e,List.take_set_of_le (by omega)]
  ·cases h
theorem X7 {w:aA} (ht:cn T) (h:wOK T w=true) (h2:w.fOp=2) (hr:cf md T.aq 0 (aS T) r=true):cf md T.aq 0 (aS T) (dg r w.ah w.aF)=true/\kOf T (dg r w.ah w.aF)=kOf T r:=by
 have k1:=ht.hZ;simp only[wOK,gm,Bool.and_eq_true] at h;have h:=h.2;rw[if_neg (by omega),if_pos h2] at h
 split at h
 ·rename_i l hl;obtain ⟨a,b⟩:=On (md:=md) (key:=T.aq) (r:=r) (by omega) hl h hr
  refine ⟨a,?_⟩;rw[show T.aq-1+1=T.aq by omega] at b
  exact b
 ·cases h
theorem StM.at (hs:SOK s) (h:StM md s ts) {w:aA} (hg:my s w):∃(t:Nat) (T:av) (rows:Wq8),w.au=(t:Int)/\s.ae[t]? =some T/\cn T/\ts[t]? =some rows/\(∀r∈rows,cf md T.aq 0 (aS T) r=true)/\Ord T rows/\wOK T w=true/\idx s.ae w.au=some T/\idx ts w.au=some rows:=by
 obtain ⟨T,hT,hop,hok⟩:=hg;obtain ⟨i1,i2,i3⟩:=nY hT;have hlt:w.au.toNat<ts.length:=by rw[h.len];exact i2
 have hr:ts[w.au.toNat]? =some ts[w.au.toNat]:=List.getElem?_eq_getElem hlt;obtain ⟨r1,r2⟩:=h.row _ T _ i3 hr;exact ⟨w.au.toNat,T,_,by omega,i3,hs.tab _ _ hT,hr,r1,r2,hok,hT,by unfold idx;rw[if_pos i1];exact hr⟩
theorem StM.set (h:StM md s ts) (hT:s.ae[t]? =some T) {rows':Wq8} (h1:∀r∈rows',cf md T.aq 0 (aS T) r=true) (h2:Ord T rows'):StM md s (ts.set t rows'):=by
 refine ⟨by rw[List.length_set];exact h.len,fun u U rs hU hrs=> ?_⟩
 have hlt:=(List.getElem?_eq_some_iff.1 hT).1;by_cases e:u=t
 ·subst e;rw[hT] at hU;cases hU;rw[List.getElem?_set_self (by rw[h.len];exact hlt)] at hrs
  cases hrs;exact ⟨h1,h2⟩
 ·rw[List.getElem?_set_ne (fun e'=>e e'.symm)] at hrs
  exact h.row u U rs hU hrs
theorem StM.put (h:StM md s ts) (hT:s.ae[t]? =some T) (hr:ts[t]? =some rows) {N:Wq8} (hN:N= []\/∃y,N= [y]/\kOf T y=key/\cf md T.aq 0 (aS T) y=true):StM md s (ts.set t (cF T key N rows)):=by
 obtain ⟨r1,r2⟩:=h.row t T rows hT hr;refine h.set hT (fun y hy=> ?_) (tV r2 (hN.imp id fun ⟨y,a,b,_⟩=>⟨y,a,b⟩))
 rcases lG.1 hy with hy|hy
 ·exact r1 y hy.1
 ·rcases hN with rfl|⟨z,rfl,_,hz⟩
  ·simp at hy
  ·rw[List.mem_singleton.1 hy];exact hz
theorem qW (hO:Ord T rows) (hr:r∈rows) (he:kOf T r=key) (N:Wq8):(cF T key N rows).length+1=rows.length+N.length:=by
 obtain ⟨j,hj⟩:=List.getElem?_of_mem hr;have hjl:=(List.getElem?_eq_some_iff.1 hj).1;have hs:rows=rows.take j++r::rows.drop (j+1):=by
  obtain ⟨h3,h4⟩:=List.getElem?_eq_some_iff.1 hj;rw[<-h4,<-List.drop_eq_getElem_cons h3,List.take_append_drop]
 have e:cF T key N rows=rows.take j++N++rows.drop (j+1):=by
  conv=>lhs;rw[hs]
  refine EX (fun y hy=> ?_) he fun y hy=> ?_
  ·obtain ⟨k,hk⟩:=List.getElem?_of_mem hy;have hkl:=(List.getElem?_eq_some_iff.1 hk).1;rw[List.length_take] at hkl;rw[List.getElem?_take,if_pos (by omega)] at hk
   rw[<-he];exact hO.get hk hj (by omega)
  ·obtain ⟨k,hk⟩:=List.getElem?_of_mem hy;rw[List.getElem?_drop] at hk;rw[<-he];exact hO.get hj hk (by omega)
 rw[e];simp;omega
theorem OJ (hn:∀r∈rows,kOf T r≠key) (N:Wq8):(cF T key N rows).length=rows.length+N.length:=by
 have bO:∀rs:Wq8,(∀r∈rs,kOf T r≠key)->(rs.filter fun r=>decide (lt (kOf T r) key)).length+(rs.filter fun r=>decide (lt key (kOf T r))).length=rs.length:=by
  intro rs;induction rs with
  |nil=>simp
  |cons r rs ih=>
   intro h;have ih:=ih fun y hy=>h y (by simp[hy])
   have hne:=h r (by simp)
   rcases vX (kOf T r) key with h1|h1|h1
   ·have h2:=lt_asymm h1;simp only[List.filter_cons,h1,h2,decide_true,decide_false,if_true,Bool.false_eq_true,if_false,List.length_cons];omega
   ·exact absurd h1 hne
   ·have h2:=lt_asymm h1;simp only[List.filter_cons,h1,h2,decide_true,decide_false,if_true,Bool.false_eq_true,if_false,List.length_cons];omega
 have:=bO rows hn;unfold cF;simp only[List.length_append];omega
theorem Kh (hs:SOK s) (h:StM md s ts) (ht:total ts<=512) {w:aA} (hg:my s w):StM md s (ovW s ts w)/\total (ovW s ts w)<=512:=by
 obtain ⟨t,T,rows,h1,hT,hto,hr,r1,r2,hok,hTi,hri⟩:=h.at hs hg;have htt:w.au.toNat=t:=by omega
 unfold ovW;rw[hTi,hri,htt];simp only;cases hgk:dy T w.aq rows with
 |none=>
  simp only;split
  ·rename_i hc;obtain ⟨a,b⟩:=xn hok hc.1;refine ⟨h.put hT hr (.inr ⟨_,rfl,b,OE a⟩),?_⟩;have:=jY (rows':=cF T w.aq [w.aF] rows) hr;have:=OJ (iE.1 hgk) [w.aF];simp at this;omega
  ·exact ⟨h,ht⟩
 |some r=>
  simp only;have hm:=kf hgk;have hk:=lO hgk;split
  ·rename_i h2;obtain ⟨a,b⟩:=X7 hto hok h2 (r1 r hm);refine ⟨h.put hT hr (.inr ⟨_,rfl,b.trans hk,a⟩),?_⟩;have:=jY (rows':=cF T w.aq [dg r w.ah w.aF] rows) hr;have:=qW r2 hm hk [dg r w.ah w.aF];simp at this;omega
  ·split
   ·refine ⟨h.put hT hr (.inl rfl),?_⟩;have:=jY (rows':=cF T w.aq [] rows) hr;have:=qW r2 hm hk [];simp at this;omega
   ·exact ⟨h,ht⟩
theorem Vg (hs:SOK s):∀(ws:Wq3) (ts:cN),StM md s ts->total ts<=512->(∀w∈ws,my s w)->StM md s (ws.foldl (ovW s) ts)/\total (ws.foldl (ovW s) ts)<=512
 | [],ts,h,ht,_=>⟨h,ht⟩
 |w::ws,ts,h,ht,hg=>by
  obtain ⟨a,b⟩:=Kh hs h ht (hg w (by simp))
  exact Vg hs ws _ a b fun v hv=>hg v (by simp[hv])
end
end
section
def ovR (s:ag) (e:Int) (st:ai) (ws:Wq3):ai×Int:=
 if oj s e ws=0 then (if jC 3 s e st.ae=0 then (⟨ws.foldl (ovW s) st.ae⟩,0) else (⟨[]⟩,jC 3 s e st.ae)) else (⟨[]⟩,oj s e ws)
section
variable {s:ag} {t n:Nat} {T:av} {md:Int} {ts:cN} {rows:Wq8} {key row r:Wq2} {p:Nat}
theorem ES:∀{rs:Wq8} {p:Option Wq2},ku md T p rs=true->(∀r∈rs,cf md T.aq 0 (aS T) r=true)/\(∀q,p=some q->∀r∈rs,lt (kOf T q) (kOf T r))/\Ord T rs
 | [],p,_=>by simp[Ord]
 |r::rs,p,h=>by
  simp only[ku,Bool.and_eq_true] at h;obtain ⟨h1,h2,h3⟩:=h;obtain ⟨h3,h4,h5⟩:=ES (rs:=rs) (p:=some r) h3;refine ⟨fun y hy=> ?_,fun q hq y hy=> ?_,?_⟩
  ·rcases List.mem_cons.1 hy with rfl|hy
   ·exact h1
   ·exact h3 y hy
  ·subst hq;have h2:lt (kOf T q) (kOf T r):=l5.1 (by simpa[behind] using h2)
   rcases List.mem_cons.1 hy with rfl|hy
   ·exact h2
   ·exact lt_trans h2 (h4 r rfl y hy)
  ·exact List.pairwise_cons.2 ⟨fun y hy=>h4 r rfl y hy,h5⟩
theorem EO:∀{Ts:Wq1} {rss:cN} {t:Nat} {T:av} {rows:Wq8},me md Ts rss=true->Ts[t]? =some T->rss[t]? =some rows->ku md T none rows=true
 |T'::Ts,rs::rss,0,T,rows,h,h1,h2=>by
  simp only[me,Bool.and_eq_true] at h;simp at h1 h2;subst h1;subst h2;exact h.1
 |T'::Ts,rs::rss,t+1,T,rows,h,h1,h2=>by
  simp only[me,Bool.and_eq_true] at h;exact EO h.2 (by simpa using h1) (by simpa using h2)
 | [],_,_,_,_,_,h1,_=>by simp at h1
 |_::_,[],_,_,_,_,_,h2=>by simp at h2
theorem vz {e:Int} (h:jC md s e ts=0):e=0/\StM md s ts/\total ts<=512:=by
 unfold jC at h;split at h
 ·rename_i h0;split at h
  ·omega
  ·rename_i h1;split at h
   ·rename_i h2;split at h
    ·rename_i h3;refine ⟨h0,⟨h2,fun t T rows hT hr=> ?_⟩,by omega⟩
     obtain ⟨a,_,b⟩:=ES (EO h3 hT hr);exact ⟨a,b⟩
    ·omega
   ·omega
 ·rename_i h0;exact absurd h h0
theorem MS (k:Wq3->Int->cN->Int->Int->ag->ai->ai->cN->Wq8->Option (ai×Int)) (rows:Wq8) (hl:rows.length<=1000) (hr:∀r∈rows,r.length<=1000) (b:cN) (ht:t<b.length) (hb:b.length<=1000) (ws:Wq3) (a1:cN) (a2 a3:Int):
  ∀(x:Wq8) (i m:Nat) (acc:Wq8) (z1 z2:ai),rows.drop i=x->x.length<m->acc.length+x.length<=1000->yK k m ws (t:Int) a1 a2 a3 rows (rows.length:Int) (i:Int) s z1 z2 b acc=k ws (t:Int) a1 a2 a3 s ⟨[]⟩ ⟨b⟩ b (acc++x)
 | [],i,m+1,acc,z1,z2,hd,hm,ha=>by
  have hq':rows.length<=i:=by simpa using hd
  have hq:¬((i:Int)<(rows.length:Int)):=by omega
  simp only[yK,H7,hq,decide_false,Bool.false_eq_true,if_false,List.append_nil]
 |r::x,i,m+1,acc,z1,z2,hd,hm,ha=>by
  obtain ⟨g1,g2,g3⟩:=aK hd;have hq:(i:Int)<(rows.length:Int):=by omega
  have e1:bnd b.length (t:Int)=some t:=by unfold bnd;rw[if_pos (by omega)];rfl
  have hrl:=hr r (List.mem_of_getElem? g1);simp at hm ha;simp only[yK,H7,hq,decide_true,if_true,aJ,g1,Option.bind_some,e1,MX m r (by omega),cB acc [r] (by simp;omega),aY g3 (by omega:rows.length<4294967296)]
  rw[MS k rows hl hr b ht hb ws a1 a2 a3 x (i+1) m _ _ _ g2 (by omega) (by simp;omega)]
  simp
 |_,_,0,_,_,_,_,hm,_=>by simp at hm
theorem MR (k:Wq3->ag->ai->ai->cN->Option (ai×Int)) (ts:cN) (hl:ts.length<=1000) (hr:∀rows∈ts,rows.length<=1000/\∀r∈rows,r.length<=1000) (ws:Wq3):
  ∀(x:cN) (i m:Nat) (z1 z2:ai),ts.drop i=x->x.length+2000<m->vi k m ws ts (ts.length:Int) (i:Int) s z1 z2 (ts.take i++List.replicate x.length [])=k ws s ⟨[]⟩ ⟨ts⟩ ts
 | [],i,m+1,z1,z2,hd,hm=>by
  have hq':ts.length<=i:=by simpa using hd
  have hq:¬((i:Int)<(ts.length:Int)):=by omega
  simp only[vi,H5,hq,decide_false,Bool.false_eq_true,if_false,List.length_nil,List.replicate_zero,List.append_nil,List.take_of_length_le hq']
 |rows::x,i,m+1,z1,z2,hd,hm=>by
  obtain ⟨g1,g2,g3⟩:=aK hd;have hq:(i:Int)<(ts.length:Int):=by omega
  obtain ⟨h1,h2⟩:=hr rows (List.mem_of_getElem? g1);simp at hm;have htl:(ts.take i).length=i:=by rw[List.length_take];omega
  have hdl:ts.length=i+(x.length+1):=by have:=congrArg List.length hd;simp at this;omega
  have e0:(ts.take i++List.replicate (rows::x).length ([]:Wq8))[0+((i:Int)).toNat]? =some []:=by
   rw[Nat.zero_add,Int.toNat_natCast,List.getElem?_append_right (by omega),htl,Nat.sub_self]
   simp
  have e1:setAt (ts.take i++List.replicate (rows::x).length ([]:Wq8)) (0+((i:Int)).toNat) rows=some (ts.take (i+1)++List.replicate x.length []):=by
   rw[Nat.zero_add,Int.toNat_natCast];unfold setAt;rw[if_pos (by simp;omega),List.length_cons,List.replicate_succ,List.set_append_right _ _ (by omega),htl,Nat.sub_self,List.set_cons_zero,List.take_succ,g1]
   simp
  simp only[vi,H5,hq,decide_true,if_true,aJ,g1,Option.bind_some,e0];have e2:=MS (s:=s) (t:=i) (H6 (vi k m) m) rows h1 h2 (ts.take i++List.replicate (rows::x).length []) (by simp;omega) (by simp;omega) ws ts (ts.length:Int) (i:Int) rows 0 m [] ⟨[]⟩ ⟨ts.take i++List.replicate (rows::x).length []⟩ rfl (by omega) (by simp;omega)
  rw[show ((0:Nat):Int)=0 from rfl,List.nil_append] at e2;rw[e2];unfold H6;rw[e1,Option.bind_some,aY g3 (by omega)]
  exact MR k ts hl hr ws x (i+1) m _ _ g2 (by omega)
 |_,_,0,_,_,_,hm=>by simp at hm
theorem Zh (rows:Wq8) (p:Nat) (hp:p<=rows.length) (cells:Wq2):∃x27,sj (rows++ [[]]) (0+(p+1)) ((rows++ [[]]).length-(p+1)) (((rows++ [[]]).drop (0+p)).take ((rows++ [[]]).length-p))=some x27/\(∃y,x27[0+p]? =some y)/\setAt x27 (0+p) cells=some (rows.take p++ [cells]++rows.drop p):=by
 have hlen:(rows++ [([]:Wq2)]).length=rows.length+1:=by simp
 have hd:(rows++ [([]:Wq2)]).drop p=rows.drop p++ [[]]:=List.drop_append_of_le_length hp;have hys:((rows++ [([]:Wq2)]).drop (0+p)).take ((rows++ [[]]).length-p)=rows.drop p++ [[]]:=by
  rw[Nat.zero_add,hd,hlen];exact List.take_of_length_le (by simp;omega)
 have hyl:(rows.drop p++ [([]:Wq2)]).length=rows.length+1-p:=by simp;omega
 obtain ⟨q,hq1,hq2⟩:∃q,(rows++ [([]:Wq2)]).take (p+1)=rows.take p++ [q]/\True:=by
  have hlt:p<(rows++ [([]:Wq2)]).length:=by omega
  refine ⟨(rows++ [[]])[p],?_,trivial⟩;rw[List.take_succ,List.getElem?_eq_getElem hlt,List.take_append_of_le_length hp];rfl
 have hx:sj (rows++ [[]]) (0+(p+1)) ((rows++ [[]]).length-(p+1)) (((rows++ [[]]).drop (0+p)).take ((rows++ [[]]).length-p))=some (rows.take p++ [q]++rows.drop p):=by
  rw[hys];unfold sj;have e3:min (rows.drop p++ [([]:Wq2)]).length ((rows++ [([]:Wq2)]).length-(p+1))=rows.length-p:=by rw[hyl,hlen];omega
  rw[if_pos ⟨by simp,by rw[hlen];omega⟩,e3,Nat.zero_add,hq1]
  have e4:(rows.drop p++ [([]:Wq2)]).take (rows.length-p)=rows.drop p:=by
   rw[List.take_append_of_le_length (by simp)]
   exact List.take_of_length_le (by simp)
  have e5:(rows++ [([]:Wq2)]).drop (p+1+(rows.length-p))= []:=List.drop_of_length_le (by rw[hlen];omega)
  rw[e4,e5,List.append_nil]
 have htl:(rows.take p).length=p:=by rw[List.length_take];omega
 refine ⟨_,hx,⟨q,?_⟩,?_⟩
 ·rw[Nat.zero_add,List.append_assoc,List.getElem?_append_right (by omega),htl,Nat.sub_self]
  rfl
 ·rw[Nat.zero_add];unfold setAt;rw[if_pos (by simp;omega),List.append_assoc,List.set_append_right _ _ (by omega),htl,Nat.sub_self]
  simp
theorem aat (k:Int->Wq3->Int->Int->ag->ai->ai->cN->Option (ai×Int)) (c:Int) (ws:Wq3) (a1 a2 tt:Int) (z1 z2:ai) (w:aA) (h1:w.au=(t:Int)) (h2:tt=(t:Int)) (ht:t<ts.length) (rows':Wq8):
  mN k n c ws a1 a2 tt s z1 z2 w ts rows'=k c ws a1 (w64 (a2+1)) s ⟨[]⟩ ⟨ts.set t rows'⟩ (ts.set t rows'):=by
 have e1:bnd ts.length (t:Int)=some t:=by unfold bnd;rw[if_pos (by omega)];rfl
 have e3:setAt ts (0+((t:Int)).toNat) rows'=some (ts.set t rows'):=by rw[Nat.zero_add,Int.toNat_natCast];unfold setAt;rw[if_pos ht]
 unfold mN;rw[h1,h2,e1,Option.bind_some,e3];simp[nr]
theorem MQ (hs:SOK s) (k:ai->ai->cN->Option (ai×Int)) (ws:Wq3) (hws:ws.length<=1000) (hg:∀w∈ws,my s w):∀(x:Wq3) (i m:Nat) (ts:cN) (z1 z2:ai),ws.drop i=x->x.length+300000<m->StM 3 s ts->total ts<=512->
  nH k m ((total ts:Nat):Int) ws (ws.length:Int) (i:Int) s z1 z2 ts=k ⟨[]⟩ ⟨x.foldl (ovW s) ts⟩ (x.foldl (ovW s) ts)
 | [],i,m+1,ts,z1,z2,hd,hm,hst,Ll=>by
  have hq':ws.length<=i:=by simpa using hd
  have hq:¬((i:Int)<(ws.length:Int)):=by omega
  simp only[nH,H4,hq,decide_false,Bool.false_eq_true,if_false,List.foldl_nil]
 |w::x,i,m+1,ts,z1,z2,hd,hm,hst,Ll=>by
  obtain ⟨g1,g2,g3⟩:=aK hd;have hq:(i:Int)<(ws.length:Int):=by omega
  have hgw:=hg w (List.mem_of_getElem? g1);obtain ⟨z6,Rv⟩:=Kh hs hst Ll hgw;have ih:=MQ hs k ws hws hg x (i+1) m (ovW s ts w) ⟨[]⟩ ⟨ovW s ts w⟩ g2 (by simp at hm;omega) z6 Rv
  obtain ⟨t,T,rows,h1,hT,hto,hr,r1,r2,hok,hTi,hri⟩:=hst.at hs hgw;obtain ⟨T',hT',hop,_⟩:=hgw;have hlt:=(List.getElem?_eq_some_iff.1 hr).1;have hrl:=jZ (List.mem_of_getElem? hr);have h8:=hto.aB;have k1:=hto.hZ;have k2:=hto.bO;simp at hm;obtain ⟨p,hp,hf⟩:=ahK (n:=m) hto w rows (by omega) (fun r hr=>dT (r1 r hr)) r2 (by omega)
  have hpl:=hp.le;have e0:ts[0+(w.au).toNat]? =some rows:=by rw[h1,Nat.zero_add,Int.toNat_natCast];exact hr
  have e1:bnd ts.length w.au=some t:=by rw[h1];unfold bnd;rw[if_pos (by omega)];rfl
  have es:nr rows.length rows.length=some ():=by unfold nr;rw[if_pos rfl]
  have e4:∀c rows',mN (nH k m) m c ws (ws.length:Int) (i:Int) w.au s ⟨[]⟩ ⟨ts⟩ w ts rows'=nH k m c ws (ws.length:Int) ((i+1:Nat):Int) s ⟨[]⟩ ⟨ts.set t rows'⟩ (ts.set t rows'):=fun c rows'=>by
   rw[aat _ _ _ _ _ _ _ _ _ h1 h1 hlt,aY g3 (by omega)]
  have Ae:ts.set t rows=ts:=by
   obtain ⟨q1,q2⟩:=List.getElem?_eq_some_iff.1 hr;rw[<-q2];exact List.set_getElem_self q1
  have eov:ovW s ts w=match dy T w.aq rows with
    |none=>if w.fOp=1/\total ts<512 then ts.set t (cF T w.aq [w.aF] rows) else ts
    |some r=>if w.fOp=2 then ts.set t (cF T w.aq [dg r w.ah w.aF] rows) else if w.fOp=3 then ts.set t (cF T w.aq [] rows) else ts:=by
   unfold ovW;rw[hTi,hri,h1];rfl
  have mid:nH k (m+1) ((total ts:Nat):Int) ws (ws.length:Int) (i:Int) s z1 z2 ts=nK (nH k m) m ((total ts:Nat):Int) (p:Int) (atK T w.aq rows[p]?) ws (ws.length:Int) (i:Int) w.au s ⟨[]⟩ ⟨ts⟩ w ts rows:=by
   simp only[nH,H4,hq,decide_true,if_true,aJ,g1,Option.bind_some,e0,e1,hTi,hf,es];by_cases hpp:p<rows.length
   ·have hq2:(p:Int)<(rows.length:Int):=by omega
    have hgp:rows[p]? =some rows[p]:=List.getElem?_eq_getElem hpp;have e6:bnd rows.length (p:Int)=some p:=by unfold bnd;rw[if_pos (by omega)];rfl
    have hcl:=dT (r1 _ (List.getElem_mem hpp));have e:T.aq=((T.aq.toNat:Nat):Int):=by omega
    have e7:cut rows[p] none (some T.aq)=some (kOf T rows[p]):=tg (by omega) (by omega)
    simp only[hq2,decide_true,if_true,e6,Option.bind_some,Nat.zero_add,hgp,e7,xa m (kOf T rows[p]) w.aq (by simp;omega) (by simp;omega),atK]
   ·have hq2:¬(p:Int)<(rows.length:Int):=by omega
    have hgp:rows[p]? =none:=List.getElem?_eq_none (by omega)
    simp only[hq2,decide_false,Bool.false_eq_true,if_false,hgp,atK]
  rw[mid,List.foldl_cons,<-ih];rcases hp.got r2 with ⟨r,hgp,hk,hgk⟩|⟨hgk,hne⟩
  ·have Lp:atK T w.aq rows[p]? =true:=by rw[hgp];simp only[atK,hk,l4,beq_self_eq_true]
   have hpp:=(List.getElem?_eq_some_iff.1 hgp).1;have hm2:=kf hgk;rw[Lp,eov,hgk];simp only;have e6:bnd rows.length (p:Int)=some p:=by unfold bnd;rw[if_pos (by omega)];rfl
   by_cases h2:w.fOp=2
   ·obtain ⟨a1,a2,a3⟩:=Lv hs hTi hok h2;have hcl:=dT (r1 r hm2);have e7:F65 m r w=some (dg r w.ah w.aF):=by
     unfold F65 Th;rw[MX _ _ (by omega),Option.bind_some]
     exact XI m w (by omega) a2 w.ah 0 m r rfl (by omega) (fun c hc'=>by rw[hcl];exact a3 c hc')
    have e8:setAt rows p (dg r w.ah w.aF)=some (cF T w.aq [dg r w.ah w.aF] rows):=by
     unfold setAt;rw[if_pos hpp,hp.at r2 hgp hk,List.set_eq_take_append_cons_drop,if_pos hpp];simp
    have et:=jY (rows':=cF T w.aq [dg r w.ah w.aF] rows) hr;have eq:=qW r2 hm2 hk [dg r w.ah w.aF];simp at eq;have LK:total (ts.set t (cF T w.aq [dg r w.ah w.aF] rows))=total ts:=by omega
    unfold nK lB;simp only[h2,show ((2:Int)==1)=false from rfl,Bool.false_eq_true,if_false,beq_self_eq_true,if_true,e6,Option.bind_some,Nat.zero_add,hgp,e7,e8,e4,LK]
   ·by_cases h3:w.fOp=3
    ·have e7:gd rows.length (p:Int)=some p:=by unfold gd;rw[if_pos (by omega)];rfl
     have ew:w64 ((p:Int)+1)=((p+1:Nat):Int):=by rw[bI (by omega) (by omega)];rfl
     have e8:iQ rows.length ((p+1:Nat):Int)=some (p+1):=by unfold iQ;rw[if_pos (by omega)];rfl
     have e9:oB rows p ((rows.drop (0+(p+1))).take (rows.length-(p+1)))=some (cF T w.aq [] rows):=by
      have e10:(rows.drop (p+1)).take (rows.length-(p+1))=rows.drop (p+1):=List.take_of_length_le (by simp)
      unfold oB;rw[if_pos (by simp;omega),hp.at r2 hgp hk,Nat.zero_add,e10,List.append_nil]
     have et:=jY (rows':=cF T w.aq [] rows) hr;have eq:=qW r2 hm2 hk [];simp at eq;have LK:w64 (((total ts:Nat):Int)-1)=((total (ts.set t (cF T w.aq [] rows)):Nat):Int):=by
      rw[bI (by omega) (by omega)];omega
     unfold nK lB;simp only[h3,show ((3:Int)==1)=false from rfl,show ((3:Int)==2)=false from rfl,show ¬((3:Int)=2) by omega,Bool.false_eq_true,if_false,beq_self_eq_true,if_true,e7,ew,e8,e9,Option.bind_some,e4,LK]
    ·have h1':w.fOp=1:=by omega
     unfold nK lB;simp only[h1',show ((1:Int)==2)=false from rfl,show ((1:Int)==3)=false from rfl,show ¬((1:Int)=2) by omega,show ¬((1:Int)=3) by omega,Bool.not_true,Bool.false_eq_true,if_false,beq_self_eq_true,if_true,e4,Ae]
  ·have Lp:atK T w.aq rows[p]? =false:=by
    cases hgp:rows[p]? with
    |none=>rfl
    |some r=>
     simp only[atK,beq_eq_false_iff_ne];exact fun he=>hne r hgp (jK he)
   rw[Lp,eov,hgk];simp only;by_cases h1':w.fOp=1
   ·by_cases hc:total ts<512
    ·obtain ⟨a,b⟩:=xn hok h1';have hcl:=vL a;obtain ⟨x27,c1,⟨y,c2⟩,c3⟩:=Zh rows p hpl w.aF;have hc':((total ts:Nat):Int)<512:=by omega
     have ew:w64 ((p:Int)+1)=((p+1:Nat):Int):=by rw[bI (by omega) (by omega)];rfl
     have e7:iQ (rows++ [([]:Wq2)]).length ((p+1:Nat):Int)=some (p+1):=by unfold iQ;rw[if_pos (by simp;omega)];rfl
     have e8:iQ (rows++ [([]:Wq2)]).length (p:Int)=some p:=by unfold iQ;rw[if_pos (by simp;omega)];rfl
     have e9:bnd (rows++ [([]:Wq2)]).length (p:Int)=some p:=by unfold bnd;rw[if_pos (by simp;omega)];rfl
     have et:=jY (rows':=cF T w.aq [w.aF] rows) hr;have eq:=OJ (iE.1 hgk) [w.aF];simp at eq;have LK:w64 (((total ts:Nat):Int)+1)=((total (ts.set t (cF T w.aq [w.aF] rows)):Nat):Int):=by
      rw[bI (by omega) (by omega)];omega
     rw[if_pos ⟨h1',hc⟩];rw[<-hp.ins (iE.1 hgk)] at c3;unfold nK;simp only[h1',beq_self_eq_true,if_true,Bool.not_false,hc',decide_true,cB rows [[]] (by simp;omega),Option.bind_some,ew,e7,e8,c1,MX m w.aF (by omega),e9,c2,c3,e4,LK]
    ·have hc':¬((total ts:Nat):Int)<512:=by omega
     rw[if_neg (fun h=>hc h.2)]
     unfold nK lB;simp only[h1',beq_self_eq_true,if_true,Bool.not_false,hc',decide_false,show ((1:Int)==2)=false from rfl,show ((1:Int)==3)=false from rfl,Bool.false_eq_true,if_false,e4,Ae]
   ·have h1'':(w.fOp==1)=false:=by simpa using h1'
    rw[if_neg (fun h=>h1' h.1)]
    unfold nK lB;by_cases h2:w.fOp=2
    ·simp only[h2,show ((2:Int)==1)=false from rfl,show ((2:Int)==3)=false from rfl,Bool.false_eq_true,if_false,beq_self_eq_true,if_true,e4,Ae]
    ·have h3:w.fOp=3:=by omega
     simp only[h3,show ((3:Int)==1)=false from rfl,show ((3:Int)==2)=false from rfl,Bool.false_eq_true,if_false,beq_self_eq_true,if_true,e4,Ae]
 |_,_,0,_,_,_,_,hm,_,_=>by omega
theorem ahM (hl:ts.length+total ts<=2000000) (hn:ts.length<n):F57 n ⟨ts⟩=some ((total ts:Nat):Int):=by
 have h57:=MF (Cr n) ts hl ts 0 n 0 rfl hn (by omega)
 unfold F57 Hk;simp only[show ((0:Nat):Int)=0 from rfl,Nat.zero_add] at h57;rw[h57];rfl
theorem ahX (n:Nat) (s:ag) (e:Int) (he:F38 n s=some e) (hs:e=0->SOK s) (ws:Wq3) (hb:∀w∈ws,wB w) (st:ai) (hl:st.ae.length+total st.ae<=2000000) (hn:2000100<=n):F25 n s st ws=some (ovR s e st ws):=by
 unfold F25 TK ovR;rw[aia n s e he hs ws hb hn,Option.bind_some];by_cases h0:oj s e ws=0
 ·obtain ⟨rfl,w1,w2⟩:=vx h0;have hok:=hs rfl;rw[h0,amw (.inr (.inr rfl)) n s 0 he hs st hl hn];simp only[bne_self_eq_false,Bool.false_eq_true,if_false,if_true,Option.bind_some];by_cases h1:jC 3 s 0 st.ae=0
  ·obtain ⟨_,h2,h3⟩:=vz h1;have hlen:=h2.len;have h8:=hok.len;have er:lE (st.ae.length:Int) ([]:Wq8)=some (List.replicate st.ae.length []):=by
    unfold lE;rw[if_pos (by omega)];rfl
   rw[h1];simp only[bne_self_eq_false,Bool.false_eq_true,if_false,if_true,er,Option.bind_some];have e2:=MR (s:=s) (H3 n) st.ae (by omega) (fun rows hr=>⟨by have:=jZ hr;omega,fun r hr'=>by
    obtain ⟨t,hl,rfl⟩:=List.mem_iff_getElem.1 hr;have hT:s.ae[t]? =some s.ae[t]:=List.getElem?_eq_getElem (by omega)
    have:=dT ((h2.row t _ _ hT (List.getElem?_eq_getElem hl)).1 r hr');have:=(hok.tab (t:Int) _ (by rw[aJ];exact hT)).aB
    omega⟩) ws st.ae 0 n ⟨[]⟩ ⟨List.replicate st.ae.length []⟩ rfl (by omega)
   rw[show ((0:Nat):Int)=0 from rfl,List.take_zero,List.nil_append] at e2;rw[e2];unfold H3;rw[ahM hl (by omega),Option.bind_some]
   exact MQ hok (TL n) ws (by omega) w2 ws 0 n st.ae _ _ rfl (by omega) h2 h3
  ·have h1':(jC 3 s 0 st.ae !=0)=true:=by simpa using h1
   simp only[h1',if_true,h1,if_false]
 ·have h0':(oj s e ws !=0)=true:=by simpa using h0
  simp only[h0',if_true,h0,if_false]
theorem adN (n0:Nat) (hT:idx s.ae (t:Int)=some T) (ht:cn T) (key:Wq2) (rows:Wq8) (hl:rows.length<=512) (hr:∀r∈rows,r.length=T.ah.length):∀(x:Wq8) (i m:Nat),rows.drop i=x->x.length+1100<m->
  Ok (pt (yX n0) m (t:Int) key rows (rows.length:Int) (i:Int) s) fun q=>(q= -1/\dy T key x=none)\/∃(j:Nat) (r:Wq2),q=(j:Int)/\rows[j]? =some r/\dy T key x=some r
 | [],i,m+1,hd,hm=>by
  have hq':rows.length<=i:=by simpa using hd
  have hq:¬((i:Int)<(rows.length:Int)):=by omega
  simp only[pt,yY,yX,hq,decide_false,Bool.false_eq_true,if_false];exact Ok.pure (.inl ⟨rfl,rfl⟩)
 |r::x,i,m+1,hd,hm=>by
  obtain ⟨g1,g2,g3⟩:=aK hd;have hq:(i:Int)<(rows.length:Int):=by omega
  have hc:=hr r (List.mem_of_getElem? g1);have h8:=ht.aB;simp at hm;simp only[pt,yY,hq,decide_true,if_true,aJ,g1,Option.bind_some,oh (n:=m) hT ht r hc,qN m (r.take T.aq.toNat) key (by simp;omega) (by simp;omega),aY g3 (by omega:rows.length<4294967296),dy,List.find?_cons]
  cases h:bZ (r.take T.aq.toNat) key==0 with
  |true=>simp only[if_true];exact Ok.pure (.inr ⟨i,r,rfl,g1,rfl⟩)
  |false=>
   simp only[Bool.false_eq_true,if_false];exact adN n0 hT ht key rows hl hr x (i+1) m g2 (by omega)
 |_,_,0,_,hm=>by simp at hm
theorem amu (hT:s.ae[t]? =some T) (ht:cn T) (dH:ts[t]? =some rows) (hl:rows.length<=512) (hr:∀r∈rows,r.length=T.ah.length) (key:Wq2) (hn:2000<n):F35 n s ⟨ts⟩ (t:Int) key=some (Eb (dy T key rows)):=by
 have h1:t<s.ae.length:=(List.getElem?_eq_some_iff.1 hT).1;have h2:t<ts.length:=(List.getElem?_eq_some_iff.1 dH).1;have e1:¬(t:Int)<0:=by omega
 have e2:(t:Int)<(s.ae.length:Int):=by omega
 have e3:(t:Int)<(ts.length:Int):=by omega
 have hTi:idx s.ae (t:Int)=some T:=by rw[aJ];exact hT
 unfold F35 HS F75 G4;obtain ⟨q,h,hq⟩:=adN n hTi ht key rows hl hr rows 0 n rfl (by omega)
 rw[show ((0:Nat):Int)=0 from rfl] at h;simp only[e1,e2,e3,decide_false,decide_true,Bool.not_true,Bool.false_eq_true,if_false,aJ,dH,Option.bind_some,h];rcases hq with ⟨rfl,hg⟩|⟨j,r,rfl,hj,hg⟩
 ·simp[hg,Eb]
 ·have hc:=hr r (List.mem_of_getElem? hj);have h8:=ht.aB;have e4:¬(j:Int)<0:=by omega
  simp only[e4,decide_false,Bool.false_eq_true,if_false,aJ,hj,Option.bind_some,qM (n:=n) r (by omega),hg,Eb]
theorem MD (k:cN->Int->Int->ai->ai->Wq8->cN->Option ai) (rows:Wq8) (hl:rows.length<=1000) (hr:∀r∈rows,r.length<=1000) (b:cN) (a1:cN) (a2 a3:Int):
  ∀(x:Wq8) (i m:Nat) (acc:Wq8) (z1 z2:ai),rows.drop i=x->x.length<m->acc.length+x.length<=1000->yq k m a1 a2 a3 rows (rows.length:Int) (i:Int) z1 z2 acc b=k a1 a2 a3 ⟨[]⟩ ⟨b⟩ (acc++x) b
 | [],i,m+1,acc,z1,z2,hd,hm,ha=>by
  have hq':rows.length<=i:=by simpa using hd
  have hq:¬((i:Int)<(rows.length:Int)):=by omega
  simp only[yq,He,hq,decide_false,Bool.false_eq_true,if_false,List.append_nil]
 |r::x,i,m+1,acc,z1,z2,hd,hm,ha=>by
  obtain ⟨g1,g2,g3⟩:=aK hd;have hq:(i:Int)<(rows.length:Int):=by omega
  have hrl:=hr r (List.mem_of_getElem? g1);simp at hm ha;simp only[yq,He,hq,decide_true,if_true,aJ,g1,Option.bind_some,qM (n:=m) r (by omega),cB acc [r] (by simp;omega),aY g3 (by omega:rows.length<4294967296)]
  rw[MD k rows hl hr b a1 a2 a3 x (i+1) m _ _ _ g2 (by omega) (by simp;omega)]
  simp
 |_,_,0,_,_,_,_,hm,_=>by simp at hm
theorem MC (n0:Nat) (ts:cN) (hl:ts.length<=1000) (hr:∀rows∈ts,rows.length<=1000/\∀r∈rows,r.length<=1000):
  ∀(x:cN) (i m:Nat) (z1 z2:ai),ts.drop i=x->x.length+2000<m->vb (Cq n0) m ts (ts.length:Int) (i:Int) z1 z2 (ts.take i)=some ⟨ts⟩
 | [],i,m+1,z1,z2,hd,hm=>by
  have hq':ts.length<=i:=by simpa using hd
  have hq:¬((i:Int)<(ts.length:Int)):=by omega
  simp only[vb,Hb,Cq,hq,decide_false,Bool.false_eq_true,if_false,List.take_of_length_le hq']
 |rows::x,i,m+1,z1,z2,hd,hm=>by
  obtain ⟨g1,g2,g3⟩:=aK hd;have hq:(i:Int)<(ts.length:Int):=by omega
  obtain ⟨h1,h2⟩:=hr rows (List.mem_of_getElem? g1);simp at hm;simp only[vb,Hb,hq,decide_true,if_true,aJ,g1,Option.bind_some];have e2:=MD (Hc (vb (Cq n0) m) m) rows h1 h2 (ts.take i) ts (ts.length:Int) (i:Int) rows 0 m [] ⟨[]⟩ ⟨ts.take i⟩ rfl (by omega) (by simp;omega)
  rw[show ((0:Nat):Int)=0 from rfl,List.nil_append] at e2;rw[e2];unfold Hc;have e3:ts.take i++ [rows]=ts.take (i+1):=by rw[List.take_succ,g1];rfl
  rw[cB _ _ (by simp;omega),Option.bind_some,aY g3 (by omega),e3]
  exact MC n0 ts hl hr x (i+1) m _ _ g2 (by omega)
 |_,_,0,_,_,_,hm=>by simp at hm
theorem XH (k:Int->Option Int) (ts:cN) (hl:ts.length+total ts<=2000000):∀(x:cN) (i m a:Nat),ts.drop i=x->x.length<m->a+total x<=2000000->yp k m (a:Int) ts (ts.length:Int) (i:Int)=k ((a+total x:Nat):Int)
 | [],i,m+1,a,hd,hm,ha=>by
  have hq':ts.length<=i:=by simpa using hd
  have hq:¬((i:Int)<(ts.length:Int)):=by omega
  simp only[yp,Ha,hq,decide_false,Bool.false_eq_true,if_false,total,Nat.add_zero]
 |rs::x,i,m+1,a,hd,hm,ha=>by
  obtain ⟨g1,g2,g3⟩:=aK hd;have hq:(i:Int)<(ts.length:Int):=by omega
  simp at hm;simp only[total] at ha;have hw:w64 ((a:Int)+(rs.length:Int))=((a+rs.length:Nat):Int):=by rw[bI (by omega) (by omega)];omega
  simp only[yp,Ha,hq,decide_true,if_true,aJ,g1,Option.bind_some,aY g3 (by omega:ts.length<4294967296),hw]
  rw[XH k ts hl x (i+1) m (a+rs.length) g2 (by omega) (by omega)]
  simp only[total,Nat.add_assoc]
 |_,_,0,_,_,hm,_=>by simp at hm
theorem ahI (hl:ts.length+total ts<=2000000) (hn:ts.length<n):F67 n ⟨ts⟩=some ((total ts:Nat):Int):=by
 have h:=XH (Te n) ts hl ts 0 n 0 rfl hn (by omega)
 unfold F67 Td;simp only[show ((0:Nat):Int)=0 from rfl,Nat.zero_add] at h;rw[h];rfl
theorem MP (hs:SOK s) (k:ai->ai->cN->Option (ai×Int)) (ws:Wq3) (hws:ws.length<=1000) (hg:∀w∈ws,my s w):∀(x:Wq3) (i m:Nat) (ts:cN) (z1 z2:ai),ws.drop i=x->x.length+300000<m->StM 3 s ts->total ts<=512->
  rP k m ws (ws.length:Int) (i:Int) s z1 z2 ts=k ⟨[]⟩ ⟨x.foldl (ovW s) ts⟩ (x.foldl (ovW s) ts)
 | [],i,m+1,ts,z1,z2,hd,hm,hst,Ll=>by
  have hq':ws.length<=i:=by simpa using hd
  have hq:¬((i:Int)<(ws.length:Int)):=by omega
  simp only[rP,H0,hq,decide_false,Bool.false_eq_true,if_false,List.foldl_nil]
 |w::x,i,m+1,ts,z1,z2,hd,hm,hst,Ll=>by
  obtain ⟨g1,g2,g3⟩:=aK hd;have hq:(i:Int)<(ws.length:Int):=by omega
  have hgw:=hg w (List.mem_of_getElem? g1);obtain ⟨z6,Rv⟩:=Kh hs hst Ll hgw;have ih:=MP hs k ws hws hg x (i+1) m (ovW s ts w) ⟨[]⟩ ⟨ovW s ts w⟩ g2 (by simp at hm;omega) z6 Rv
  have hkl:=z7 hs hgw;obtain ⟨t,T,rows,h1,hT,hto,hr,r1,r2,hok,hTi,hri⟩:=hst.at hs hgw;obtain ⟨T',hT',hop,_⟩:=hgw;have hlt:=(List.getElem?_eq_some_iff.1 hr).1;have hrl:=jZ (List.mem_of_getElem? hr);have h8:=hto.aB;have hs8:=hs.len;have hlen:=hst.len;simp at hm;have eov:ovW s ts w=match dy T w.aq rows with
    |none=>if w.fOp=1/\total ts<512 then ts.set t (cF T w.aq [w.aF] rows) else ts
    |some r=>if w.fOp=2 then ts.set t (cF T w.aq [dg r w.ah w.aF] rows) else if w.fOp=3 then ts.set t (cF T w.aq [] rows) else ts:=by
   unfold ovW;rw[hTi,hri,h1];rfl
  have e4:∀(ts':cN),nJ (rP k m) m ws (ws.length:Int) (i:Int) s ⟨[]⟩ ⟨ts'⟩ ts'=rP k m ws (ws.length:Int) ((i+1:Nat):Int) s ⟨[]⟩ ⟨ts'⟩ ts':=fun ts'=>by
   unfold nJ;rw[aY g3 (by omega)]
  have eg:F35 m s ⟨ts⟩ w.au w.aq=some (Eb (dy T w.aq rows)):=by rw[h1];exact amu hT hto hr (by omega) (fun r hr=>dT (r1 r hr)) _ (by omega)
  have ep:∀row:Wq2,row.length<=100->F37 m s ⟨ts⟩ w.au w.aq row=some (⟨ts.set t (cF T w.aq (kI row) rows)⟩,ts.set t (cF T w.aq (kI row) rows)):=fun row fM=>by
   rw[h1];exact PH hT hto (by omega) fM hr (fun r hr=>dT (r1 r hr)) (by omega) r2 (by omega)
  have one:∀row:Wq2,row.length=T.ah.length->kI row= [row]:=fun row fM=>by
   have k1:=hto.hZ;have k2:=hto.bO;unfold kI;rw[if_neg (fun e=>by rw[e] at fM;simp at fM;omega)]
  simp only[rP,H0,hq,decide_true,if_true,aJ,g1,Option.bind_some,eg];rw[List.foldl_cons,<-ih,eov];cases hgk:dy T w.aq rows with
  |some r=>
   have hm2:=kf hgk;have hcl:=dT (r1 r hm2);simp only[Eb,Bool.not_true,Bool.false_eq_true,if_false];by_cases h2:w.fOp=2
   ·obtain ⟨a1,a2,a3⟩:=Lv hs hTi hok h2;have e7:F55 m r w=some (dg r w.ah w.aF):=by
     unfold F55 Tm;rw[qM _ (by omega),Option.bind_some]
     exact XJ m w (by omega) a2 w.ah 0 m r rfl (by omega) (fun c hc'=>by rw[hcl];exact a3 c hc')
    have ul:=Ip r w.ah w.aF;simp only[h2,show ((2:Int)==1)=false from rfl,Bool.false_eq_true,if_false,beq_self_eq_true,if_true,kG,e7,Option.bind_some,ep _ (by omega:(dg r w.ah w.aF).length<=100),one _ (by omega:(dg r w.ah w.aF).length=T.ah.length),e4]
   ·by_cases h3:w.fOp=3
    ·simp only[h3,show ((3:Int)==1)=false from rfl,show ((3:Int)==2)=false from rfl,show ¬((3:Int)=2) by omega,Bool.false_eq_true,if_false,beq_self_eq_true,if_true,kG,ep [] (by simp),Option.bind_some,kI,e4]
    ·have h1':w.fOp=1:=by omega
     simp only[h1',show ((1:Int)==2)=false from rfl,show ((1:Int)==3)=false from rfl,show ¬((1:Int)=2) by omega,show ¬((1:Int)=3) by omega,Bool.false_eq_true,if_false,beq_self_eq_true,if_true,kG,e4]
  |none=>
   simp only[Eb,Bool.not_false,if_true];by_cases h1':w.fOp=1
   ·have e67:F67 m ⟨ts⟩=some ((total ts:Nat):Int):=ahI (by omega) (by omega)
    by_cases hc:total ts<512
    ·obtain ⟨a,b⟩:=xn hok h1';have hcl:=vL a;have hc':((total ts:Nat):Int)<512:=by omega
     rw[if_pos (⟨h1',hc⟩:w.fOp=1/\total ts<512)];simp only[h1',beq_self_eq_true,if_true,e67,Option.bind_some,hc',decide_true,ep _ (by omega:w.aF.length<=100),one _ hcl,e4]
    ·have hc':¬((total ts:Nat):Int)<512:=by omega
     rw[if_neg (fun h=>hc h.2:¬(w.fOp=1/\total ts<512))]
     simp only[h1',beq_self_eq_true,if_true,e67,Option.bind_some,hc',decide_false,show ((1:Int)==2)=false from rfl,show ((1:Int)==3)=false from rfl,Bool.false_eq_true,if_false,kG,e4]
   ·rw[if_neg (fun h=>h1' h.1:¬(w.fOp=1/\total ts<512))]
    by_cases h2:w.fOp=2
    ·simp only[h2,show ((2:Int)==1)=false from rfl,show ((2:Int)==3)=false from rfl,Bool.false_eq_true,if_false,beq_self_eq_true,if_true,kG,e4]
    ·have h3:w.fOp=3:=by omega
     simp only[h3,show ((3:Int)==1)=false from rfl,show ((3:Int)==2)=false from rfl,Bool.false_eq_true,if_false,beq_self_eq_true,if_true,kG,e4]
 |_,_,0,_,_,_,_,hm,_,_=>by omega
theorem ahW (n:Nat) (s:ag) (e:Int) (he:F44 n s=some e) (hs:e=0->SOK s) (ws:Wq3) (hb:∀w∈ws,wB w) (st:ai) (hl:st.ae.length+total st.ae<=2000000) (hn:2000100<=n):F26 n s st ws=some (ovR s e st ws):=by
 unfold F26 TH ovR;rw[ahY n s e he hs ws hb hn,Option.bind_some];by_cases h0:oj s e ws=0
 ·obtain ⟨rfl,w1,w2⟩:=vx h0;have hok:=hs rfl;rw[h0,amt (.inr (.inr rfl)) n s 0 he hs st hl hn];simp only[bne_self_eq_false,Bool.false_eq_true,if_false,if_true,Option.bind_some];by_cases h1:jC 3 s 0 st.ae=0
  ·obtain ⟨_,h2,h3⟩:=vz h1;have hlen:=h2.len;have h8:=hok.len;rw[h1];simp only[bne_self_eq_false,Bool.false_eq_true,if_false,if_true];have e2:=MC n st.ae (by omega) (fun rows hr=>⟨by have:=jZ hr;omega,fun r hr'=>by
    obtain ⟨t,hl,rfl⟩:=List.mem_iff_getElem.1 hr;have hT:s.ae[t]? =some s.ae[t]:=List.getElem?_eq_getElem (by omega)
    have:=dT ((h2.row t _ _ hT (List.getElem?_eq_getElem hl)).1 r hr');have:=(hok.tab (t:Int) _ (by rw[aJ];exact hT)).aB
    omega⟩) st.ae 0 n ⟨[]⟩ ⟨[]⟩ rfl (by omega)
   rw[show ((0:Nat):Int)=0 from rfl,List.take_zero] at e2;have e3:F66 n st=some ⟨st.ae⟩:=by unfold F66 Tg;exact e2
   rw[e3,Option.bind_some];exact MP hok (TJ n) ws (by omega) w2 ws 0 n st.ae _ _ rfl (by omega) h2 h3
  ·have h1':(jC 3 s 0 st.ae !=0)=true:=by simpa using h1
   simp only[h1',if_true,h1,if_false]
 ·have h0':(oj s e ws !=0)=true:=by simpa using h0
  simp only[h0',if_true,h0,if_false]
end
end
end Go.Proofs.YtmealahmjddpcaaGreatDoor
end
