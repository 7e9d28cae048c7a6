/- Texts that belong together. The first: Plain laws: the made schemas and states. Condition: enough steps. -/
import Derived.Test.YtmealahmjddpcaaGreatDoorP11
import Derived.Test.YtmealahmjddpcaaGreatDoorP10
set_option linter.all false
noncomputable section
set_option maxRecDepth 100000
namespace Go.Proofs.YtmealahmjddpcaaGreatDoor
open Go.Sim
def dR (id : Int) (r1 r2 r3 : List aB) (ch : List ag) : List aj :=
  [⟨ByteArray.mk #[112, 114, 111, 106, 101, 99, 116, 115], [⟨ByteArray.mk #[105, 100], 4⟩, ⟨ByteArray.mk #[111, 119, 110, 101, 114], 4⟩], 1, [], []⟩,
   ⟨ByteArray.mk #[116, 97, 115, 107, 115], [⟨ByteArray.mk #[105, 100], id⟩, ⟨ByteArray.mk #[112, 114, 111, 106, 101, 99, 116], 4⟩, ⟨ByteArray.mk #[116, 105, 116, 108, 101], 5⟩, ⟨ByteArray.mk #[100, 111, 110, 101], 3⟩], 1, r1, ch⟩,
   ⟨ByteArray.mk #[109, 101, 109, 98, 101, 114, 115], [⟨ByteArray.mk #[112, 114, 111, 106, 101, 99, 116], 4⟩, ⟨ByteArray.mk #[112, 101, 114, 115, 111, 110], 4⟩], 2, r2, []⟩,
   ⟨ByteArray.mk #[97, 114, 99, 104, 105, 118, 101, 100], [⟨ByteArray.mk #[116, 97, 115, 107], id⟩], 1, r3, []⟩]
structure JX (v id:Int) (k:Nat) (r1 r2 r3:List aB) (ch:List ag):Prop where
 v0:0≤v
 v1:v≤2
 hid:id=4∨id=5
 hk:k=2∨k=3∨k=4
 h1:r1= []∨r1= [⟨[1],0⟩]
 h2:r2= []∨r2= [⟨[0],0⟩]
 h3:r3= []∨r3= [⟨[0],1⟩]
 hc:ch.length≤1∧jY [id,4,5,3] ch=0∧∀p∈ch,szP p≤119
def mj (s:J):Prop:=∃v id k r1 r2 r3 ch,JX v id k r1 r2 r3 ch∧s=⟨v,(dR id r1 r2 r3 ch).take k⟩
theorem mj.chk {s:J} (h:mj s):oh s=0:=by
 obtain ⟨v,id,k,r1,r2,r3,ch,⟨v0,v1,hid,hk,h1,h2,h3,hc0,hc,_⟩,rfl⟩:=h;have e1:¬8<((dR id r1 r2 r3 ch).take k).length:=by rw[List.length_take];simp[dR];omega
 have e2:((dR id r1 r2 r3 ch).take k).all jX=true:=by
  have hr1:r1.length≤4:=by rcases h1 with rfl|rfl<;>simp
  have hr2:r2.length≤4:=by rcases h2 with rfl|rfl<;>simp
  have hr3:r3.length≤4:=by rcases h3 with rfl|rfl<;>simp
  have hch:ch.length≤4:=by omega
  rcases hk with rfl|rfl|rfl<;>simp[dR,jX,hr1,hr2,hr3,hch]
 have e3:g9 [] ((dR id r1 r2 r3 ch).take k)=true:=by
  rcases hid with rfl|rfl<;>rcases hk with rfl|rfl|rfl<;>kernel_rfl
 have e4:allRefs ⟨v,(dR id r1 r2 r3 ch).take k⟩ ((dR id r1 r2 r3 ch).take k)=true:=by
  rcases hid with rfl|rfl<;>rcases hk with rfl|rfl|rfl<;>rcases h1 with rfl|rfl<;>rcases h2 with rfl|rfl<;>rcases h3 with rfl|rfl<;>kernel_rfl
 have e5:qE ((dR id r1 r2 r3 ch).take k)=0:=by
  rcases hk with rfl|rfl|rfl<;>simp[dR,qE,jY,bl,hc]
 unfold oh;simp only[e1,e2,e3,e4,e5,if_false,if_true,show ¬v<0 by omega,show ¬1000<v by omega]
theorem mj.ok {s:J} (h:mj s):SOK s:=xv h.chk
theorem mj.sz {s:J} (h:mj s):∀T∈s.ae,szT T:=by
 obtain ⟨v,id,k,r1,r2,r3,ch,⟨_,_,_,_,_,_,_,_,_,hz⟩,rfl⟩:=h;intro T hT p hp;have hT:=List.mem_of_mem_take hT;simp only[dR,List.mem_cons,List.not_mem_nil,or_false] at hT;rcases hT with rfl|rfl|rfl|rfl
 ·simp at hp
 ·have:=hz p hp;omega
 ·simp at hp
 ·simp at hp
theorem mj.pos {s:J} (h:mj s):2≤s.ae.length:=by
 obtain ⟨v,id,k,r1,r2,r3,ch,⟨_,_,_,hk,_⟩,rfl⟩:=h;rw[List.length_take];simp[dR];omega
theorem CQ (n:Nat) (hn:2000≤n) (hn':n<4294967296) (c:ai) (hc:aY c) (z:J) (v id:Int) (k:Nat) (r1 r2 r3:List aB) (h:JX v id k r1 r2 r3 []) (ts:List aj) (hts:ts=(dR id r1 r2 r3 []).take k) (b5:J) (hb5:b5.bz=v):
  Ok (yp n c z b5 ts) fun r=>aY r.2∧mj r.1:=by
 unfold yp;refine Ok.bind (jE n c 3 hc) fun b hb=> ?_
 refine Ok.ite (fun _=> ?_) fun _=>Ok.pure ⟨hb,v,id,k,r1,r2,r3,[],h,by rw[hb5,hts]⟩
 have hT:idx (J.mk b5.bz ts).ae 1=some ⟨ByteArray.mk #[116,97,115,107,115],[⟨ByteArray.mk #[105,100],id⟩,⟨ByteArray.mk #[112,114,111,106,101,99,116],4⟩,⟨ByteArray.mk #[116,105,116,108,101],5⟩,⟨ByteArray.mk #[100,111,110,101],3⟩],1,r1,[]⟩:=by
  rw[hts];rcases h.hk with rfl|rfl|rfl<;>rfl
 rw[rH hT (by simp) (by omega),Option.bind_some]
 have hks:dL [id,4,5,3]=true:=by rcases h.hid with rfl|rfl<;>rfl
 refine Ok.bind (adA [id,4,5,3] [] hks rfl (by simp) (by simp) 1 n b.2 hb (by omega) hn' (by omega) (by omega)) fun p ⟨hp,p0,pz⟩=> ?_
 have e1:bnd ts.length 1=some 1:=by rw[hts];rcases h.hk with rfl|rfl|rfl<;>rfl
 have e2:ts[0+1]? =some ⟨ByteArray.mk #[116,97,115,107,115],[⟨ByteArray.mk #[105,100],id⟩,⟨ByteArray.mk #[112,114,111,106,101,99,116],4⟩,⟨ByteArray.mk #[116,105,116,108,101],5⟩,⟨ByteArray.mk #[100,111,110,101],3⟩],1,r1,[]⟩:=by
  rw[hts];rcases h.hk with rfl|rfl|rfl<;>rfl
 rw[e1,Option.bind_some,e2,Option.bind_some];have e3:setAt ts (0+1) ⟨ByteArray.mk #[116,97,115,107,115],[⟨ByteArray.mk #[105,100],id⟩,⟨ByteArray.mk #[112,114,111,106,101,99,116],4⟩,⟨ByteArray.mk #[116,105,116,108,101],5⟩,⟨ByteArray.mk #[100,111,110,101],3⟩],1,r1,[p.1]⟩=some ((dR id r1 r2 r3 [p.1]).take k):=by
  rw[hts];rcases h.hk with rfl|rfl|rfl<;>rfl
 rw[e3,Option.bind_some];exact Ok.pure ⟨hp,v,id,k,r1,r2,r3,[p.1],⟨h.v0,h.v1,h.hid,h.hk,h.h1,h.h2,h.h3,by simp,by simp[jY,p0],by simpa using pz⟩,by rw[hb5]⟩
theorem wP (n:Nat) (hn:2000≤n) (hn':n<4294967296) (c:ai) (hc:aY c) (z:J) (v id:Int) (k:Nat) (r1 r2:List aB) (h:JX v id k r1 r2 [] []) (ts:List aj) (hts:ts=(dR id r1 r2 [] []).take k) (b5:J) (hb5:b5.bz=v):
  Ok (vg n (k:Int) c z b5 ts) fun r=>aY r.2∧mj r.1:=by
 unfold vg;refine Ok.ite (fun hk=> ?_) fun _=>CQ n hn hn' c hc _ v id k r1 r2 [] h ts hts _ hb5
 have hk:k=4:=by have:=h.hk;simp at hk;omega
 subst hk;refine Ok.bind (jE n c 3 hc) fun b hb=> ?_
 refine Ok.ite (fun _=> ?_) fun _=>CQ n hn hn' b.2 hb _ v id 4 r1 r2 [] h ts hts _ hb5
 subst hts;show Ok (yp n b.2 ⟨0,[]⟩ ⟨b5.bz,(dR id r1 r2 [⟨[0],1⟩] []).take 4⟩ ((dR id r1 r2 [⟨[0],1⟩] []).take 4)) _;exact CQ n hn hn' b.2 hb _ v id 4 r1 r2 [⟨[0],1⟩] {h with h3:=.inr rfl} _ rfl _ hb5
theorem M4 (n:Nat) (hn:2000≤n) (hn':n<4294967296) (c:ai) (hc:aY c) (z:J) (v id:Int) (k:Nat) (r1:List aB) (h:JX v id k r1 [] [] []) (ts:List aj) (hts:ts=(dR id r1 [] [] []).take k) (b5:J) (hb5:b5.bz=v):
  Ok (yo n (k:Int) c z b5 ts) fun r=>aY r.2∧mj r.1:=by
 unfold yo;refine Ok.ite (fun hk=> ?_) fun _=>wP n hn hn' c hc _ v id k r1 [] h ts hts _ hb5
 refine Ok.bind (jE n c 3 hc) fun b hb=> ?_
 refine Ok.ite (fun _=> ?_) fun _=>wP n hn hn' b.2 hb _ v id k r1 [] h ts hts _ hb5
 subst hts;have hk:k=3∨k=4:=by have:=h.hk;simp at hk;omega
 rcases hk with rfl|rfl
 ·show Ok (vg n (3:Nat) b.2 ⟨0,[]⟩ ⟨b5.bz,(dR id r1 [⟨[0],0⟩] [] []).take 3⟩ ((dR id r1 [⟨[0],0⟩] [] []).take 3)) _;exact wP n hn hn' b.2 hb _ v id 3 r1 [⟨[0],0⟩] {h with h2:=.inr rfl} _ rfl _ hb5
 ·show Ok (vg n (4:Nat) b.2 ⟨0,[]⟩ ⟨b5.bz,(dR id r1 [⟨[0],0⟩] [] []).take 4⟩ ((dR id r1 [⟨[0],0⟩] [] []).take 4)) _;exact wP n hn hn' b.2 hb _ v id 4 r1 [⟨[0],0⟩] {h with h2:=.inr rfl} _ rfl _ hb5
theorem M3 (n:Nat) (hn:2000≤n) (hn':n<4294967296) (c:ai) (hc:aY c) (z:J) (id:Int) (hid:id=4∨id=5) (k:Nat) (hk:k=2∨k=3∨k=4):
  Ok (Kd n (k:Int) id c z) fun r=>aY r.2∧mj r.1:=by
 unfold Kd;refine Ok.bind (de n c 3 hc) fun v ⟨hv,v0,v1,_⟩=> ?_
 have v1:=v1 (by omega)
 simp only[F30,QD,Option.bind_some];have h:∀r1,(r1= []∨r1= [⟨[1],0⟩])→JX v.1 id k r1 [] [] []:=fun r1 h1=>⟨v0,by omega,hid,hk,h1,.inl rfl,.inl rfl,by simp,rfl,by simp⟩
 have e0:gO 4 (k:Int)=some k:=by unfold gO;rw[if_pos (by omega)];rfl
 rw[e0,Option.bind_some];refine Ok.bind (jE n v.2 2 hv) fun b hb=> ?_
 refine Ok.ite (fun _=> ?_) fun _=> ?_
 rotate_left
 ·show Ok (yo n (k:Int) b.2 ⟨0,[]⟩ ⟨v.1,(dR id [] [] [] []).take k⟩ ((dR id [] [] [] []).take k)) _;exact M4 n hn hn' b.2 hb _ v.1 id k [] (h [] (.inl rfl)) _ rfl _ rfl
 have e1:bnd k 1=some 1:=by rcases hk with rfl|rfl|rfl<;>rfl
 rw[e1,Option.bind_some];show Ok (yo n (k:Int) b.2 ⟨0,[]⟩ ⟨v.1,(dR id [⟨[1],0⟩] [] [] []).take k⟩ ((dR id [⟨[1],0⟩] [] [] []).take k)) _;exact M4 n hn hn' b.2 hb _ v.1 id k [⟨[1],0⟩] (h _ (.inr rfl)) _ rfl _ rfl
theorem agV (n:Nat) (hn:2000≤n) (hn':n<4294967296) (c:ai) (hc:aY c):Ok (F9 n c) fun r=>aY r.2∧mj r.1:=by
 unfold F9 Xu;refine Ok.bind (de n c 3 hc) fun v ⟨hv,v0,v1,_⟩=> ?_
 have v1:=v1 (by omega)
 have e:w64 (2+v.1)=((2+v.1.toNat:Nat):Int):=by rw[bZ (by omega) (by omega)];omega
 rw[e];refine Ok.bind (jE n v.2 5 hv) fun b hb=> ?_
 exact Ok.ite (fun _=>M3 n hn hn' b.2 hb _ 5 (.inr rfl) _ (by omega)) fun _=>M3 n hn hn' b.2 hb _ 4 (.inl rfl) _ (by omega)
theorem JT (n0:Nat) (s:J) (t:Nat) (T:aj) (hT:s.ae[t]? =some T) (ht:dk T) (key row:List aa) (gy:row.length≤100) (rows:List (List aa)) (hr:∀r∈rows,r.length=T.af.length) (hrs:rows.length≤100) (ts:List (List (List aa))) (hts:t<ts.length):∀(x:List (List aa)) (i m:Nat) (done:Bool) (out:List (List aa)) (z1 z2:aq),rows.drop i=x→x.length+100<m→out.length+2*x.length≤1000→
  Ok (qh (wT n0) m (t:Int) key row done rows (rows.length:Int) (i:Int) ts s z1 z2 out) fun r=>∃cy,r=(⟨ts.set t cy⟩,ts.set t cy)∧cy.length≤out.length+x.length+(if done=true then 0 else 1)∧∀y∈cy,y∈out∨y∈x∨y=row
 | [],i,m+1,done,out,z1,z2,hd,hm,ho=>by
  have hq':rows.length≤i:=by simpa using hd
  have hq:¬((i:Int)<(rows.length:Int)):=by omega
  have e1:bnd ts.length (t:Int)=some t:=by unfold bnd;rw[if_pos (by omega)];rfl
  have e2:ts[0+t]? =some ts[t]:=by rw[Nat.zero_add];exact List.getElem?_eq_getElem hts
  have e3:∀o,setAt ts (0+t) o=some (ts.set t o):=fun o=>by rw[Nat.zero_add];unfold setAt;rw[if_pos hts]
  simp only[qh,Fu,wT,Ft,hq,decide_false,Bool.false_eq_true,if_false,e1,e2,e3,Option.bind_some,Ay row (by omega)]
  refine Ok.ite (fun hdn=> ?_) fun hdn=> ?_
  ·rw[cR _ _ (by simp at ho ⊢;omega),Option.bind_some]
   refine Ok.pure ⟨_,rfl,by simp at hdn;simp[hdn],fun y hy=> ?_⟩
   rcases List.mem_append.1 hy with h|h
   ·exact .inl h
   ·exact .inr (.inr (by simpa using h))
  ·exact Ok.pure ⟨_,rfl,by omega,fun y hy=>.inl hy⟩
 |r::x,i,m+1,done,out,z1,z2,hd,hm,ho=>by
  obtain ⟨g1,g2,g3⟩:=aP hd;have hq:(i:Int)<(rows.length:Int):=by omega
  have hrl:=hr r (List.mem_of_getElem? g1);have hcl:=ht.aC;have hk2:=ht.bQ;simp at hm ho;have hTi:idx s.ae (t:Int)=some T:=by rw[aW];exact hT
  have step:∀(dn:Bool) (c:Int) (HM:List (List aa)),HM.length≤out.length+1→(∀y∈HM,y∈out∨y=row)→Ok (tr (qh (wT n0) m) m (t:Int) key row dn r c rows (rows.length:Int) (i:Int) ts s ⟨ts⟩ ⟨[]⟩ HM) fun q=>∃cy,q=(⟨ts.set t cy⟩,ts.set t cy)∧cy.length≤HM.length+1+x.length+(if dn=true then 0 else 1)∧∀y∈cy,y∈out∨y∈r::x∨y=row:=by
   intro dn c HM h1 h2;unfold tr;rw[bB g3 (by omega)]
   refine Ok.ite (fun _=> ?_) fun _=> ?_
   ·rw[cR _ _ (by simp;omega),Option.bind_some]
    refine (JT n0 s t T hT ht key row gy rows hr hrs ts hts x (i+1) m dn _ _ _ g2 (by omega) (by simp;omega)).mono fun q ⟨cy,q1,q2,q3⟩=>⟨cy,q1,by simp at q2;omega,fun y hy=> ?_⟩
    rcases q3 y hy with h|h|h
    ·rcases List.mem_append.1 h with h|h
     ·exact (h2 y h).imp id .inr
     ·exact .inr (.inl (by simp at h;simp[h]))
    ·exact .inr (.inl (by simp[h]))
    ·exact .inr (.inr h)
   ·refine (JT n0 s t T hT ht key row gy rows hr hrs ts hts x (i+1) m dn _ _ _ g2 (by omega) (by omega)).mono fun q ⟨cy,q1,q2,q3⟩=>⟨cy,q1,by omega,fun y hy=> ?_⟩
    rcases q3 y hy with h|h|h
    ·exact (h2 y h).imp id .inr
    ·exact .inr (.inl (by simp[h]))
    ·exact .inr (.inr h)
  have same:∀c,Ok (tr (qh (wT n0) m) m (t:Int) key row done r c rows (rows.length:Int) (i:Int) ts s ⟨ts⟩ ⟨[]⟩ out) fun q=>∃cy,q=(⟨ts.set t cy⟩,ts.set t cy)∧cy.length≤out.length+(r::x).length+(if done=true then 0 else 1)∧∀y∈cy,y∈out∨y∈r::x∨y=row:=
   fun c=>(step done c out (by omega) fun y hy=>.inl hy).mono fun q ⟨cy,q1,q2,q3⟩=>⟨cy,q1,by simp only[List.length_cons];omega,q3⟩
  simp only[qh,Fu,hq,decide_true,if_true,aW,g1,Option.bind_some,vb (n:=m) hTi ht r hrl,Az m (r.take T.az.toNat) key (by simp;omega) (by simp;omega)]
  refine Ok.ite (fun _=> ?_) fun _=>same _
  refine Ok.ite (fun hdn=> ?_) fun _=>same _
  have hdn:done=false:=by simpa using hdn
  rw[Ay row (by omega),Option.bind_some,cR _ _ (by simp;omega),Option.bind_some]
  refine (step true _ (out++ [row]) (by simp) fun y hy=>(List.mem_append.1 hy).imp id fun h=>by simpa using h).mono fun q ⟨cy,q1,q2,q3⟩=>⟨cy,q1,?_,q3⟩
  simp[hdn] at q2 ⊢;omega
 |_,_,0,_,_,_,_,_,hm,_=>by simp at hm
structure qJ (s:J) (ts:List (List (List aa))):Prop where
 len:ts.length=s.ae.length
 row:∀(t:Nat) T rows,s.ae[t]? =some T→ts[t]? =some rows→rows.length≤8∧∀r∈rows,bA (bl T) r=true
theorem ady (n:Nat) (hn:1000<n) (s:J) (t:Nat) (T:aj) (hT:s.ae[t]? =some T) (ht:dk T) (key row:List aa) (gy:bA (bl T) row=true) (ts:List (List (List aa))) (rows:List (List aa)) (fA:ts[t]? =some rows) (hl:rows.length≤100) (hr:∀r∈rows,bA (bl T) r=true):
  Ok (F37 n s ⟨ts⟩ (t:Int) key row) fun r=>∃cy,r.2=ts.set t cy∧cy.length≤rows.length+1∧∀y∈cy,bA (bl T) y=true:=by
 have hts:t<ts.length:=(List.getElem?_eq_some_iff.1 fA).1;have hcl:=ht.aC;have hkl:=cA T;have hlen:=dK gy;have e1:bnd ts.length (t:Int)=some t:=by unfold bnd;rw[if_pos (by omega)];rfl
 unfold F37 Qx;simp only[e1,Option.bind_some,Nat.zero_add,fA];refine (JT n s t T hT ht key row (by omega) rows (fun r h=>by rw[dK (hr r h),hkl]) hl ts hts rows 0 n _ [] _ _ rfl (by omega) (by simp;omega)).mono fun q ⟨cy,q1,q2,q3⟩=>⟨cy,by rw[q1],?_,fun y hy=> ?_⟩
 ·simp at q2;split at q2<;>omega
 ·rcases q3 y hy with h|h|h
  ·simp at h
  ·exact hr y h
  ·rw[h];exact gy
theorem JV (k:Int→Int→Int→ai→J→aq→aq→List (List (List aa))→Option (aq×ai)) (s:J) (t:Nat) (T:aj) (hT:s.ae[t]? =some T) (ht:dk T) (a1 a2:Int) (Q:aq×ai→Prop):∀(j m:Nat) (c:ai) (z1 z2:aq) (ts:List (List (List aa))) (rows:List (List aa)),2000+j<m→aY c→ts[t]? =some rows→rows.length+j≤8→(∀r∈rows,bA (bl T) r=true)→
  (∀c' z1' z2' cy,aY c'→cy.length≤8→(∀r∈cy,bA (bl T) r=true)→Ok (k 1 a1 a2 c' s z1' z2' (ts.set t cy)) Q)→
  Ok (wJ k m 1 (t:Int) (j:Int) a1 a2 c s z1 z2 ts) Q
 |0,m+1,c,z1,z2,ts,rows,hm,hc,hg,hl,hr,hk=>by
  have hq:¬(0:Int)<((0:Nat):Int):=by omega
  simp only[wJ,FG,hq,decide_false,Bool.false_eq_true,if_false];have:=hk c ⟨[]⟩ ⟨ts⟩ rows hc (by omega) hr
  have e:ts.set t rows=ts:=by
   obtain ⟨h1,h2⟩:=List.getElem?_eq_some_iff.1 hg;rw[←h2];exact List.set_getElem_self h1
  rwa[e] at this
 |j+1,m+1,c,z1,z2,ts,rows,hm,hc,hg,hl,hr,hk=>by
  have hq:(0:Int)<((j+1:Nat):Int):=by omega
  have hTi:idx s.ae (t:Int)=some T:=by rw[aW];exact hT
  have hcl:=ht.aC;have hkl:=cA T;simp only[wJ,FG,hq,decide_true,if_true,rH hTi (by omega) (by omega:1000<m),Option.bind_some,hTi]
  refine Ok.bind (U6 m (by omega) c (bl T) T.az ht.ks (by omega) hc) fun r ⟨h1,h2⟩=> ?_
  rw[vb (n:=m) hTi ht r.1 (by rw[dK h2,hkl]),Option.bind_some]
  refine Ok.bind (ady m (by omega) s t T hT ht _ r.1 h2 ts rows hg (by omega) hr) fun q ⟨cy,q1,q2,q3⟩=> ?_
  have hw:w64 (((j+1:Nat):Int)-1)=(j:Int):=by rw[bZ (by omega) (by omega)];omega
  rw[hw,q1];have hts:t<ts.length:=(List.getElem?_eq_some_iff.1 hg).1;refine JV k s t T hT ht a1 a2 Q j m r.2 _ _ (ts.set t cy) cy (by omega) h1 (by rw[List.getElem?_set_self hts]) (by omega) q3 fun c' z1' z2' abt k1 k2 k3=> ?_
  rw[List.set_set];exact hk c' z1' z2' abt k1 k2 k3
 |_,0,_,_,_,_,_,hm,_,_,_,_,_=>by omega
theorem JU (n0:Nat) (s:J) (hs:SOK s):∀(x:List aj) (i m:Nat) (c:ai) (z1 z2:aq) (ts:List (List (List aa))),s.ae.drop i=x→2100+x.length<m→aY c→qJ s ts→(∀t,i≤t→t<ts.length→ts[t]? =some [])→
  Ok (tp (AP n0) m 1 (s.ae.length:Int) (i:Int) c s z1 z2 ts) fun r=>aY r.2∧qJ s r.1.ae
 | [],i,m+1,c,z1,z2,ts,hd,hm,hc,hts,h0=>by
  have:s.ae.length≤i:=by simpa using hd
  have hq:¬((i:Int)<(s.ae.length:Int)):=by omega
  simp only[tp,FE,AP,hq,decide_false,Bool.false_eq_true,if_false];exact Ok.pure ⟨hc,hts⟩
 |T::x,i,m+1,c,z1,z2,ts,hd,hm,hc,hts,h0=>by
  obtain ⟨g1,g2,g3⟩:=aP hd;have hq:(i:Int)<(s.ae.length:Int):=by omega
  have hl8:=hs.len;have ht:=hs.tab (i:Int) T (by rw[aW];exact g1)
  simp at hm;simp only[tp,FE,hq,decide_true,if_true];refine Ok.bind (de m c 5 hc) fun r ⟨hr,r0,r1,_⟩=> ?_
  have r1:=r1 (by omega)
  have e:r.1=((r.1.toNat:Nat):Int):=by omega
  rw[e];refine JV (FF (tp (AP n0) m) m) s i T g1 ht _ _ _ r.1.toNat m r.2 _ _ ts [] (by omega) hr (h0 i (Nat.le_refl _) (by rw[hts.len];omega)) (by simp;omega) (by simp) fun c' z1' z2' cy k1 k2 k3=> ?_
  unfold FF;rw[bB g3 (by omega)]
  refine JU n0 s hs x (i+1) m c' _ _ _ g2 (by omega) k1 ⟨by rw[List.length_set];exact hts.len,fun t T' rows hT' fA=> ?_⟩ fun t h1 h2=> ?_
  ·by_cases hti:t=i
   ·subst hti;rw[g1] at hT';cases hT';rw[List.getElem?_set_self (by rw[hts.len];omega)] at fA
    cases fA;exact ⟨k2,k3⟩
   ·rw[List.getElem?_set_ne (fun e=>hti e.symm)] at fA
    exact hts.row t T' rows hT' fA
  ·rw[List.getElem?_set_ne (by omega)]
   rw[List.length_set] at h2;exact h0 t (by omega) h2
 |_,_,0,_,_,_,_,_,hm,_,_,_=>by omega
theorem adE (n:Nat) (hn:3000≤n) (s:J) (hs:SOK s) (c:ai) (hc:aY c):Ok (F11 n c s 1) fun r=>aY r.2∧qJ s r.1.ae:=by
 have hl8:=hs.len;have e:om (s.ae.length:Int) ([]:List (List aa))=some (List.replicate s.ae.length []):=by
  unfold om;rw[if_pos (by omega)];rfl
 unfold F11 QJ;rw[e,Option.bind_some];refine JU n s hs s.ae 0 n c _ _ _ rfl (by omega) hc ⟨by simp,fun t T rows hT fA=> ?_⟩ fun t _ h=> ?_
 ·obtain ⟨h1,h2⟩:=List.getElem?_eq_some_iff.1 fA;simp at h2;subst h2;simp
 ·rw[List.length_replicate] at h;simp[h]
end Go.Proofs.YtmealahmjddpcaaGreatDoor
end
noncomputable section
set_option maxRecDepth 100000
namespace Go.Proofs.YtmealahmjddpcaaGreatDoor
open Go.Sim
theorem C0:∀{ks:List Int} {r:List aa} (j:Nat),bA ks r=true→bA (ks.take j) (r.take j)=true
 |_,_,0,_=>by simp[bA]
 | [],[],j+1,_=>rfl
 |k::ks,v::r,j+1,h=>by
  simp only[bA,Bool.and_eq_true] at h;simp only[List.take_succ_cons,bA,Bool.and_eq_true];exact ⟨h.1,C0 j h.2⟩
 | [],_::_,_+1,h=>by simp[bA] at h
 |_::_,[],_+1,h=>by simp[bA] at h
theorem Hv:∀{ks:List Int} {a b:List aa} (j:Nat),bA ks a=true→bA ks b=true→bA ks (a.take j++b.drop j)=true
 |_,_,_,0,_,h=>by simpa using h
 | [],[],[],j+1,_,_=>rfl
 |k::ks,v::a,w::b,j+1,h1,h2=>by
  simp only[bA,Bool.and_eq_true] at h1 h2;simp only[List.take_succ_cons,List.drop_succ_cons,List.cons_append,bA,Bool.and_eq_true];exact ⟨h1.1,Hv j h1.2 h2.2⟩
 | [],_::_,_,_+1,h,_=>by simp[bA] at h
 |_::_,[],_,_+1,h,_=>by simp[bA] at h
 | [],[],_::_,_+1,_,h=>by simp[bA] at h
 |_::_,_::_,[],_+1,_,h=>by simp[bA] at h
theorem Hw:∀{ks:List Int} {r:List aa} {i:Nat} {v:aa},bA ks r=true→r[i]? =some v→∃k,ks[i]? =some k∧v.ar=k∧gF v=true
 |k::ks,w::r,0,v,h,hv=>by
  simp only[bA,Bool.and_eq_true,beq_iff_eq] at h;simp at hv;subst hv;exact ⟨k,rfl,h.1.2,h.1.1⟩
 |k::ks,w::r,i+1,v,h,hv=>by
  simp only[bA,Bool.and_eq_true] at h;simpa using Hw h.2 (by simpa using hv)
 | [],[],_,_,_,hv=>by simp at hv
 | [],_::_,_,_,h,_=>by simp[bA] at h
 |_::_,[],_,_,_,hv=>by simp at hv
def zt:Int→List Int→Int
 |l,[]=>l
 |_,c::cs=>zt c cs
theorem zr:∀(l:Int) (cs:List Int) (c:Int),zt l (cs++ [c])=c
 |_,[],_=>rfl
 |_,d::cs,c=>zr d cs c
theorem Ac (ks:List Int):∀{last:Int} {cs l:List Int} {c k:Int},dv ks last cs=some l→zt last cs<c→0≤c→ks[c.toNat]? =some k→dv ks last (cs++ [c])=some (l++ [k])
 |last,[],l,c,k,h,h1,h2,hk=>by
  simp[dv] at h;subst h;have hlt:=(List.getElem?_eq_some_iff.1 hk).1;have:last<c∧c<(ks.length:Int):=⟨h1,by omega⟩
  simp[dv,this,hk]
 |last,d::cs,l,c,k,h,h1,h2,hk=>by
  simp only[dv] at h;split at h
  ·rename_i hd;cases h3:dv ks d cs with
   |none=>rw[h3] at h;cases h
   |some l'=>
    rw[h3] at h;simp at h;subst h;have:=Ac ks h3 h1 h2 hk;simp only[List.cons_append,dv,hd,and_self,if_true,this];simp
  ·cases h
def uB (s:J) (w:ak):Prop:=∃T,idx s.ae w.aD=some T∧¬(w.fOp<1∨3<w.fOp)∧wOK T w=true
theorem jF {s:J} {prev:Option ak} {w:ak} {ws:List ak}:dW s prev (w::ws)=0↔uB s w∧mr prev w=false∧dW s (some w) ws=0:=by
 constructor
 ·intro h;simp only[dW] at h;cases hT:idx s.ae w.aD with
  |none=>simp[hT] at h
  |some T=>
   simp only[hT] at h;split at h
   ·cases h
   ·rename_i h1;split at h
    ·cases h
    ·rename_i h2;split at h
     ·cases h
     ·rename_i h3;exact ⟨⟨T,hT,h1,by simpa using h2⟩,by simpa using h3,h⟩
 ·rintro ⟨⟨T,hT,h1,h2⟩,h3,h4⟩;simp only[dW,hT,h1,h2,h3,h4,if_false,Bool.not_true,Bool.false_eq_true]
def zp:Option ak→List ak→Option ak
 |p,[]=>p
 |_,x::a=>zp (some x) a
theorem CT {s:J} {w:ak} {b:List ak} (hw:uB s w) (hb:∀y,b.head? =some y→mr (some w) y=false):∀{a:List ak} {prev:Option ak},dW s prev (a++b)=0→mr (zp prev a) w=false→dW s prev (a++w::b)=0
 | [],prev,h,hl=>by
  rw[List.nil_append,jF];refine ⟨hw,hl,?_⟩;cases b with
  |nil=>rfl
  |cons y b=>
   obtain ⟨h1,_,h3⟩:=jF.1 h;exact jF.2 ⟨h1,hb y rfl,h3⟩
 |x::a,prev,h,hl=>by
  obtain ⟨h1,h2,h3⟩:=jF.1 h;exact jF.2 ⟨h1,h2,CT hw hb h3 hl⟩
theorem CS {s:J}:∀{ws:List ak} {prev:Option ak},dW s prev ws=0→∀w∈ws,uB s w
 | [],_,_,w,hw=>by cases hw
 |x::ws,prev,h,w,hw=>by
  obtain ⟨h1,_,h3⟩:=jF.1 h;rcases List.mem_cons.1 hw with rfl|hw
  ·exact h1
  ·exact CS h3 w hw
theorem Da:∀{a:List ak} {p:Option ak},zp p a=if a= [] then p else a[a.length-1]?
 | [],p=>rfl
 | [x],p=>by simp[zp]
 |x::y::a,p=>by
  have:=Da (a:=y::a) (p:=some x);simp only[zp] at this ⊢;simpa using this
theorem IM {s:J} (hs:SOK s) {w:ak} (h:uB s w):w.az.length≤8:=by
 obtain ⟨T,hT,_,h2⟩:=h;have ht:=hs.tab _ _ hT;have:=ht.aC;have:=ht.bQ;have:=xP ht;simp only[wOK,Bool.and_eq_true] at h2;have:=dK h2.1;omega
theorem Dl {s:J} (hs:SOK s) {w:ak} (h:uB s w):w.af.length≤100:=by
 obtain ⟨T,hT,h1,h2⟩:=h;have ht:=hs.tab _ _ hT;have hc:=ht.aC;have k1:=ht.l8;simp only[wOK,ja,Bool.and_eq_true] at h2;have h2:=h2.2;split at h2
 ·simp at h2;simp[h2.1]
 ·split at h2
  ·cases hcl:dv (bl T) (T.az-1) w.af with
   |none=>rw[hcl] at h2;cases h2
   |some l=>
    have hb:∀{cs:List Int} {last:Int} {l:List Int}, -1≤last→dv (bl T) last cs=some l→(cs.length:Int)+last≤8∨cs= []:=by
     intro cs;induction cs with
     |nil=>intro last l _ _;exact .inr rfl
     |cons c cs ih=>
      intro last l hl h;simp only[dv] at h;split at h
      ·rename_i hd;cases h3:dv (bl T) c cs with
       |none=>rw[h3] at h;cases h
       |some l'=>
        have hkl:=cA T;rcases ih (by omega) h3 with h4|rfl
        ·left;simp;omega
        ·left;simp;omega
      ·cases h
    rcases hb (by omega) hcl with h|h
    ·omega
    ·simp[h]
  ·simp at h2;simp[h2.1]
theorem UP (n0:Nat) (s:J) (t:Nat) (T:aj) (hT:s.ae[t]? =some T) (ht:dk T) (key:List aa) (rows:List (List aa)) (hl:rows.length≤100) (hr:∀r∈rows,r.length=T.af.length):∀(x:List (List aa)) (i m:Nat),rows.drop i=x→x.length+100<m→
  Ok (wm (EY n0) m (t:Int) key rows (rows.length:Int) (i:Int) s) fun r=>r= -1∨(0≤r∧r<(rows.length:Int))
 | [],i,m+1,hd,hm=>by
  have:rows.length≤i:=by simpa using hd
  have hq:¬((i:Int)<(rows.length:Int)):=by omega
  simp only[wm,EZ,EY,hq,decide_false,Bool.false_eq_true,if_false];exact Ok.pure (.inl rfl)
 |r::x,i,m+1,hd,hm=>by
  obtain ⟨g1,g2,g3⟩:=aP hd;have hq:(i:Int)<(rows.length:Int):=by omega
  have hTi:idx s.ae (t:Int)=some T:=by rw[aW];exact hT
  have hc:=ht.aC;have hk2:=ht.bQ;simp at hm;simp only[wm,EZ,hq,decide_true,if_true,aW,g1,Option.bind_some,vb (n:=m) hTi ht r (hr r (List.mem_of_getElem? g1)),Az m (r.take T.az.toNat) key (by simp;omega) (by simp;omega),bB g3 (by omega)]
  refine Ok.ite (fun _=>Ok.pure (.inr ⟨by omega,hq⟩)) fun _=> ?_
  exact UP n0 s t T hT ht key rows hl hr x (i+1) m g2 (by omega)
 |_,_,0,_,hm=>by simp at hm
theorem adz (n:Nat) (hn:1000<n) (s:J) (t:Nat) (T:aj) (hT:s.ae[t]? =some T) (ht:dk T) (key:List aa) (st:aq) (rows:List (List aa)) (fA:st.ae[t]? =some rows) (hl:rows.length≤100) (hr:∀r∈rows,r.length=T.af.length):Ok (F35 n s st (t:Int) key) fun _=>True:=by
 have h1:t<s.ae.length:=(List.getElem?_eq_some_iff.1 hT).1;have h2:t<st.ae.length:=(List.getElem?_eq_some_iff.1 fA).1;have e1:¬(t:Int)<0:=by omega
 have e2:(t:Int)<(s.ae.length:Int):=by omega
 have e3:(t:Int)<(st.ae.length:Int):=by omega
 have hc:=ht.aC;unfold F35 Qz F75 Qg;simp only[e1,e2,e3,decide_false,decide_true,Bool.not_true,Bool.false_eq_true,if_false,aW,fA,Option.bind_some];refine Ok.bind (UP n s t T hT ht key rows hl hr rows 0 n rfl (by omega)) fun q hq=> ?_
 refine Ok.ite (fun _=>Ok.pure trivial) fun hq'=> ?_
 simp at hq';have hq:0≤q∧q<(rows.length:Int):=hq.resolve_left (by omega)
 have hg:idx rows q=some (rows[q.toNat]'(by omega)):=by unfold idx;rw[if_pos hq.1];exact List.getElem?_eq_getElem _
 rw[hg,Option.bind_some,Ay _ (by rw[hr _ (List.getElem_mem _)];omega)]
 exact Ok.pure trivial
abbrev KW:=Int→ai→J→aq→List ak→Option (List ak×ai)
def Be (s:J) (k:KW) (n10:Int) (N:Nat) (Q:List ak×ai→Prop):Prop:=∀c st ws,aY c→qJ s st.ae→dW s none ws=0→ws.length≤N→Ok (k (w64 (n10-1)) c s st ws) Q
theorem tq (s:J) (hs:SOK s) (k:KW) (N:Nat) (hN:N≤100) (Q:List ak×ai→Prop) (n10 a1':Int) (hk:Be s k n10 (N+1) Q) (a1:List aj) (a2:Int) (c:ai) (hc:aY c) (st:aq) (hst:qJ s st.ae) (ws:List ak) (hws:dW s none ws=0) (hl:ws.length≤N) (w:ak) (hw:uB s w) (n0:Nat):∀(i m at_:Nat) (tw:Bool) (cs:List Int) (vs:List aa),i≤ws.length→i+100<m→at_≤ws.length→i≤at_→
  (∀j y,i≤j→j<at_→ws[j]? =some y→gE w.aD w.az y.aD y.az≠ -1)→(∀y,ws[at_]? =some y→gE w.aD w.az y.aD y.az= -1)→(tw=false→∀j y,i≤j→ws[j]? =some y→gE w.aD w.az y.aD y.az≠0)→
  Ok (wK (FI k n0) m n10 (at_:Int) tw ((i:Int)-1) a1 a2 c s st ws ⟨w.fOp,w.aD,w.az,cs,vs⟩ w.af w.bg) Q
 |0,m+1,at_,tw,cs,vs,hi,hm,ha,hia,p1,p2,p3=>by
  have hq:((0:Nat):Int)-1<0:=by omega
  simp only[wK,FJ,FI,hq,decide_true,Bool.not_true,Bool.false_eq_true,if_false];refine Ok.ite (fun htw=> ?_) fun _=>hk c st ws hc hst hws (by omega)
  have htw:tw=false:=by simpa using htw
  have p3:=p3 htw;have e1:gO ws.length (at_:Int)=some at_:=by unfold gO;rw[if_pos (by omega)];rfl
  have e2:sS ws.length (at_:Int)=some at_:=by unfold sS;rw[if_pos (by omega)];rfl
  have e3:(ws.drop (0+at_)).take (ws.length-at_)=ws.drop at_:=by rw[Nat.zero_add];exact List.take_of_length_le (by simp)
  simp only[e1,e2,Option.bind_some,e3];rw[cR _ _ (by simp;omega),Option.bind_some]
  have e4:uY ws at_ ([w]++ws.drop at_)=some (ws.take at_++([w]++ws.drop at_)):=by unfold uY;rw[if_pos (by simp;omega)]
  rw[show (ak.mk w.fOp w.aD w.az w.af w.bg)=w from rfl,e4,Option.bind_some];refine hk c st _ hc hst ?_ (by simp;omega)
  show dW s none (ws.take at_++w::ws.drop at_)=0;refine CT hw (fun y hy=> ?_) (by rw[List.take_append_drop];exact hws) ?_
  ·rw[List.head?_drop] at hy;have:=p2 y hy;simp only[mr,this];rfl
  ·rw[Da];split
   ·rfl
   ·rename_i hne;have hat:0<at_:=by
     rcases Nat.eq_zero_or_pos at_ with h|h
     ·subst h;simp at hne
     ·exact h
    have hlen:(ws.take at_).length=at_:=by rw[List.length_take];omega
    rw[hlen,List.getElem?_take,if_pos (by omega)]
    have hg:ws[at_-1]? =some (ws[at_-1]'(by omega)):=List.getElem?_eq_getElem _
    rw[hg];generalize ws[at_-1]=y at hg;have q1:=p1 (at_-1) y (by omega) (by omega) hg
    have q2:=p3 (at_-1) y (by omega) hg
    have q3:=PD w.aD w.az y.aD y.az;have q4:=Xk w.aD w.az y.aD y.az;have:gE y.aD y.az w.aD w.az<0:=by omega
    simp[mr,this]
 |i+1,m+1,at_,tw,cs,vs,hi,hm,ha,hia,p1,p2,p3=>by
  have hq:¬(((i+1:Nat):Int)-1<0):=by omega
  have e:((i+1:Nat):Int)-1=(i:Int):=by omega
  have e1:bnd ws.length (((i+1:Nat):Int)-1)=some i:=by rw[e];unfold bnd;rw[if_pos (by omega)];rfl
  have e2:ws[0+i]? =some (ws[i]'(by omega)):=by rw[Nat.zero_add];exact List.getElem?_eq_getElem _
  have hg:ws[i]? =some (ws[i]'(by omega)):=List.getElem?_eq_getElem _
  generalize ws[i]=y at e2 hg;have hkl:=IM hs hw;have hw2:w64 (((i+1:Nat):Int)-1-1)=(i:Int)-1:=by rw[bZ (by omega) (by omega)];omega
  simp only[wK,FJ,hq,decide_false,Bool.not_false,if_true,e1,e2,Option.bind_some,U5 m w.aD y.aD w.az y.az (by omega) (by omega),hw2]
  refine Ok.ite (fun h0=> ?_) fun h0=> ?_
  ·have h0:gE w.aD w.az y.aD y.az=0:=by simpa using h0
   refine tq s hs k N hN Q n10 a1' hk a1 a2 c hc st hst ws hws hl w hw n0 i m at_ true _ _ (by omega) (by omega) ha (by omega) (fun j z h1 h2 hz=> ?_) p2 (fun h=>by cases h)
   by_cases hj:j=i
   ·subst hj;rw[hg] at hz;cases hz;omega
   ·exact p1 j z (by omega) h2 hz
  ·have h0:gE w.aD w.az y.aD y.az≠0:=by simpa using h0
   have p3':tw=false→∀j z,i≤j→ws[j]? =some z→gE w.aD w.az z.aD z.az≠0:=fun h j z h1 hz=>by
    by_cases hj:j=i
    ·subst hj;rw[hg] at hz;cases hz;exact h0
    ·exact p3 h j z (by omega) hz
   refine Ok.ite (fun h1=> ?_) fun h1=> ?_
   ·have h1:gE w.aD w.az y.aD y.az= -1:=by simpa using h1
    rw[e];refine tq s hs k N hN Q n10 a1' hk a1 a2 c hc st hst ws hws hl w hw n0 i m i tw _ _ (by omega) (by omega) (by omega) (Nat.le_refl _) (fun j z h1 h2=>by omega) (fun z hz=>by rw[hg] at hz;cases hz;exact h1) p3'
   ·have h1:gE w.aD w.az y.aD y.az≠ -1:=by simpa using h1
    refine tq s hs k N hN Q n10 a1' hk a1 a2 c hc st hst ws hws hl w hw n0 i m at_ tw _ _ (by omega) (by omega) ha (by omega) (fun j z h2 h3 hz=> ?_) p2 p3'
    by_cases hj:j=i
    ·subst hj;rw[hg] at hz;cases hz;exact h1
    ·exact p1 j z (by omega) h3 hz
 |_,0,_,_,_,_,_,hm,_,_,_,_,_=>by omega
theorem Kw (s:J) (hs:SOK s) (k:KW) (N:Nat) (hN:N≤100) (Q:List ak×ai→Prop) (n10:Int) (hk:Be s k n10 (N+1) Q) (a1:List aj) (a2:Int) (c:ai) (hc:aY c) (st:aq) (hst:qJ s st.ae) (ws:List ak) (hws:dW s none ws=0) (hl:ws.length≤N) (w:ak) (hw:uB s w) (n:Nat) (hn:1000<n) (cs:List Int) (vs:List aa):
  Ok (tt k n n10 a1 a2 c s st ws ⟨w.fOp,w.aD,w.az,cs,vs⟩ w.af w.bg) Q:=by
 unfold tt;rw[bZ (by omega) (by omega)]
 exact tq s hs k N hN Q n10 0 hk a1 a2 c hc st hst ws hws hl w hw n ws.length n ws.length false _ _ (Nat.le_refl _) (by omega) (Nat.le_refl _) (Nat.le_refl _) (fun j y h1 h2=>by omega) (fun y hy=>by rw[List.getElem?_eq_none (Nat.le_refl _)] at hy;cases hy) (fun _ j y h1 hy=>by have:=(List.getElem?_eq_some_iff.1 hy).1;omega)
theorem Xp (s:J) (hs:SOK s) (k:KW) (N:Nat) (hN:N≤100) (Q:List ak×ai→Prop) (n10:Int) (hk:Be s k n10 (N+1) Q) (a1:List aj) (a2:Int) (st:aq) (hst:qJ s st.ae) (ws:List ak) (hws:dW s none ws=0) (hl:ws.length≤N) (t:Int) (T:aj) (hT:idx s.ae t=some T) (row:List aa) (gy:bA (bl T) row=true) (key:List aa) (qw:bA (kE T) key=true) (op:Int) (hop:op=2∨op=3) (n0:Nat) (hn0:1000<n0):∀(x:List aa) (i m:Nat) (c:ai) (cs0 cs:List Int) (vs0 vs:List aa) (l:List Int),row.drop i=x→x.length<m→aY c→dv (bl T) (T.az-1) cs=some l→bA l vs=true→zt (T.az-1) cs<(i:Int)→cs.length≤i→vs.length≤i→(op=3→cs= []∧vs= [])→
  Ok (wL (tt k n0) m n10 (i:Int) a1 a2 c s st ws row ⟨op,t,key,cs0,vs0⟩ cs vs) Q:=by
 have ht:=hs.tab _ _ hT;have hcl:=ht.aC;have hkl:=cA T;have hrl:=dK gy;have k1:=ht.l8;have fin:∀(c:ai) (cs0 cs:List Int) (vs0 vs:List aa) (l:List Int),aY c→dv (bl T) (T.az-1) cs=some l→bA l vs=true→(op=3→cs= []∧vs= [])→Ok (tt k n0 n10 a1 a2 c s st ws ⟨op,t,key,cs0,vs0⟩ cs vs) Q:=by
  intro c cs0 cs vs0 vs l hc h1 h2 h3;refine Kw s hs k N hN Q n10 hk a1 a2 c hc st hst ws hws hl ⟨op,t,key,cs,vs⟩ ⟨T,hT,by simp only;omega,?_⟩ n0 hn0 _ _
  rcases hop with rfl|rfl
  ·simp[wOK,qw,ja,h1,h2]
  ·obtain ⟨rfl,rfl⟩:=h3 rfl;simp[wOK,qw,ja]
 intro x;induction x with
 |nil=>
  intro i m c cs0 cs vs0 vs l hd hm hc h1 h2 h3 _ _ h4;obtain ⟨m,rfl⟩:∃m',m=m'+1:=⟨m-1,by simp at hm;omega⟩
  have hq':row.length≤i:=by simpa using hd
  have hq:¬((i:Int)<(row.length:Int)):=by omega
  simp only[wL,FK,hq,decide_false,Bool.false_eq_true,if_false];exact fin c _ cs _ vs l hc h1 h2 h4
 |cons v x ih=>
  intro i m c cs0 cs vs0 vs l hd hm hc h1 h2 h3 hcs hvs h4;obtain ⟨m,rfl⟩:∃m',m=m'+1:=⟨m-1,by simp at hm;omega⟩
  obtain ⟨g1,g2,g3⟩:=aP hd;have hq:(i:Int)<(row.length:Int):=by omega
  simp only[wL,FK,hq,decide_true,if_true];refine Ok.ite (fun ho=> ?_) fun _=>fin c _ cs _ vs l hc h1 h2 h4
  have ho:op=2:=by simpa using ho
  refine Ok.bind (jE m c 2 hc) fun b hb=> ?_
  rw[bB g3 (by omega)]
  refine Ok.ite (fun _=> ?_) fun _=> ?_
  ·have e1:bnd row.length (i:Int)=some i:=by unfold bnd;rw[if_pos (by omega)];rfl
   obtain ⟨kk,q1,q2,q3⟩:=Hw gy g1;rw[cR _ _ (by simp;omega),Option.bind_some,e1,Option.bind_some,Nat.zero_add,g1,Option.bind_some,cR _ _ (by simp;omega),Option.bind_some]
   refine ih (i+1) m b.2 _ _ _ _ (l++ [kk]) g2 (by simp at hm;omega) hb (Ac _ h1 h3 (by omega) (by simpa using q1)) (tU h2 q2 q3) (by rw[zr];omega) (by simp;omega) (by simp;omega) (fun h=>by omega)
  ·exact ih (i+1) m b.2 _ _ _ _ l g2 (by simp at hm;omega) hb h1 h2 (by omega) (by omega) (by omega) h4
theorem Xx (s:J) (hs:SOK s) (k:KW) (N:Nat) (hN:N≤100) (Q:List ak×ai→Prop) (n10:Int) (hk:Be s k n10 (N+1) Q) (a1:List aj) (a2:Int) (c:ai) (hc:aY c) (st:aq) (hst:qJ s st.ae) (ws:List ak) (hws:dW s none ws=0) (hl:ws.length≤N) (t:Nat) (T:aj) (hT:s.ae[t]? =some T) (row:List aa) (gy:bA (bl T) row=true) (n:Nat) (hn:2000<n):
  Ok (wV k n n10 (t:Int) a1 a2 c s st ws row) Q:=by
 have hTi:idx s.ae (t:Int)=some T:=by rw[aW];exact hT
 have ht:=hs.tab _ _ hTi;have hcl:=ht.aC;have hkl:=cA T;have hrl:=dK gy;have k1:=ht.l8;have k2:=ht.bQ;have htl:t<s.ae.length:=(List.getElem?_eq_some_iff.1 hT).1;have hsl:t<st.ae.length:=by rw[hst.len];exact htl
 have fA:st.ae[t]? =some st.ae[t]:=List.getElem?_eq_getElem hsl;generalize st.ae[t]=rows at fA;obtain ⟨r1,r2⟩:=hst.row t T rows hT fA;have e1:gO row.length T.az=some T.az.toNat:=by unfold gO;rw[if_pos (by omega)]
 have qw:bA (kE T) (row.take T.az.toNat)=true:=C0 _ gy;unfold wV;rw[hTi,Option.bind_some];simp only[e1,Option.bind_some,List.drop_zero];rw[cR _ _ (by simp;omega),Option.bind_some,List.nil_append]
 refine Ok.bind (adz n (by omega) s t T hT ht _ st rows fA (by omega) (fun r h=>by rw[dK (r2 r h),hkl])) fun f _=> ?_
 refine Ok.bind (jE n c 8 hc) fun b hb=> ?_
 refine Ok.ite (fun _=> ?_) fun _=> ?_
 ·refine Ok.bind (de n b.2 2 hb) fun o ⟨ho,o0,o1,_⟩=> ?_
  have o1:=o1 (by omega)
  rw[bZ (by omega) (by omega)]
  have e:T.az=((T.az.toNat:Nat):Int):=by omega
  rw[e];exact Xp s hs k N hN Q n10 hk a1 a2 st hst ws hws hl (t:Int) T hTi row gy _ qw (2+o.1) (by omega) n (by omega) (row.drop T.az.toNat) T.az.toNat n o.2 [] [] [] [] [] rfl (by simp;omega) ho rfl rfl (by simp only[zt];omega) (by simp) (by simp) (fun _=>⟨rfl,rfl⟩)
 ·refine Kw s hs k N hN Q n10 hk a1 a2 b.2 hb st hst ws hws hl ⟨1,(t:Int),row.take T.az.toNat,[],row⟩ ⟨T,hTi,by simp,?_⟩ n (by omega) [] row
  simp[wOK,qw,ja,gy,Sl]
theorem JW (s:J) (hs:SOK s) (qu:2≤s.ae.length) (n0:Nat):∀(j m:Nat) (c:ai) (st:aq) (ws:List ak),j+3000<m→aY c→qJ s st.ae→dW s none ws=0→ws.length+j≤50→
  Ok (qi (wU n0) m (j:Int) c s st ws) fun r=>aY r.2∧dW s none r.1=0∧r.1.length≤ws.length+j
 |0,m+1,c,st,ws,hm,hc,hst,hws,hl=>by
  have hq:¬(0:Int)<((0:Nat):Int):=by omega
  simp only[qi,FH,wU,hq,decide_false,Bool.false_eq_true,if_false];exact Ok.pure ⟨hc,hws,by simp⟩
 |j+1,m+1,c,st,ws,hm,hc,hst,hws,hl=>by
  have hq:(0:Int)<((j+1:Nat):Int):=by omega
  have hq2:(0:Int)<(s.ae.length:Int):=by omega
  have hl8:=hs.len;simp only[qi,FH,hq,hq2,decide_true,if_true];refine Ok.bind (de m c _ hc) fun t ⟨ht,t0,t1,_⟩=> ?_
  have t1:=t1 (by omega)
  obtain ⟨tn,te⟩:∃tn:Nat,t.1=(tn:Int):=⟨t.1.toNat,by omega⟩
  rw[te];have htn:tn<s.ae.length:=by omega
  have hT:s.ae[tn]? =some s.ae[tn]:=List.getElem?_eq_getElem htn;generalize s.ae[tn]=T at hT;have hTi:idx s.ae (tn:Int)=some T:=by rw[aW];exact hT
  have hto:=hs.tab _ _ hTi;have hcl:=hto.aC;have hkl:=cA T;have k1:=hto.l8;have k2:=hto.bQ;have hsl:tn<st.ae.length:=by rw[hst.len];exact htn
  have fA:st.ae[tn]? =some st.ae[tn]:=List.getElem?_eq_getElem hsl;generalize st.ae[tn]=rows at fA;obtain ⟨r1,r2⟩:=hst.row tn T rows hT fA;rw[rH hTi (by omega) (by omega:1000<m),Option.bind_some,hTi,Option.bind_some]
  refine Ok.bind (U6 m (by omega) t.2 (bl T) T.az hto.ks (by omega) ht) fun r ⟨h1,h2⟩=> ?_
  have hrl:=dK h2;rw[aW,fA,Option.bind_some];have hw:w64 (((j+1:Nat):Int)-1)=(j:Int):=by rw[bZ (by omega) (by omega)];omega
  have hk:Be s (qi (wU n0) m) ((j+1:Nat):Int) (ws.length+1) fun r=>aY r.2∧dW s none r.1=0∧r.1.length≤ws.length+(j+1):=by
   intro c' st' ws' h1 h2 h3 h4;rw[hw];exact (JW s hs qu n0 j m c' st' ws' (by omega) h1 h2 h3 (by omega)).mono fun q ⟨q1,q2,q3⟩=>⟨q1,q2,by omega⟩
  have fin:=fun c' (hc':aY c') row gy=>Xx s hs (qi (wU n0) m) ws.length (by omega) _ ((j+1:Nat):Int) hk s.ae (s.ae.length:Int) c' hc' st hst ws hws (Nat.le_refl _) tn T hT row gy m (by omega)
  refine Ok.ite (fun hne=> ?_) fun _=>fin _ h1 _ h2
  refine Ok.bind (jE m r.2 3 h1) fun b hb=> ?_
  refine Ok.ite (fun _=> ?_) fun _=>fin _ hb _ h2
  simp at hne;refine Ok.bind (de m b.2 (rows.length:Int) hb) fun q ⟨hq',q0,q1,_⟩=> ?_
  have q1:=q1 (by omega)
  have hg:idx rows q.1=some (rows[q.1.toNat]'(by omega)):=by unfold idx;rw[if_pos q0];exact List.getElem?_eq_getElem _
  have hold:=r2 _ (List.getElem_mem (by omega:q.1.toNat<rows.length))
  generalize rows[q.1.toNat]=old at hg hold;have hol:=dK hold;rw[hg,Option.bind_some,vb (n:=m) hTi hto old (by omega),Option.bind_some]
  have sx:r.1≠ []:=fun e=>by rw[e] at hrl;simp at hrl;omega
  have hcp:cpy r.1 (old.take T.az.toNat)=some (old.take T.az.toNat++r.1.drop T.az.toNat):=by
   unfold cpy;rw[if_neg sx];have:min (old.take T.az.toNat).length r.1.length=T.az.toNat:=by simp;omega
   rw[this,List.take_take,Nat.min_self]
  rw[hcp,Option.bind_some];exact fin _ hq' _ (Hv _ hold h2)
 |_,0,_,_,_,hm,_,_,_,_=>by omega
theorem adF (n:Nat) (hn:5000≤n) (s:J) (hs:SOK s) (qu:2≤s.ae.length) (c:ai) (hc:aY c) (st:aq) (hst:qJ s st.ae) (VY:Nat) (hmost:VY≤10):Ok (F10 n c s st (VY:Int)) fun r=>aY r.2∧dW s none r.1=0∧r.1.length≤VY:=by
 unfold F10 QK;rw[bZ (by omega) (by omega)]
 refine Ok.bind (de n c _ hc) fun r ⟨hr,r0,r1,_⟩=> ?_
 have r1:=r1 (by omega)
 have e:r.1=((r.1.toNat:Nat):Int):=by omega
 rw[e];exact (JW s hs qu n r.1.toNat n r.2 st [] (by omega) hr hst rfl (by simp;omega)).mono fun q ⟨q1,q2,q3⟩=>⟨q1,q2,by simp at q3;omega⟩
end Go.Proofs.YtmealahmjddpcaaGreatDoor
end
noncomputable section
set_option maxRecDepth 100000
namespace Go.Proofs.YtmealahmjddpcaaGreatDoor
open Go.Sim
structure Few (w:ak) (N:Nat):Prop where
 key:w.az.length≤N
 col:w.af.length≤N
 cel:w.bg.length≤N
theorem Few.wB {w:ak} {N:Nat} (h:Few w N) (hN:N≤1000):wB w:=⟨by have:=h.col;omega,by have:=h.key;omega⟩
theorem WM {s:J} (hs:SOK s) {w:ak} (h:uB s w):Few w 100:=by
 refine ⟨by have:=IM hs h;omega,Dl hs h,?_⟩
 have hcols:=Dl hs h;obtain ⟨T,hT,h1,h2⟩:=h;have ht:=hs.tab _ _ hT;have hc:=ht.aC;have k1:=ht.l8;have hkl:=cA T;simp only[wOK,ja,Bool.and_eq_true] at h2;have h2:=h2.2;split at h2
 ·simp at h2;have:=dK h2.2.1;omega
 ·split at h2
  ·cases hcl:dv (bl T) (T.az-1) w.af with
   |none=>rw[hcl] at h2;cases h2
   |some l=>
    rw[hcl] at h2;have:=dK h2;have:=(nJ ht.ks (by omega) hcl).1
    omega
  ·simp at h2;simp[h2.2]
theorem BP {l:List ak} {i:Nat} {w y:ak} (h:y∈l.set i w):y∈l∨y=w:=by
 rcases List.mem_or_eq_of_mem_set h with h|h
 ·exact .inl h
 ·exact .inr h
theorem adC (n:Nat) (hn:1000≤n) (c:ai) (hc:aY c) (l:List ak) (hl:l.length≤100) (hf:∀w∈l,Few w 100):Ok (F13 n c l) fun r=>∀w∈r.1,Few w 101:=by
 have up:∀w∈l,Few w 101:=fun w hw=>by have:=hf w hw;exact ⟨by have:=this.key;omega,by have:=this.col;omega,by have:=this.cel;omega⟩
 unfold F13 QH;rw[cR _ _ (by simp;omega),Option.bind_some,List.nil_append]
 refine Ok.ite (fun h0=> ?_) fun h0=> ?_
 ·refine Ok.bind (de n c 5 hc) fun a ⟨ha,_⟩=>Ok.bind (de n a.2 4 ha) fun b ⟨hb,_⟩=>Ok.pure fun w hw=> ?_
  simp at hw;subst hw;exact ⟨by simp,by simp,by simp⟩
 ·have qu:0<l.length:=by
   rcases Nat.eq_zero_or_pos l.length with h|h
   ·rw[h] at h0;cases h0
   ·exact h
  refine Ok.bind (de n c _ hc) fun i ⟨hi,i0,i1,_⟩=> ?_
  have i1:=i1 (by omega)
  have e1:bnd l.length i.1=some i.1.toNat:=by unfold bnd;rw[if_pos (by omega)]
  have hlt:i.1.toNat<l.length:=by omega
  have e2:l[0+i.1.toNat]? =some l[i.1.toNat]:=by rw[Nat.zero_add];exact List.getElem?_eq_getElem hlt
  have hw:=hf _ (List.getElem_mem hlt);generalize l[i.1.toNat]=w at e2 hw;have e3:∀w',setAt l (0+i.1.toNat) w'=some (l.set i.1.toNat w'):=fun w'=>by rw[Nat.zero_add];unfold setAt;rw[if_pos hlt]
  have im:∀w',Few w' 101→∀y∈l.set i.1.toNat w',Few y 101:=fun w' h y hy=>by
   rcases BP hy with h'|h'
   ·exact up y h'
   ·rw[h'];exact h
  have b0:bnd l.length 0=some 0:=by unfold bnd;rw[if_pos (by omega)];rfl
  have g0:l[0+0]? =some l[0]:=List.getElem?_eq_getElem qu;have hw0:=List.getElem_mem qu;generalize l[0]=w0 at g0 hw0;have hk:=hw.key;have hcl:=hw.col;have hce:=hw.cel;rw[e1,Option.bind_some];refine Ok.bind (de n i.2 8 hi) fun q ⟨hq,q0,q1,_⟩=> ?_
  simp only[e2,e3,Option.bind_some,b0,g0];refine Ok.ite (fun _=>Ok.bind (de n q.2 5 hq) fun a ⟨ha,_⟩=>Ok.pure (im _ ⟨by simp only;omega,by simp only;omega,by simp only;omega⟩)) fun _=> ?_
  refine Ok.ite (fun _=>Ok.bind (de n q.2 7 hq) fun a ⟨ha,_⟩=>Ok.pure (im _ ⟨by simp only;omega,by simp only;omega,by simp only;omega⟩)) fun _=> ?_
  refine Ok.ite (fun _=> ?_) fun _=> ?_
  ·rw[cR _ _ (by simp;omega),Option.bind_some,List.nil_append]
   refine Ok.bind (J1 n (by omega) q.2 hq) fun a ⟨ha,_⟩=> ?_
   rw[cR _ _ (by simp;omega),Option.bind_some]
   exact Ok.pure (im _ ⟨by simp;omega,by simp only;omega,by simp only;omega⟩)
  refine Ok.ite (fun _=> ?_) fun _=> ?_
  ·rw[cR _ _ (by simp;omega),Option.bind_some,List.nil_append]
   refine Ok.bind (J1 n (by omega) q.2 hq) fun a ⟨ha,_⟩=> ?_
   rw[cR _ _ (by simp;omega),Option.bind_some]
   exact Ok.pure (im _ ⟨by simp only;omega,by simp only;omega,by simp;omega⟩)
  refine Ok.ite (fun _=> ?_) fun _=> ?_
  ·rw[cR _ _ (by simp;omega),Option.bind_some,List.nil_append]
   refine Ok.bind (de n q.2 5 hq) fun a ⟨ha,_⟩=> ?_
   rw[cR _ _ (by simp;omega),Option.bind_some]
   exact Ok.pure (im _ ⟨by simp only;omega,by simp;omega,by simp only;omega⟩)
  refine Ok.ite (fun _=> ?_) fun _=> ?_
  ·rw[cR _ _ (by simp;omega),Option.bind_some]
   refine Ok.pure fun y hy=> ?_
   rcases List.mem_append.1 hy with h|h
   ·exact up y h
   ·simp at h;subst h;exact up _ hw0
  refine Ok.ite (fun _=> ?_) fun _=> ?_
  ·have hw1:w64 ((l.length:Int)-1)=((l.length-1:Nat):Int):=by rw[bZ (by omega) (by omega)];omega
   have b1:bnd l.length ((l.length-1:Nat):Int)=some (l.length-1):=by unfold bnd;rw[if_pos (by omega)];simp
   have g1:l[0+(l.length-1)]? =some (l[l.length-1]'(by omega)):=by rw[Nat.zero_add];exact List.getElem?_eq_getElem _
   have hm1:=List.getElem_mem (by omega:l.length-1<l.length)
   generalize l[l.length-1]=w1 at g1 hm1;have s0:setAt l (0+0) w1=some (l.set 0 w1):=by unfold setAt;rw[if_pos (by omega)]
   have g2:(l.set 0 w1)[0+(l.length-1)]? =some ((l.set 0 w1)[l.length-1]'(by simp;omega)):=by rw[Nat.zero_add];exact List.getElem?_eq_getElem _
   have s1:setAt (l.set 0 w1) (0+(l.length-1)) w0=some ((l.set 0 w1).set (l.length-1) w0):=by rw[Nat.zero_add];unfold setAt;rw[if_pos (by simp;omega)]
   simp only[hw1,b1,g1,Option.bind_some,s0,g2,s1];refine Ok.pure fun y hy=> ?_
   rcases BP hy with h|h
   ·rcases BP h with h|h
    ·exact up y h
    ·rw[h];exact up _ hm1
   ·rw[h];exact up _ hw0
  ·refine Ok.ite (fun h5=> ?_) fun _=>Ok.pure up
   simp at h5;rw[cR _ _ (by simp;omega),Option.bind_some,List.nil_append]
   refine Ok.bind (de n q.2 _ hq) fun j ⟨hj,j0,j1,_⟩=> ?_
   have j1:=j1 (by omega)
   refine Ok.bind (J1 n (by omega) j.2 hj) fun a ⟨ha,_⟩=> ?_
   have b1:bnd w.bg.length j.1=some j.1.toNat:=by unfold bnd;rw[if_pos (by omega)]
   have g1:w.bg[0+j.1.toNat]? =some (w.bg[j.1.toNat]'(by omega)):=by rw[Nat.zero_add];exact List.getElem?_eq_getElem _
   have s1:setAt w.bg (0+j.1.toNat) a.1=some (w.bg.set j.1.toNat a.1):=by rw[Nat.zero_add];unfold setAt;rw[if_pos (by omega)]
   simp only[b1,g1,s1,Option.bind_some];exact Ok.pure (im _ ⟨by simp only;omega,by simp only;omega,by simp;omega⟩)
theorem aaO (k:List ak→List ak→List ak→J→ai→J→Option Bool) (raw l:List ak) (b5:J) (b15:ai) (b8:J) (P:ak→Prop):∀(j m:Nat) (many:List ak),j≤4→10<m+j→many.length≤10*2 ^ j→(∀w∈many,P w)→(∀NW,NW.length≤200→(∀w∈NW,P w)→k raw l NW b5 b15 b8=some true)→CK k m raw l many (j:Int) b5 b15 b8=some true:=by
 intro j;induction h:4-j generalizing j with
 |zero=>
  intro m many hj hm hl hP hk;obtain ⟨m,rfl⟩:∃m',m=m'+1:=⟨m-1,by omega⟩
  have:j=4:=by omega
  subst this;have hq:¬((4:Nat):Int)<4:=by omega
  simp only[CK,Qu,hq,decide_false,Bool.false_eq_true,if_false];exact hk many (by omega) hP
 |succ d ih=>
  intro m many hj hm hl hP hk;obtain ⟨m,rfl⟩:∃m',m=m'+1:=⟨m-1,by omega⟩
  have hq:(j:Int)<4:=by omega
  have hb:many.length≤10*2 ^ 3:=Nat.le_trans hl (Nat.mul_le_mul_left _ (Nat.pow_le_pow_right (by omega) (by omega)))
  have hw:w64 ((j:Int)+1)=((j+1:Nat):Int):=by rw[bZ (by omega) (by omega)];rfl
  simp only[CK,Qu,hq,decide_true,if_true];rw[cR _ _ (by simp;omega),Option.bind_some,List.nil_append,cR _ _ (by omega),Option.bind_some,hw]
  refine ih (j+1) (by omega) m _ (by omega) (by omega) ?_ (fun w hw=> ?_) hk
  ·rw[List.length_append,Nat.pow_succ];omega
  ·rcases List.mem_append.1 hw with h|h<;>exact hP w h
theorem abV (aK:List Int) (hb:∀x∈aK,0≤x∧x≤255) (raw:List ak) (hraw:∀w∈raw,wB w) (rs:J) (hrs:∀T∈rs.ae,szT T):F3 3000000 aK raw rs=some true:=by
 unfold F3 Xw;obtain ⟨c,hc,c1⟩:=agW 3000000 aK 300 hb (by omega) (by omega)
 rw[hc,Option.bind_some];obtain ⟨s,hs,s1,s2⟩:=agV 3000000 (by omega) (by omega) c c1
 have hok:=s2.ok;rw[hs,Option.bind_some];obtain ⟨st,hst,st1,st2⟩:=adE 3000000 (by omega) s.1 hok s.2 s1
 rw[hst,Option.bind_some];obtain ⟨l,hl,l1,l2,l3⟩:=adF 3000000 (by omega) s.1 hok s2.pos st.2 st1 st.1 st2 6 (by omega)
 rw[show ((6:Nat):Int)=6 from rfl] at hl;rw[hl,Option.bind_some];have hfew:∀w∈l.1,Few w 100:=fun w hw=>WM hok (CS l2 w hw)
 have hlB:∀w∈l.1,wB w:=fun w hw=>(hfew w hw).wB (by omega)
 have chk:∀(n:Nat),2000100≤n→n<4294967296→∀(s:J),(∀T∈s.ae,szT T)→∀ws:List ak,(∀w∈ws,wB w)→F12 n s ws=some (tJ s (oh s) ws)∧F14 n s ws=some (tJ s (oh s) ws):=fun n h1 h2 s hz ws hws=>
  ⟨adD n s _ (adx n s hz (by omega) h2) xv ws hws h1,adB n s _ (adt n s hz (by omega) h2) xv ws hws h1⟩
 refine aaO (Qs 3000000) raw l.1 rs l.2 s.1 wB 0 3000000 l.1 (by omega) (by omega) (by omega) hlB fun many hm1 hm2=> ?_
 unfold Qs;rw[(chk 3000000 (by omega) (by omega) s.1 s2.sz l.1 hlB).1,Option.bind_some]
 have h0:tJ s.1 (oh s.1) l.1=0:=by
  have:¬64<l.1.length:=by omega
  simp[tJ,s2.chk,this,l2]
 rw[h0];obtain ⟨sp,hsp,sp1⟩:=adC 3000000 (by omega) l.2 l1 l.1 (by omega) hfew
 simp only[bne_self_eq_false,Bool.false_eq_true,if_false,hsp,Option.bind_some];have hspB:∀w∈sp.1,wB w:=fun w hw=>(sp1 w hw).wB (by omega)
 have fin:vh 3000000 raw l.1 rs=some true:=by
  unfold vh;obtain ⟨a1,a2⟩:=chk 3000000 (by omega) (by omega) rs hrs raw hraw
  obtain ⟨b1,b2⟩:=chk 3000000 (by omega) (by omega) rs hrs l.1 hlB
  simp only[a1,a2,b1,b2,Option.bind_some,beq_self_eq_true,if_true,F15]
 have step:∀(m j:Nat) (x:List ak),2000100≤m→m<4294967296→j<3→ [sp.1,raw,many][j]? =some x→(∀w∈x,wB w)→u0 (vh 3000000) (m+1) raw l.1 (j:Int) rs s.1 [sp.1,raw,many]=u0 (vh 3000000) m raw l.1 ((j+1:Nat):Int) rs s.1 [sp.1,raw,many]:=by
  intro m j x h1 h2 hj hx hB;have hq:(j:Int)<3:=by omega
  have e:bnd [sp.1,raw,many].length (j:Int)=some j:=by unfold bnd;rw[if_pos (by simp;omega)];rfl
  have hw:w64 ((j:Int)+1)=((j+1:Nat):Int):=by rw[bZ (by omega) (by omega)];rfl
  obtain ⟨a1,a2⟩:=chk m h1 h2 s.1 s2.sz x hB;simp only[u0,Qt,hq,decide_true,if_true,e,Option.bind_some,Nat.zero_add,hx,a1,a2,bne_self_eq_false,Bool.false_eq_true,if_false,hw]
 rw[show (0:Int)=((0:Nat):Int) from rfl,step 2999999 0 sp.1 (by omega) (by omega) (by omega) rfl hspB,step 2999998 1 raw (by omega) (by omega) (by omega) rfl hraw,step 2999997 2 many (by omega) (by omega) (by omega) rfl hm2]
 have base:∀m,u0 (vh 3000000) (m+1) raw l.1 ((2+1:Nat):Int) rs s.1 [sp.1,raw,many]=vh 3000000 raw l.1 rs:=by
  intro m;have hq:¬(((2+1:Nat):Int)<3):=by omega
  simp only[u0,Qt,hq,decide_false,Bool.false_eq_true,if_false]
 exact (base 2999996).trans fin
end Go.Proofs.YtmealahmjddpcaaGreatDoor
end
noncomputable section
namespace Go.Proofs.YtmealahmjddpcaaGreatDoor
open Go.Sim
theorem Wr {k:IntKind} {n:Int} (h:zP (.int k n)):k.min≤n∧n≤k.max:=by
 simpa[zP,Lit.wf] using h
theorem uH:∀{rows:List (List AV)},oQ rows→∀r∈rows,jM r
 | [],_,_,h=>by simp at h
 |r::rs,h,x,hx=>by
  rcases List.mem_cons.1 hx with rfl|hx
  ·exact h.1
  ·exact uH h.2 x hx
theorem Px {aK:List Int} (h:zP (.slice 5 1 (mq aK))):∀x∈aK,0≤x∧x≤255:=by
 intro x hx;have h1:=uH (show oQ (mq aK) from h) (I6 x) (List.mem_map.2 ⟨x,hx,rfl⟩);have h2:=Wr (show zP (.int .u8 x) from h1.1);simpa[IntKind.min,IntKind.max,IntKind.signed,IntKind.bits] using h2
theorem yl {α:Type} {en:α→List AV} (he:∀x,1≤cB (en x)):∀xs:List α,xs.length≤fF (xs.map en)
 | []=>by simp
 |x::xs=>by
  have:=yl he xs;have:=he x;simp only[List.map_cons,fF,List.length_cons];omega
theorem yk {α:Type} {en:α→List AV} {x:α}:∀{xs:List α},x∈xs→cB (en x)≤fF (xs.map en)
 |y::xs,h=>by
  simp only[List.map_cons,fF];rcases List.mem_cons.1 h with rfl|h
  ·omega
  ·have:=yk (en:=en) h;omega
 | [],h=>by cases h
mutual
theorem Vh:∀p:ag,szP p≤cB (oS p)
 |⟨op,c,l,r,args⟩=>by
  have:=rS args;simp only[oS,cB,jj,szP];omega
theorem rS:∀ps:List ag,szL ps≤fF (dV ps)
 | []=>by simp[szL]
 |p::ps=>by
  have h1:=Vh p;have h2:=rS ps;have h3:1+szP p≤cB (oS p):=by
   obtain ⟨op,c,l,r,args⟩:=p;have:=rS args;simp only[oS,cB,jj,szP];omega
  simp only[dV,fF,szL];omega
end
theorem Vx {raw:List ak} (h:cB [.slice 55 5 (cc raw)]≤1048576):∀w∈raw,wB w:=by
 intro w hw;have h1:=yk (en:=hY) hw;rw[←rX] at h1;simp only[cB,jj] at h;simp only[hY,cB,jj] at h1;have h2:=yl (en:=Cz) (fun x=>by simp[Cz,cB,jj]) w.af
 have h3:=yl (en:=gd) (fun x=>by simp[gd,cB,jj]) w.az
 rw[←tT] at h2;rw[←rV] at h3;exact ⟨by omega,by omega⟩
theorem KT {s:J} (h:cB (aX s)≤1048576):∀T∈s.ae,szT T:=by
 intro T hT p hp;have h1:=yk (en:=dX) hT;rw[←rW] at h1;simp only[aX,cB,jj] at h;simp only[dX,cB,jj] at h1;have h2:=rS T.bK;have h3:=lM hp;omega
theorem ub (y0:List Int) (y1:List ak) (y2:J) (h0:jM [.slice 5 1 (mq y0)]) (h1:jM [.slice 55 5 (cc y1)]) (h2:jM (aX y2)) (hb:cB [.slice 5 1 (mq y0)]+cB [.slice 55 5 (cc y1)]+cB (aX y2)≤1048576):∃n,F3 n y0 y1 y2=some true:=
 ⟨3000000,abV y0 (Px h0.1) y1 (Vx (by omega)) y2 (KT (by omega))⟩
end Go.Proofs.YtmealahmjddpcaaGreatDoor
end
