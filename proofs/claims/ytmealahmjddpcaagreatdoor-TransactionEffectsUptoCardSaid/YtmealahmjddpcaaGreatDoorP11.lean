/- Texts that belong together. The first: Plain laws: the makers of cases (numbers, texts, values). Condition: codes of at most 1000 bytes, enough steps. -/
import Derived.Test.YtmealahmjddpcaaGreatDoorP10
import Derived.Laws.RangeString
import Derived.Laws.RangeAny
set_option linter.all false
set_option maxRecDepth 100000
noncomputable section
namespace Go.Proofs.YtmealahmjddpcaaGreatDoor
open Go.Sim
def Ok {α:Type} (x:Option α) (P:α→Prop):Prop:=∃a,x=some a∧P a
theorem Ok.pure {α:Type} {a:α} {P:α→Prop} (h:P a):Ok (some a) P:=⟨a,rfl,h⟩
theorem Ok.bind {α β:Type} {x:Option α} {f:α→Option β} {P:α→Prop} {Q:β→Prop} (h:Ok x P) (k:∀a,P a→Ok (f a) Q):Ok (x.bind f) Q:=by
 obtain ⟨a,rfl,ha⟩:=h;exact k a ha
theorem Ok.mono {α:Type} {x:Option α} {P Q:α→Prop} (h:Ok x P) (k:∀a,P a→Q a):Ok x Q:=by
 obtain ⟨a,h1,h2⟩:=h;exact ⟨a,h1,k a h2⟩
theorem Ok.ite {α:Type} {b:Bool} {x y:Option α} {P:α→Prop} (h1:b=true→Ok x P) (h2:b=false→Ok y P):Ok (if b=true then x else y) P:=by
 cases b with
 |true=>simpa using h1 rfl
 |false=>simpa using h2 rfl
structure bh (c:an):Prop where
 lo:0≤c.fat
 hi:c.fat≤c.gi.length
 len:c.gi.length≤1000
 byte:∀x∈c.gi,0≤x∧x≤255
theorem dy {α:Type} (xs ys:List α) (h:xs.length+ys.length≤1000000):app xs ys=some (xs++ys):=by unfold app;rw[if_pos (by omega)]
theorem akS (n:Nat) (aQ:List Int) (m:Int) (hb:∀x∈aQ,0≤x∧x≤255) (h0:0≤m) (h1:m≤1000):Ok (F8 n aQ m) bh:=by
 unfold F8 aah;have hc:∃k:Nat,(if m<(aQ.length:Int) then m else (aQ.length:Int))=(k:Int)∧k≤aQ.length∧k≤1000:=by
  by_cases h:m<(aQ.length:Int)
  ·exact ⟨m.toNat,by rw[if_pos h];omega,by omega,by omega⟩
  ·exact ⟨aQ.length,by rw[if_neg h],Nat.le_refl _,by omega⟩
 obtain ⟨k,e,k1,k2⟩:=hc;rw[e];have h2:cut aQ none (some (k:Int))=some (aQ.take k):=by simp[cut,k1]
 rw[h2,Option.bind_some,dy _ _ (by simp;omega),Option.bind_some]
 refine Ok.pure ⟨Int.le_refl _,by simp,by simp;omega,fun x hx=> ?_⟩
 exact hb x (List.mem_of_mem_take (by simpa using hx))
theorem gk (n:Nat) (c:an) (m:Int) (h:bh c):Ok (F24 n c m) fun r=>bh r.2∧0≤r.1∧(1≤m→r.1<m)∧(m<1→r.1=0)∧r.1≤255:=by
 unfold F24 S1;refine Ok.ite (fun h1=>Ok.pure ⟨h,Int.le_refl _,fun h=>by omega,fun _=>rfl,by omega⟩) fun h1=> ?_
 simp at h1;refine Ok.ite (fun h2=>Ok.pure ⟨h,Int.le_refl _,fun h=>by omega,fun _=>rfl,by omega⟩) fun h2=> ?_
 simp at h2;have h3:=h.lo;have h4:=h.len;rw[bY (x:=c.fat+1) (by omega) (by omega),bY (by omega) (by omega)]
 have e:c.fat+1-1=(c.fat.toNat:Int):=by omega
 have hlt:c.fat.toNat<c.gi.length:=by omega
 rw[e,aO,List.getElem?_eq_getElem hlt,Option.bind_some];have hb:=h.byte (c.gi[c.fat.toNat]) (List.getElem_mem _);rw[bY (by omega) (by omega)]
 have hm:m≠0:=by omega
 simp only[rem,hm,if_false,Option.bind_some];have q1:=Int.tmod_nonneg m hb.1;have q2:=Int.tmod_lt_of_pos c.gi[c.fat.toNat] (by omega:0<m)
 have q3:c.gi[c.fat.toNat].tmod m≤c.gi[c.fat.toNat]:=by
  rw[Int.tmod_eq_emod_of_nonneg hb.1];have:=Int.emod_add_mul_ediv c.gi[c.fat.toNat] m;have h5:0≤m*(c.gi[c.fat.toNat] / m):=Int.mul_nonneg (by omega) (Int.ediv_nonneg hb.1 (by omega))
  omega
 exact Ok.pure ⟨⟨by simp;omega,by simp;omega,h4,h.byte⟩,q1,fun _=>q2,fun h=>by omega,by simp;omega⟩
theorem kB (n:Nat) (c:an) (m:Int) (h:bh c):Ok (F29 n c m) fun r=>bh r.2:=by
 unfold F29 SZ;refine Ok.bind (gk n c m h) fun r hr=> ?_
 exact Ok.pure hr.1
theorem aeI (n:Nat) (c:an) (h:bh c):Ok (RY n c) fun r=>bh r.2∧ -9223372036854775808≤r.1∧r.1≤9223372036854775807:=by
 unfold RY Mn;refine Ok.bind (gk n c 12 h) fun r ⟨hr,h0,_,_,h2⟩=> ?_
 refine Ok.ite (fun _=>Ok.pure ⟨hr,by simp,by simp⟩) fun _=> ?_
 refine Ok.ite (fun _=>Ok.pure ⟨hr,by simp,by simp⟩) fun _=> ?_
 refine Ok.ite (fun _=>Ok.pure ⟨hr,by simp,by simp⟩) fun _=> ?_
 have q1:=Int.tmod_nonneg 4 h0;have q2:=Int.tmod_lt_of_pos r.1 (by omega:(0:Int)<4)
 exact Ok.pure ⟨hr,by simp;omega,by simp;omega⟩
theorem Fb (c:an):∀(k n:Nat) (s:ByteArray) (i:Int),i=64-k→k≤64→s.size=64-k→k<n→Ok (ta (fun l b=>some (l,b)) n s i c) fun r=>r.2=c∧r.1.size≤64
 |0,n+1,s,i,hi,_,hs,_=>by
  have h:¬i<64:=by omega
  simp only[ta,Cl,h,decide_false,Bool.false_eq_true,if_false];exact Ok.pure ⟨rfl,by simp;omega⟩
 |k+1,n+1,s,i,hi,hk,hs,hn=>by
  have h:i<64:=by omega
  simp only[ta,Cl,h,decide_true,if_true];have hc:cat s (ByteArray.mk #[255])=some (s++ByteArray.mk #[255]):=by
   have:(ByteArray.mk #[255]).size=1:=rfl;unfold cat;rw[if_pos (by omega)]
  rw[hc,Option.bind_some,bY (by omega) (by omega)]
  have hsz:(s++ByteArray.mk #[255]).size=s.size+1:=by rw[ByteArray.size_append];rfl
  exact Fb c k n _ _ (by omega) (by omega) (by omega) (by omega)
 |_,0,_,_,_,_,_,hn=>by simp at hn
theorem Fa (c:an):∀(k n:Nat) (s:ByteArray) (i:Int),i=64-k→k≤64→s.size=64-k→k<n→Ok (s9 (fun l b=>some (l,b)) n s i c) fun r=>r.2=c∧r.1.size≤64
 |0,n+1,s,i,hi,_,hs,_=>by
  have h:¬i<64:=by omega
  simp only[s9,Ck,h,decide_false,Bool.false_eq_true,if_false];exact Ok.pure ⟨rfl,by simp;omega⟩
 |k+1,n+1,s,i,hi,hk,hs,hn=>by
  have h:i<64:=by omega
  simp only[s9,Ck,h,decide_true,if_true];have hc:cat s (ByteArray.mk #[98])=some (s++ByteArray.mk #[98]):=by
   have:(ByteArray.mk #[98]).size=1:=rfl;unfold cat;rw[if_pos (by omega)]
  rw[hc,Option.bind_some,bY (by omega) (by omega)]
  have hsz:(s++ByteArray.mk #[98]).size=s.size+1:=by rw[ByteArray.size_append];rfl
  exact Fa c k n _ _ (by omega) (by omega) (by omega) (by omega)
 |_,0,_,_,_,_,_,hn=>by simp at hn
theorem aeH (n:Nat) (hn:100≤n) (c:an) (h:bh c):Ok (RX n c) fun r=>bh r.2∧r.1.size≤64:=by
 unfold RX Mm;refine Ok.bind (gk n c 10 h) fun r ⟨hr,_⟩=> ?_
 refine Ok.ite (fun _=>Ok.pure ⟨hr,Nat.le_of_ble_eq_true rfl⟩) fun _=> ?_
 refine Ok.ite (fun _=>Ok.pure ⟨hr,Nat.le_of_ble_eq_true rfl⟩) fun _=> ?_
 refine Ok.ite (fun _=>Ok.pure ⟨hr,Nat.le_of_ble_eq_true rfl⟩) fun _=> ?_
 refine Ok.ite (fun _=>Ok.pure ⟨hr,Nat.le_of_ble_eq_true rfl⟩) fun _=> ?_
 refine Ok.ite (fun _=>Ok.pure ⟨hr,Nat.le_of_ble_eq_true rfl⟩) fun _=> ?_
 refine Ok.ite (fun _=>Ok.pure ⟨hr,Nat.le_of_ble_eq_true rfl⟩) fun _=> ?_
 refine Ok.ite (fun _=>Ok.pure ⟨hr,Nat.le_of_ble_eq_true rfl⟩) fun _=> ?_
 refine Ok.ite (fun _=>Ok.pure ⟨hr,Nat.le_of_ble_eq_true rfl⟩) fun _=> ?_
 refine Ok.ite (fun _=> ?_) fun _=> ?_
 ·exact (Fb r.2 64 n ByteArray.empty 0 (by omega) (by omega) rfl (by omega)).mono fun x ⟨e,hx⟩=>⟨by rw[e];exact hr,hx⟩
 ·exact (Fa r.2 64 n ByteArray.empty 0 (by omega) (by omega) rfl (by omega)).mono fun x ⟨e,hx⟩=>⟨by rw[e];exact hr,hx⟩
theorem LI (n:Nat) (hn:100≤n) (c:an) (k:Int) (h:bh c) (hk:3≤k) (hk':k≤5):Ok (F74 n c k) fun r=>bh r.2∧r.1.aD=k∧iq r.1=true:=by
 unfold F74 Sh;refine Ok.ite (fun h3=> ?_) fun h3=> ?_
 ·simp at h3;refine Ok.bind (gk n c 2 h) fun r ⟨hr,h0,h1,_⟩=>Ok.pure ⟨hr,rfl,?_⟩
  have h1:=h1 (by omega)
  have:r.1=0∨r.1=1:=by omega
  rcases this with e|e<;>simp[iq,iE,h3,e]
 ·simp at h3;refine Ok.ite (fun h4=> ?_) fun h4=> ?_
  ·simp at h4;refine Ok.bind (aeI n c h) fun r ⟨hr,_⟩=>Ok.pure ⟨hr,rfl,by simp[iq,iE,h4]⟩
  ·simp at h4;refine Ok.bind (aeH n hn c h) fun r ⟨hr,hs⟩=>Ok.pure ⟨hr,by simp;omega,?_⟩
   have:(r.1.size:Int)≤64:=by omega
   simp[iq,iE,this]
def kOK (k:Int):Bool:=k==3||k==4||k==5
def fN (l:List Int):Bool:=l.all kOK
theorem bA {i L:Nat} (h:i<L) (hl:L<4294967296):w64 ((i:Int)+1)=((i+1:Nat):Int):=by rw[bY (by omega) (by omega)];rfl
theorem aeG (n:Nat) (k:Int):RW n k=some (kOK k):=by
 unfold RW Mf kOK;by_cases h3:k=3
 ·simp[h3]
 ·by_cases h4:k=4
  ·simp[h4]
  ·simp[h3,h4]
theorem OB (xs:List Int) (hl:xs.length<4294967296):∀(l:List Int) (i n:Nat),xs.drop i=l→l.length<n→tg (some true) n xs (xs.length:Int) (i:Int)=some (fN l)
 | [],i,n+1,hd,hn=>by
  have:xs.length≤i:=by simpa using hd
  have h:¬((i:Int)<(xs.length:Int)):=by omega
  simp[tg,Cr,h,fN]
 |x::l,i,n+1,hd,hn=>by
  obtain ⟨h1,h2,h3⟩:=ba hd;have h:((i:Int)<(xs.length:Int)):=by omega
  have ih:=OB xs hl l (i+1) n h2 (by simp at hn;omega)
  simp only[tg,Cr,h,decide_true,if_true,aO,h1,Option.bind_some,aeG,bA h3 hl,ih];simp only[fN,List.all_cons];cases kOK x<;>simp
 |_,_,0,_,hn=>by simp at hn
theorem OJ (n:Nat) (xs:List Int) (hl:xs.length<4294967296) (hn:xs.length<n):LR n xs=some (fN xs):=by
 have:=OB xs hl xs 0 n rfl hn;simpa[LR,Mt,Mu] using this
theorem Oz (xs:List Int) (hl:xs.length<4294967296):∀(l:List Int) (i n:Nat),xs.drop i=l→l.length<n→s8 (some true) n xs (xs.length:Int) (i:Int)=some (fN l)
 | [],i,n+1,hd,hn=>by
  have:xs.length≤i:=by simpa using hd
  have h:¬((i:Int)<(xs.length:Int)):=by omega
  simp[s8,Ci,h,fN]
 |x::l,i,n+1,hd,hn=>by
  obtain ⟨h1,h2,h3⟩:=ba hd;have h:((i:Int)<(xs.length:Int)):=by omega
  have ih:=Oz xs hl l (i+1) n h2 (by simp at hn;omega)
  simp only[s8,Ci,h,decide_true,if_true,aO,h1,Option.bind_some,bA h3 hl,ih];simp only[fN,List.all_cons,kOK];by_cases q3:x=3
  ·simp[q3]
  ·by_cases q4:x=4
   ·simp[q4]
   ·by_cases q5:x=5<;>simp[q3,q4,q5]
 |_,_,0,_,hn=>by simp at hn
theorem OE (n:Nat) (xs:List Int) (hl:xs.length<4294967296) (hn:xs.length<n):LP n xs=some (fN xs):=by
 have:=Oz xs hl xs 0 n rfl hn;simpa[LP,Mj,Mk] using this
mutual
def ndP:ak→Nat
 |⟨_,_,_,_,args⟩=>1+ndL args
def ndL:List ak→Nat
 | []=>0
 |x::xs=>ndP x+ndL xs
end
mutual
def dpP:ak→Nat
 |⟨_,_,_,_,args⟩=>1+dpL args
def dpL:List ak→Nat
 | []=>0
 |x::xs=>max (dpP x) (dpL xs)
end
theorem Of (p:ak):1≤ndP p:=by obtain ⟨_,_,_,_,_⟩:=p;simp[ndP]
theorem OI:∀(n:Nat) (p:ak) (m:Int),szP p≤n→szP p<4294967296→0≤m→m≤24→Ok (El n p m) fun r=>r≤25∧(m+ndP p≤24→r=m+ndP p)∧(24<m+ndP p→24<r)
 |0,⟨_,_,_,_,_⟩,_,h,_,_,_=>by simp[szP] at h
 |n+1,⟨op,c,l,r,args⟩,m,h,hb,h0,h1=>by
  simp only[szP] at h hb;have hlen:=px args;have loop:∀(xs:List ak) (i k:Nat) (m:Int),args.drop i=xs→xs.length<k→0≤m→m≤25→
    Ok (tf (El n) (fun r=>some r) k m (i:Int) ⟨op,c,l,r,args⟩) fun r=>r≤25∧(m+ndL xs≤24→r=m+ndL xs)∧(24<m+ndL xs→24<r):=by
   intro xs;induction xs with
   |nil=>
    intro i k m hd hk m0 m1;have:args.length≤i:=by simpa using hd
    have hq:¬((i:Int)<(args.length:Int)):=by omega
    cases k with
    |zero=>simp at hk
    |succ k=>
     simp only[tf,Cq,hq,decide_false,Bool.false_eq_true,if_false];exact Ok.pure ⟨m1,fun _=>by simp[ndL],fun h=>by simp[ndL] at h;exact h⟩
   |cons x xs ih=>
    intro i k m hd hk m0 m1;obtain ⟨g1,g2,g3⟩:=ba hd;have hq:((i:Int)<(args.length:Int)):=by omega
    cases k with
    |zero=>simp at hk
    |succ k=>
     simp only[tf,Cq,hq,decide_true,if_true];have hx:x∈args:=List.mem_of_getElem? g1;have hs:=pt hx;have hnd:=Of x;refine Ok.ite (fun hm=> ?_) fun hm=> ?_
     ·simp at hm;rw[aO,g1,Option.bind_some];refine Ok.bind (OI n x m (by omega) (by omega) m0 hm) fun r ⟨r1,r2,r3⟩=> ?_
      rw[bA g3 (by omega)]
      have hr0:0≤r:=by
       by_cases hz:m+ndP x≤24
       ·have:=r2 hz;omega
       ·have:=r3 (by omega);omega
      refine (ih (i+1) k r g2 (by simp at hk;omega) hr0 r1).mono fun r' ⟨q1,q2,q3⟩=>⟨q1,fun hle=> ?_,fun hlt=> ?_⟩
      ·simp only[ndL] at hle ⊢;have e:=r2 (by omega)
       have:=q2 (by omega)
       omega
      ·simp only[ndL] at hlt;by_cases hz:m+ndP x≤24
       ·have e:=r2 hz;exact q3 (by omega)
       ·have e:=r3 (by omega)
        exact q3 (by omega)
     ·simp at hm;exact Ok.pure ⟨m1,fun hle=>by simp only[ndL] at hle;omega,fun _=>hm⟩
  unfold El Ms;rw[bY (by omega) (by omega)]
  refine (loop args 0 n (m+1) rfl (by omega) (by omega) (by omega)).mono fun r' ⟨q1,q2,q3⟩=>⟨q1,fun hle=> ?_,fun hlt=> ?_⟩
  ·simp only[ndP] at hle ⊢;have:=q2 (by omega)
   omega
  ·simp only[ndP] at hlt;exact q3 (by omega)
theorem OH:∀(n:Nat) (p:ak) (m:Nat),szP p≤n→szP p<4294967296→m≤1000→wz n p (m:Int)=some (decide (m<dpP p))
 |0,⟨_,_,_,_,_⟩,_,h,_,_=>by simp[szP] at h
 |n+1,⟨op,c,l,r,args⟩,0,h,hb,hm=>by
  have:0<dpP ⟨op,c,l,r,args⟩:=by simp only[dpP];omega
  simp[wz,Cn,this]
 |n+1,⟨op,c,l,r,args⟩,m+1,h,hb,hm=>by
  simp only[szP] at h hb;have hlen:=px args;have loop:∀(xs:List ak) (i k:Nat),args.drop i=xs→xs.length<k→
    td (wz n) (some false) k ((m+1:Nat):Int) (args.length:Int) (i:Int) ⟨op,c,l,r,args⟩=some (decide (m<dpL xs)):=by
   intro xs;induction xs with
   |nil=>
    intro i k hd hk;have:args.length≤i:=by simpa using hd
    have hq:¬((i:Int)<(args.length:Int)):=by omega
    cases k with
    |zero=>simp at hk
    |succ k=>simp[td,Co,hq,dpL]
   |cons x xs ih=>
    intro i k hd hk;obtain ⟨g1,g2,g3⟩:=ba hd;have hq:((i:Int)<(args.length:Int)):=by omega
    cases k with
    |zero=>simp at hk
    |succ k=>
     have hx:x∈args:=List.mem_of_getElem? g1;have hs:=pt hx;have hw:w64 (((m+1:Nat):Int)-1)=(m:Int):=by rw[bY (by omega) (by omega)];omega
     simp only[td,Co,hq,decide_true,if_true,aO,g1,Option.bind_some,hw,OH n x m (by omega) (by omega) (by omega),bA g3 (by omega:args.length<4294967296),
      ih (i+1) k g2 (by simp at hk;omega)]
     by_cases hd1:m<dpP x
     ·have:m<dpL (x::xs):=by simp only[dpL];omega
      simp[hd1,this]
     ·have:(m<dpL (x::xs))↔m<dpL xs:=by simp only[dpL];omega
      simp[hd1,this]
  have hne:¬(((m+1:Nat):Int)=0):=by omega
  have hl:=loop args 0 n rfl (by omega)
  have e:(m+1<dpP ⟨op,c,l,r,args⟩)↔m<dpL args:=by simp only[dpP];omega
  simp only[wz,Cn,beq_iff_eq,hne,if_false,Mr];rw[show ((0:Int))=((0:Nat):Int) from rfl,hl];simp[e]
theorem OD:∀(n:Nat) (p:ak) (v b:Int),szP p≤n→szP p<4294967296→1≤v→v≤9→0≤b→b≤24→
  Ok (Ek n p v b) fun r=>(r.1=true↔((ndP p:Int)≤b∧v+dpP p≤9))∧(r.1=true→r.2=b-ndP p)
 |0,⟨_,_,_,_,_⟩,_,_,h,_,_,_,_,_=>by simp[szP] at h
 |n+1,⟨op,c,l,r,args⟩,v,b,h,hb,v1,v2,b1,b2=>by
  simp only[szP] at h hb;have hlen:=px args;have loop:∀(xs:List ak) (i k:Nat) (b:Int),args.drop i=xs→xs.length<k→v≤8→0≤b→b≤24→
    Ok (sZ (Ek n) (fun b=>some (true,b)) k v args (args.length:Int) (i:Int) b) fun r=>(r.1=true↔((ndL xs:Int)≤b∧v+dpL xs≤8))∧(r.1=true→r.2=b-ndL xs):=by
   intro xs;induction xs with
   |nil=>
    intro i k b hd hk hv b1 b2;have:args.length≤i:=by simpa using hd
    have hq:¬((i:Int)<(args.length:Int)):=by omega
    cases k with
    |zero=>simp at hk
    |succ k=>
     simp only[sZ,Ch,hq,decide_false,Bool.false_eq_true,if_false];exact Ok.pure ⟨by simp[ndL,dpL];omega,by simp[ndL]⟩
   |cons x xs ih=>
    intro i k b hd hk hv b1 b2;obtain ⟨g1,g2,g3⟩:=ba hd;have hq:((i:Int)<(args.length:Int)):=by omega
    cases k with
    |zero=>simp at hk
    |succ k=>
     have hx:x∈args:=List.mem_of_getElem? g1;have hs:=pt hx;simp only[sZ,Ch,hq,decide_true,if_true,aO,g1,Option.bind_some];rw[bY (x:=v+1) (by omega) (by omega)]
     refine Ok.bind (OD n x (v+1) b (by omega) (by omega) (by omega) (by omega) b1 b2) fun r ⟨r1,r2⟩=> ?_
     refine Ok.ite (fun hr=> ?_) fun hr=> ?_
     ·simp at hr;refine Ok.pure ⟨⟨fun h=>by simp at h,fun ⟨h1,h2⟩=> ?_⟩,fun h=>by simp at h⟩
      simp only[ndL,dpL] at h1 h2;have:=r1.2 ⟨by omega,by omega⟩
      rw[hr] at this;exact absurd this (by simp)
     ·simp at hr;have e:=r2 hr;have q:=r1.1 hr;rw[bA g3 (by omega)]
      have hnd:=Of x;refine (ih (i+1) k r.2 g2 (by simp at hk;omega) hv (by omega) (by omega)).mono fun r' ⟨q1,q2⟩=>⟨⟨fun h=> ?_,fun ⟨h1,h2⟩=> ?_⟩,fun h=> ?_⟩
      ·have:=q1.1 h;simp only[ndL,dpL];omega
      ·simp only[ndL,dpL] at h1 h2;exact q1.2 ⟨by omega,by omega⟩
      ·have:=q2 h;simp only[ndL];omega
  unfold Ek Mh;rw[bY (by omega) (by omega)]
  simp only[ndP,dpP];refine Ok.ite (fun hb0=> ?_) fun hb0=> ?_
  ·simp at hb0;refine Ok.pure ⟨⟨fun h=>by simp at h,fun h=> ?_⟩,fun h=>by simp at h⟩
   omega
  ·simp at hb0;refine Ok.ite (fun hv=> ?_) fun hv=> ?_
   ·simp at hv;refine Ok.pure ⟨⟨fun h=>by simp at h,fun h=> ?_⟩,fun h=>by simp at h⟩
    omega
   ·simp at hv;refine (loop args 0 n (b-1) rfl (by omega) hv (by omega) (by omega)).mono fun r' ⟨q1,q2⟩=>⟨⟨fun h=> ?_,fun ⟨h1,h2⟩=> ?_⟩,fun h=> ?_⟩
    ·have:=q1.1 h;omega
    ·exact q1.2 ⟨by omega,by omega⟩
    ·have:=q2 h;omega
def qS (v:ae):Bool:=v.aD==0&&(v.bJ==0&&(decide (v.bt=ByteArray.empty)&&true))
def tE (o:aB):Bool:=o.aD==0&&(o.bL==0&&(qS o.aT&&true))
def kAt (l:List Int) (o:aB):Int:=if 0≤o.bL∧o.bL<l.length∧qS o.aT=true then (l[o.bL.toNat]?).getD 0 else 0
def fk (aG params:List Int) (o:aB):Int:=
 if o.aD==3 then (if o.bL==0&&iq o.aT then o.aT.aD else 0) else if o.aD==2 then kAt params o else if o.aD==1 then kAt aG o else 0
theorem wC (n:Nat) (l:List Int) (o:aB):wD n l o=some (kAt l o):=by
 unfold wD kAt;by_cases h1:o.bL<0
 ·have:¬0≤o.bL:=by omega
  simp[h1,this]
 ·by_cases h2:(l.length:Int)≤o.bL
  ·have:¬o.bL<l.length:=by omega
   simp[h1,h2,this]
  ·have e1:0≤o.bL:=by omega
   have e2:o.bL<l.length:=by omega
   have e3:o.bL.toNat<l.length:=by omega
   have hid:idx l o.bL=some (l[o.bL.toNat]):=by simp[idx,e1,e3]
   cases h3:qS o.aT with
   |false=>
    simp only[qS] at h3;simp only[h1,h2,decide_false,Bool.false_eq_true,if_false,ge_iff_le,h3,Bool.not_false,if_true,and_false,e2,decide_true,Bool.not_true]
   |true=>
    simp only[qS] at h3;simp only[h1,h2,decide_false,Bool.false_eq_true,if_false,ge_iff_le,h3,Bool.not_true,hid,Option.bind_some,e1,e2,and_self,if_true,decide_true,Bool.not_true];simp[e3]
theorem aeD (n:Nat) (aG params:List Int) (o:aB):LO n aG params o=some (fk aG params o):=by
 unfold LO L9 fk;rw[wC,wC,aeB];simp only[Option.bind_some];by_cases h3:o.aD=3
 ·by_cases hi:o.bL=0<;>cases iq o.aT<;>simp[h3,hi]
 ·by_cases h2:o.aD=2
  ·simp[h2]
  ·by_cases h1:o.aD=1<;>simp[h1,h2,h3]
theorem aeC (n:Nat) (k:cN) (o:aB):LN n k o=some (fk k.fy k.gA o):=by
 have h0:∀l,Cb n l o=some (kAt l o):=fun l=>by rw[←wC n l o];rfl
 unfold LN L8 fk;rw[h0,h0,XS];simp only[Option.bind_some];by_cases h3:o.aD=3
 ·by_cases hi:o.bL=0<;>cases iq o.aT<;>simp[h3,hi]
 ·by_cases h2:o.aD=2
  ·simp[h2]
  ·by_cases h1:o.aD=1<;>simp[h1,h2,h3]
def fK (c:Int) (l r:aB):Bool:=c==0&&tE l&&tE r
mutual
def pV (aG params:List Int):ak→Bool
 |⟨op,c,l,r,args⟩=>
  if op==1||op==2 then fK c l r&&args.length==0
  else if op==3 then args.length==0&&decide (1≤c)&&decide (c≤6)&&fk aG params l !=0&&fk aG params l==fk aG params r
  else if op==4||op==5 then fK c l r&&pVs aG params args
  else if op==6 then args.length==1&&(fK c l r&&pVs aG params args)
  else false
def pVs (aG params:List Int):List ak→Bool
 | []=>true
 |x::xs=>pV aG params x&&pVs aG params xs
end
theorem OC (n:Nat) (p:ak):Ei n p=some (fK p.gU p.bB p.bq):=by
 unfold Ei Ma fK tE qS;by_cases h:p.gU=0
 ·simp only[h,beq_self_eq_true,if_true,Bool.true_and];split
  ·rename_i h1;simp only[h1,Bool.true_and]
  ·rename_i h1;rw[Bool.not_eq_true] at h1;simp only[h1,Bool.false_and]
 ·simp[h]
theorem OG (aG params:List Int):∀(n:Nat) (p:ak),szP p≤n→szP p<4294967296→wy n aG params p=some (pV aG params p)
 |0,⟨_,_,_,_,_⟩,h,_=>by simp[szP] at h
 |n+1,⟨op,c,l,r,args⟩,h,hb=>by
  simp only[szP] at h hb;have hlen:=px args;have loop:∀(xs:List ak) (i k:Nat),args.drop i=xs→xs.length<k→
    qE (wy n) (some true) k aG params (args.length:Int) (i:Int) ⟨op,c,l,r,args⟩=some (pVs aG params xs):=by
   intro xs;induction xs with
   |nil=>
    intro i k hd hk;have:args.length≤i:=by simpa using hd
    have hq:¬((i:Int)<(args.length:Int)):=by omega
    cases k with
    |zero=>simp at hk
    |succ k=>simp[qE,Cm,hq,pVs]
   |cons x xs ih=>
    intro i k hd hk;obtain ⟨g1,g2,g3⟩:=ba hd;have hq:((i:Int)<(args.length:Int)):=by omega
    cases k with
    |zero=>simp at hk
    |succ k=>
     have hx:x∈args:=List.mem_of_getElem? g1;have hs:=pt hx;simp only[qE,Cm,hq,decide_true,if_true,aO,g1,Option.bind_some,OG aG params n x (by omega) (by omega),bA g3 (by omega:args.length<4294967296),
      ih (i+1) k g2 (by simp at hk;omega),pVs]
     cases pV aG params x<;>simp
  have hl:=loop args 0 n rfl (by omega)
  have hl:qE (wy n) (some true) n aG params (args.length:Int) 0 ⟨op,c,l,r,args⟩=some (pVs aG params args):=hl;have hB:tp (wy n) n aG params ⟨op,c,l,r,args⟩=some (fK c l r&&pVs aG params args):=by
   unfold tp Mq;rw[OC,Option.bind_some,hl];cases fK c l r<;>simp
  unfold wy Mp;simp only[OC,aeD,Option.bind_some,hB];unfold pV;have hz:((args.length:Int)==0)=(args.length==0):=by
   rw[Bool.eq_iff_iff];simp
  have ho:((args.length:Int) !=1)= !(args.length==1):=by
   rw[Bool.eq_iff_iff];simp;omega
  simp only[hz,ho];by_cases h1:op=1
  ·cases hp:fK c l r<;>simp[h1]
  ·by_cases h2:op=2
   ·cases hp:fK c l r<;>simp[h2]
   ·by_cases h3:op=3
    ·cases ha:(args.length==0) with
     |false=>simp[h3]
     |true=>
      by_cases c1:1≤c
      ·by_cases c2:c≤6
       ·by_cases c3:fk aG params l=0<;>simp[h3,c1,c2,c3]
       ·simp[h3,c1,c2]
      ·simp[h3,c1]
    ·by_cases h4:op=4
     ·simp[h4]
     ·by_cases h5:op=5
      ·simp[h5]
      ·by_cases h6:op=6
       ·cases ha:(args.length==1)<;>simp[h6]
       ·simp[h1,h2,h3,h4,h5,h6]
theorem Ej (k:cN):∀(n:Nat) (p:ak),szP p≤n→szP p<4294967296→lN n k p=some (pV k.fy k.gA p)
 |0,⟨_,_,_,_,_⟩,h,_=>by simp[szP] at h
 |n+1,⟨op,c,l,r,args⟩,h,hb=>by
  simp only[szP] at h hb;have hlen:=px args;have ahG:∀(xs:List ak) (i m:Nat),args.drop i=xs→xs.length<m→
    n6 (lN n) (some true) m args (args.length:Int) (i:Int) k=some (pVs k.fy k.gA xs):=by
   intro xs;induction xs with
   |nil=>
    intro i m hd hk;have:args.length≤i:=by simpa using hd
    have hq:¬((i:Int)<(args.length:Int)):=by omega
    cases m with
    |zero=>simp at hk
    |succ m=>simp[n6,Cg,hq,pVs]
   |cons x xs ih=>
    intro i m hd hk;obtain ⟨g1,g2,g3⟩:=ba hd;have hq:((i:Int)<(args.length:Int)):=by omega
    cases m with
    |zero=>simp at hk
    |succ m=>
     have hx:x∈args:=List.mem_of_getElem? g1;have hs:=pt hx;simp only[n6,Cg,hq,decide_true,if_true,aO,g1,Option.bind_some,Ej k n x (by omega) (by omega),bA g3 (by omega:args.length<4294967296),
      ih (i+1) m g2 (by simp at hk;omega),pVs]
     cases pV k.fy k.gA x<;>simp
  have ahF:∀(xs:List ak) (i m:Nat),args.drop i=xs→xs.length<m→
    n5 (lN n) (some true) m args (args.length:Int) (i:Int) k=some (pVs k.fy k.gA xs):=by
   intro xs;induction xs with
   |nil=>
    intro i m hd hk;have:args.length≤i:=by simpa using hd
    have hq:¬((i:Int)<(args.length:Int)):=by omega
    cases m with
    |zero=>simp at hk
    |succ m=>simp[n5,Ce,hq,pVs]
   |cons x xs ih=>
    intro i m hd hk;obtain ⟨g1,g2,g3⟩:=ba hd;have hq:((i:Int)<(args.length:Int)):=by omega
    cases m with
    |zero=>simp at hk
    |succ m=>
     have hx:x∈args:=List.mem_of_getElem? g1;have hs:=pt hx;simp only[n5,Ce,hq,decide_true,if_true,aO,g1,Option.bind_some,Ej k n x (by omega) (by omega),bA g3 (by omega:args.length<4294967296),
      ih (i+1) m g2 (by simp at hk;omega),pVs]
     cases pV k.fy k.gA x<;>simp
  have hl0:n6 (lN n) (some true) n args (args.length:Int) 0 k=some (pVs k.fy k.gA args):=ahG args 0 n rfl (by omega)
  have hl3:n5 (lN n) (some true) n args (args.length:Int) 0 k=some (pVs k.fy k.gA args):=ahF args 0 n rfl (by omega)
  have W8:∀X:Option Bool,(if c !=0 then some false else if !(tE l) then some false else if !(tE r) then some false else X)=if fK c l r then X else some false:=by
   intro X;unfold fK;by_cases hc:c=0
   ·cases tE l<;>cases tE r<;>simp[hc]
   ·simp[hc]
  have hB5:tk (lN n) n k ⟨op,c,l,r,args⟩=some (fK c l r&&pVs k.fy k.gA args):=by
   have:=W8 (n5 (lN n) (Cd (lN n) n) n args (args.length:Int) 0 k);unfold tk;refine Eq.trans this ?_;unfold Cd;rw[hl3];cases fK c l r<;>simp
  have hB2:∀b,wE (lN n) n b k ⟨op,c,l,r,args⟩=some (!b&&(fK c l r&&pVs k.fy k.gA args)):=by
   intro b;have:=W8 (n6 (lN n) (Cf (lN n) n) n args (args.length:Int) 0 k);unfold wE;cases b with
   |true=>simp
   |false=>
    simp only[Bool.false_eq_true,if_false,Bool.not_false,Bool.true_and];refine Eq.trans this ?_;unfold Cf;rw[hl0];cases fK c l r<;>simp
  unfold lN Mg;simp only[aeC,Option.bind_some,hB5,hB2];unfold pV;have hz:((args.length:Int)==0)=(args.length==0):=by
   rw[Bool.eq_iff_iff];simp
  have hz':((args.length:Int) !=0)= !(args.length==0):=by
   rw[Bool.eq_iff_iff];simp
  have ho:((args.length:Int) !=1)= !(args.length==1):=by
   rw[Bool.eq_iff_iff];simp;omega
  simp only[hz,hz',ho];have he:(args.length==0)=true→pVs k.fy k.gA args=true:=by
   intro h;have:args= []:=by simpa using h
   simp[this,pVs]
  by_cases h3:op=3
  ·cases ha:(args.length==0) with
   |false=>simp[h3]
   |true=>
    by_cases c1:1≤c
    ·by_cases c2:c≤6
     ·by_cases c3:fk k.fy k.gA l=0<;>simp[h3,c1,c2,c3]
     ·simp[h3,c1,c2]
    ·simp[h3,c1]
  ·by_cases h1:op=1
   ·cases ha:(args.length==0) with
    |false=>simp[h1]
    |true=>simp[h1,he ha]
   ·by_cases h2:op=2
    ·cases ha:(args.length==0) with
     |false=>simp[h2]
     |true=>simp[h2,he ha]
    ·by_cases h6:op=6
     ·cases ha:(args.length==1)<;>simp[h6]
     ·by_cases h4:op=4
      ·simp[h4]
      ·by_cases h5:op=5
       ·simp[h5]
       ·simp[h1,h2,h3,h4,h5,h6]
def mN (aG params:List Int) (p:ak):Int:=
 if !fN aG then 1 else if !fN params then 1 else if decide (24<ndP p)||decide (8<dpP p) then 2 else if !pV aG params p then 50 else 0
theorem agV (n:Nat) (aG params:List Int) (p:ak) (h1:aG.length<n) (h2:params.length<n) (h3:szP p≤n) (h4:n<4294967296):F73 n aG params p=some (mN aG params p):=by
 obtain ⟨r,e,r1,r2,r3⟩:=OI n p 0 h3 (by omega) (by omega) (by omega)
 have hd:=OH n p 8 h3 (by omega) (by omega)
 have hd:wz n p 8=some (decide (8<dpP p)):=hd;unfold F73 Si mN;simp only[OJ n aG (by omega) h1,OJ n params (by omega) h2,e,hd,OG aG params n p h3 (by omega),Option.bind_some]
 cases fN aG<;>cases fN params<;>simp
 by_cases hn:24<ndP p
 ·have:=r3 (by omega)
  simp[hn,this]
 ·have:=r2 (by omega)
  have h24:¬24<r:=by omega
  by_cases h8:8<dpP p<;>cases pV aG params p<;>simp[hn,h24,h8]
theorem agS (n:Nat) (aG params:List Int) (p:ak) (h1:aG.length<n) (h2:params.length<n) (h3:szP p≤n) (h4:n<4294967296):F79 n aG params p=some (mN aG params p):=by
 obtain ⟨r,e,r1,r2⟩:=OD n p 1 24 h3 (by omega) (by omega) (by omega) (by omega) (by omega)
 unfold F79 Se mN;simp only[OE n aG (by omega) h1,OE n params (by omega) h2,e,Ej ⟨aG,params⟩ n p h3 (by omega),Option.bind_some]
 cases fN aG<;>cases fN params<;>simp
 cases hr:r.1 with
 |true=>
  have:=r1.1 hr;have e1:¬24<ndP p:=by omega
  have e2:¬8<dpP p:=by omega
  cases pV aG params p<;>simp[e1,e2]
 |false=>
  have:¬((ndP p:Int)≤24∧(1:Int)+dpP p≤9):=fun h=>by rw[r1.2 h] at hr;simp at hr
  have e1:24<ndP p∨8<dpP p:=by omega
  rcases e1 with h|h<;>simp[h]
theorem rh {k:Int} (h:kOK k=true):3≤k∧k≤5:=by simp[kOK] at h;omega
theorem tN {l:List Int} {i:Nat} {x:Int} (h:fN l=true) (hx:l[i]? =some x):kOK x=true:=by
 simp only[fN,List.all_eq_true] at h;exact h x (List.mem_of_getElem? hx)
def Yr (aG params:List Int) (k:Int) (l:List aB):Prop:=∀o∈l,fk aG params o=k
theorem Wv {aG params:List Int} {i:Nat} {k:Int} (h:aG[i]? =some k):fk aG params ⟨1,(i:Int),⟨0,0,ByteArray.empty⟩⟩=k:=by
 have hi:i<aG.length:=(List.getElem?_eq_some_iff.1 h).1;have:(i:Int)<(aG.length:Int):=by omega
 simp[fk,kAt,qS,this,h]
theorem Wu {aG params:List Int} {i:Nat} {k:Int} (h:params[i]? =some k):fk aG params ⟨2,(i:Int),⟨0,0,ByteArray.empty⟩⟩=k:=by
 have hi:i<params.length:=(List.getElem?_eq_some_iff.1 h).1;have:(i:Int)<(params.length:Int):=by omega
 simp[fk,kAt,qS,this,h]
theorem X1 (n:Nat) (hn:300≤n) (aG params:List Int) (k:Int) (hk:kOK k=true) (l:List aB) (c:an) (hc:bh c) (hl:l.length≤300) (ho:Yr aG params k l) (z:aB):
  Ok (wG n k c z l) fun r=>bh r.2∧fk aG params r.1=k:=by
 have hkr:=rh hk;unfold wG;rw[bY (by omega) (by omega)]
 refine Ok.bind (gk n c ((l.length:Int)+1) hc) fun r ⟨hr,r0,r1,_⟩=> ?_
 have r1:=r1 (by omega)
 refine Ok.ite (fun h=> ?_) fun h=> ?_
 ·simp at h;have hlt:r.1.toNat<l.length:=by omega
  have:bnd l.length r.1=some r.1.toNat:=by simp[bnd,r0,hlt]
  rw[this,Option.bind_some,Nat.zero_add,List.getElem?_eq_getElem hlt,Option.bind_some];exact Ok.pure ⟨hr,ho _ (List.getElem_mem _)⟩
 ·refine Ok.bind (LI n (by omega) r.2 k hr hkr.1 hkr.2) fun x ⟨hx,kx,rx⟩=>Ok.pure ⟨hx,?_⟩
  simp[fk,rx,kx]
theorem wq (n:Nat) (hn:300≤n) (aG params:List Int) (k:Int) (hk:kOK k=true) (hp:params.length≤100) (z:aB):∀(xs:List Int) (i m:Nat) (l:List aB) (c:an),params.drop i=xs→xs.length<m→bh c→l.length+xs.length≤300→Yr aG params k l→
  Ok (th (wG n) m k params (params.length:Int) (i:Int) c z l) fun r=>bh r.2∧fk aG params r.1=k
 | [],i,m+1,l,c,hd,hm,hc,hl,ho=>by
  have:params.length≤i:=by simpa using hd
  have hq:¬((i:Int)<(params.length:Int)):=by omega
  simp only[th,Ct,hq,decide_false,Bool.false_eq_true,if_false];exact X1 n hn aG params k hk l c hc (by simp at hl;omega) ho z
 |x::xs,i,m+1,l,c,hd,hm,hc,hl,ho=>by
  obtain ⟨g1,g2,g3⟩:=ba hd;have hq:((i:Int)<(params.length:Int)):=by omega
  simp only[th,Ct,hq,decide_true,if_true,aO,g1,Option.bind_some];simp at hm hl;refine Ok.ite (fun h=> ?_) fun h=> ?_
  ·simp at h;subst h;rw[dy _ _ (by simp;omega),Option.bind_some,bA g3 (by omega)]
   refine wq n hn aG params x hk hp z xs (i+1) m _ c g2 (by omega) hc (by simp;omega) fun o hx=> ?_
   rcases List.mem_append.1 hx with hx|hx
   ·exact ho o hx
   ·simp at hx;subst hx;exact Wu g1
  ·rw[bA g3 (by omega)]
   exact wq n hn aG params k hk hp z xs (i+1) m l c g2 (by omega) hc (by omega) ho
 |_,_,0,_,_,_,hm,_,_,_=>by simp at hm
theorem wu (n:Nat) (hn:300≤n) (aG params:List Int) (k:Int) (hk:kOK k=true) (hp:params.length≤100) (hcl:aG.length≤100) (z:aB):∀(xs:List Int) (i m:Nat) (l:List aB) (c:an),aG.drop i=xs→xs.length<m→bh c→l.length+xs.length≤100→Yr aG params k l→
  Ok (ti (Cs n) m params k aG (aG.length:Int) (i:Int) c z l) fun r=>bh r.2∧fk aG params r.1=k
 | [],i,m+1,l,c,hd,hm,hc,hl,ho=>by
  have:aG.length≤i:=by simpa using hd
  have hq:¬((i:Int)<(aG.length:Int)):=by omega
  simp only[ti,Cu,hq,decide_false,Bool.false_eq_true,if_false,Cs];exact wq n hn aG params k hk hp z params 0 n l c rfl (by omega) hc (by simp at hl;omega) ho
 |x::xs,i,m+1,l,c,hd,hm,hc,hl,ho=>by
  obtain ⟨g1,g2,g3⟩:=ba hd;have hq:((i:Int)<(aG.length:Int)):=by omega
  simp only[ti,Cu,hq,decide_true,if_true,aO,g1,Option.bind_some];simp at hm hl;refine Ok.ite (fun h=> ?_) fun h=> ?_
  ·simp at h;subst h;rw[dy _ _ (by simp;omega),Option.bind_some,bA g3 (by omega)]
   refine wu n hn aG params x hk hp hcl z xs (i+1) m _ c g2 (by omega) hc (by simp;omega) fun o hx=> ?_
   rcases List.mem_append.1 hx with hx|hx
   ·exact ho o hx
   ·simp at hx;subst hx;exact Wv g1
  ·rw[bA g3 (by omega)]
   exact wu n hn aG params k hk hp hcl z xs (i+1) m l c g2 (by omega) hc (by omega) ho
 |_,_,0,_,_,_,hm,_,_,_=>by simp at hm
theorem OK (n:Nat) (hn:300≤n) (c:an) (aG params:List Int) (k:Int) (hk:kOK k=true) (hc:bh c) (hcl:aG.length≤100) (hp:params.length≤100):Ok (RZ n c aG params k) fun r=>bh r.2∧fk aG params r.1=k:=
 wu n hn aG params k hk hp hcl _ aG 0 n [] c rfl (by omega) hc (by simp;omega) (fun o h=>by simp at h)
def nB:Nat→Nat
 |0=>1
 |d+1=>1+3*nB d
def sB:Nat→Nat
 |0=>2
 |d+1=>2+3*(1+sB d)
theorem afy (d:Nat):1≤nB d:=by cases d<;>simp[nB]
theorem afi (d:Nat):2≤sB d:=by cases d<;>simp[sB]
structure ky (aG params:List Int) (d:Nat) (r:ak×an):Prop where
 case:bh r.2
 val:pV aG params r.1=true
 dp:dpP r.1≤d+1
 nd:ndP r.1≤nB d
 sz:szP r.1≤sB d
theorem JO {aG params:List Int} {d:Nat} {op c:Int} {l r:aB} {x:an} (hx:bh x) (hv:pV aG params ⟨op,c,l,r,[]⟩=true):ky aG params d (⟨op,c,l,r,[]⟩,x):=
 ⟨hx,hv,by simp[dpP,dpL],by simp[ndP,ndL];exact afy d,by simp[szP,szL];exact afi d⟩
def zo:aB:=⟨0,0,⟨0,0,ByteArray.empty⟩⟩
theorem yL:fK 0 zo zo=true:=by decide
theorem L1 (s:an→List Int→List Int→Int→Option (ak×an)) (n:Nat) (aG params:List Int) (d:Nat) (x:an) (hx:bh x) (c:Int) (l r:aB) (h1:1≤c) (h2:c≤6) (h3:fk aG params l≠0) (h4:fk aG params l=fk aG params r) (z:ak):
  Ok (BZ s n x z ⟨3,c,l,r,[]⟩) (ky aG params d):=by
 unfold BZ;refine Ok.bind (kB n x 6 hx) fun b hb=> ?_
 refine Ok.ite (fun _=>Ok.pure (JO hb ?_)) fun _=>Ok.pure (JO hb ?_)
 ·simp[pV,h1,h2,←h4,h3]
 ·simp[pV,h1,h2,←h4,h3]
theorem L0 (s:an→List Int→List Int→Int→Option (ak×an)) (n:Nat) (hn:300≤n) (aG params:List Int) (hcl:aG.length≤100) (hp:params.length≤100) (d:Nat) (k:Int) (hk:kOK k=true) (x:an) (hx:bh x) (z:ak):
  Ok (BY s n aG params k x z) (ky aG params d):=by
 have hkr:=rh hk;unfold BY;refine Ok.bind (gk n x 6 hx) fun r ⟨hr,r0,r1,_⟩=> ?_
 have r1:=r1 (by omega)
 rw[bY (by omega) (by omega)]
 refine Ok.bind (OK n hn r.2 aG params k hk hr hcl hp) fun l ⟨hl,kl⟩=> ?_
 refine Ok.bind (LI n (by omega) l.2 k hl hkr.1 hkr.2) fun v ⟨hv,kv,rv⟩=> ?_
 refine Ok.bind (kB n v.2 3 hv) fun b hb=> ?_
 refine Ok.ite (fun _=> ?_) fun _=> ?_
 ·refine Ok.bind (OK n hn b.2 aG params k hk hb hcl hp) fun o ⟨ho,ko⟩=> ?_
  exact L1 s n aG params d o.2 ho _ _ _ (by omega) (by omega) (by omega) (by omega) _
 ·refine L1 s n aG params d b.2 hb _ _ _ (by omega) (by omega) (by omega) ?_ _
  simp[fk,rv,kv] at kl ⊢;exact kl
theorem Lq (s:an→List Int→List Int→Int→Option (ak×an)) (aG params:List Int) (d:Nat) (hd:d≤1000)
  (hs:∀c,bh c→Ok (s c aG params (d:Int)) (ky aG params d)) (n0:Nat):∀(j n:Nat) (op:Int) (args:List ak) (c:an) (z:ak) (a0:List ak),bh c→j<n→args.length+j≤3→pVs aG params args=true→dpL args≤d+1→ndL args≤args.length*nB d→szL args≤args.length*(1+sB d)→(op=4∨op=5)→
  Ok (xD s (GC s n0) n aG params ((d+1:Nat):Int) ((j:Int)-1) c z ⟨op,0,zo,zo,a0⟩ args) (ky aG params (d+1))
 |0,n+1,op,args,c,z,a0,hc,_,hj,h1,h2,h3,h4,hop=>by
  have:((0:Nat):Int)-1<0:=by omega
  simp only[xD,GD,GC,this,decide_true,Bool.not_true,Bool.false_eq_true,if_false];have e3:args.length*nB d≤3*nB d:=Nat.mul_le_mul_right _ (by omega)
  have e4:args.length*(1+sB d)≤3*(1+sB d):=Nat.mul_le_mul_right _ (by omega)
  refine Ok.pure ⟨hc,?_,by simp only[dpP];omega,by simp only[ndP,nB];omega,by simp only[szP,sB];omega⟩
  rcases hop with rfl|rfl<;>simp[pV,yL,h1]
 |j+1,n+1,op,args,c,z,a0,hc,hn,hj,h1,h2,h3,h4,hop=>by
  have:¬(((j+1:Nat):Int)-1<0):=by omega
  simp only[xD,GD,this,decide_false,Bool.not_false,if_true];have hw:w64 (((d+1:Nat):Int)-1)=(d:Int):=by rw[bY (by omega) (by omega)];omega
  have hw2:w64 (((j+1:Nat):Int)-1-1)=(j:Int)-1:=by rw[bY (by omega) (by omega)];omega
  rw[hw,hw2];refine Ok.bind (hs c hc) fun x hx=> ?_
  rw[dy _ _ (by simp;omega),Option.bind_some]
  have key:∀(l:List ak) (y:ak),pVs aG params (l++ [y])=(pVs aG params l&&pV aG params y)∧dpL (l++ [y])=max (dpL l) (dpP y)∧ndL (l++ [y])=ndL l+ndP y∧szL (l++ [y])=szL l+(1+szP y):=by
   intro l y;induction l with
   |nil=>simp[pVs,dpL,ndL,szL]
   |cons a l ih=>
    obtain ⟨i1,i2,i3,i4⟩:=ih;simp only[List.cons_append,pVs,dpL,ndL,szL,i1,i2,i3,i4];refine ⟨by rw[Bool.and_assoc],by omega,by omega,by omega⟩
  obtain ⟨k1,k2,k3,k4⟩:=key args x.1;refine Lq s aG params d hd hs n0 j n op _ x.2 _ _ hx.case (by omega) (by simp;omega) (by rw[k1,h1,hx.val];rfl) (by rw[k2];have:=hx.dp;omega) ?_ ?_ hop
  ·rw[k3,List.length_append];have:=hx.nd;simp only[List.length_cons,List.length_nil,Nat.add_mul];omega
  ·rw[k4,List.length_append];have:=hx.sz;simp only[List.length_cons,List.length_nil,Nat.add_mul];omega
 |_,0,_,_,_,_,_,_,hn,_,_,_,_,_,_=>by simp at hn
theorem ky.up {aG params:List Int} {r:ak×an} {d e:Nat} (h:ky aG params d r) (hd:d≤e):ky aG params e r:=by
 have hn:∀k,nB d≤nB (d+k):=by
  intro k;induction k with
  |zero=>simp
  |succ k ih=>rw[←Nat.add_assoc];simp only[nB];omega
 have hs:∀k,sB d≤sB (d+k):=by
  intro k;induction k with
  |zero=>simp
  |succ k ih=>rw[←Nat.add_assoc];simp only[sB];omega
 have e1:d+(e-d)=e:=by omega
 have a:=hn (e-d);have b:=hs (e-d);rw[e1] at a b;exact ⟨h.case,h.val,by have:=h.dp;omega,by have:=h.nd;omega,by have:=h.sz;omega⟩
theorem LJ (aG params:List Int) (hk:fN aG=true) (hcl:aG.length≤100) (hp:params.length≤100):∀(d n:Nat) (c:an),bh c→300+d<n→d≤100→Ok (F72 n c aG params (d:Int)) (ky aG params d)
 |d,0,c,hc,hn,_=>by omega
 |d,n+1,c,hc,hn,hd=>by
  have leaf:∀(op:Int) (x:an) (z:ak),bh x→Ok (pc (F72 n) n aG params (d:Int) op true x z) (ky aG params d):=by
   intro op x z hx;unfold pc;simp only[if_true];refine Ok.ite (fun h=> ?_) fun h=> ?_
   ·simp at h;refine Ok.bind (gk n x (aG.length:Int) hx) fun r ⟨hr,r0,r1,_⟩=> ?_
    have r1:=r1 (by omega)
    have hlt:r.1.toNat<aG.length:=by omega
    have hid:idx aG r.1=some (aG[r.1.toNat]):=by simp[idx,r0,hlt]
    rw[hid,Option.bind_some];exact L0 (F72 n) n (by omega) aG params hcl hp d _ (tN hk (i:=r.1.toNat) (by simp[hlt])) r.2 hr _
   ·exact L0 (F72 n) n (by omega) aG params hcl hp d 4 rfl x hx _
  have inner:∀(op:Int) (x:an) (z:ak),6≤op→op≤8→bh x→Ok (pc (F72 n) n aG params (d:Int) op (decide ((d:Int)<1)) x z) (ky aG params d):=by
   intro op x z o1 o2 hx;cases d with
   |zero=>simpa using leaf op x z hx
   |succ d=>
    have hnd:¬(((d+1:Nat):Int)<1):=by omega
    have hw:w64 (((d+1:Nat):Int)-1)=(d:Int):=by rw[bY (by omega) (by omega)];omega
    have ih:=fun c hc=>LJ aG params hk hcl hp d n c hc (by omega) (by omega)
    unfold pc;simp only[hnd,decide_false,Bool.false_eq_true,if_false];refine Ok.ite (fun h6=> ?_) fun h6=> ?_
    ·rw[hw];refine Ok.bind (ih x hx) fun r hr=>Ok.pure ⟨hr.case,?_,?_,?_,?_⟩
     ·have:fK 0 ⟨0,0,⟨0,0,ByteArray.empty⟩⟩ ⟨0,0,⟨0,0,ByteArray.empty⟩⟩=true:=yL;simp[pV,this,pVs,hr.val]
     ·simp only[dpP,dpL];have:=hr.dp;omega
     ·simp only[ndP,ndL,nB];have:=hr.nd;omega
     ·simp only[szP,szL,sB];have:=hr.sz;omega
    ·simp at h6;refine Ok.bind (gk n x 3 hx) fun r ⟨hr,r0,r1,_⟩=> ?_
     have r1:=r1 (by omega)
     rw[bY (x:=4+op) (by omega) (by omega),bY (by omega) (by omega)]
     have e:r.1=((r.1.toNat+1:Nat):Int)-1:=by omega
     rw[e];exact Lq (F72 n) aG params d (by omega) ih n (r.1.toNat+1) n (4+op-7) [] r.2 _ _ hr (by omega) (by simp;omega) rfl (by simp[dpL]) (by simp[ndL]) (by simp[szL]) (by omega)
  unfold F72 Sj;refine Ok.bind (gk n c 9 hc) fun r ⟨hr,r0,r1,_⟩=> ?_
  have r1:=r1 (by omega)
  refine Ok.ite (fun h0=> ?_) fun h0=> ?_
  ·simp at h0;refine Ok.bind (kB n r.2 2 hr) fun b hb=> ?_
   refine Ok.ite (fun _=> ?_) fun _=> ?_
   ·refine Ok.bind (gk n b.2 2 hb) fun q ⟨hq,q0,q1,_⟩=> ?_
    have q1:=q1 (by omega)
    rw[bY (by omega) (by omega)]
    refine Ok.pure (JO hq ?_);have hz:fK 0 ⟨0,0,⟨0,0,ByteArray.empty⟩⟩ ⟨0,0,⟨0,0,ByteArray.empty⟩⟩=true:=yL;have:q.1=0∨q.1=1:=by omega
    rcases this with e|e<;>simp[pV,e,hz]
   ·refine Ok.ite (fun _=>leaf _ _ _ hb) fun h6=> ?_
    simp at h6;omega
  ·refine Ok.ite (fun _=>leaf _ _ _ hr) fun h6=> ?_
   simp at h6;exact inner r.1 r.2 _ h6 (by omega) hr
theorem ahh (aG params:List Int) (hk:fN aG=true) (hk':fN params=true) (hcl:aG.length≤100) (hp:params.length≤100) (d n:Nat) (c:an) (hc:bh c) (hn:1000≤n) (hn':n<4294967296) (hd1:1≤d) (hd:d≤3):
  Ok (F31 n c aG params (d:Int)) fun r=>bh r.2∧mN aG params r.1=0∧szP r.1≤119:=by
 unfold F31 SX;refine Ok.bind (LJ aG params hk hcl hp d n c hc (by omega) (by omega)) fun r hr=> ?_
 have hs:szP r.1≤119:=(hr.up hd).sz;rw[agV n aG params r.1 (by omega) (by omega) (by omega) hn',Option.bind_some]
 refine Ok.ite (fun h2=> ?_) fun h2=> ?_
 ·refine Ok.bind (LJ aG params hk hcl hp 1 n r.2 hr.case (by omega) (by omega)) fun q hq=>Ok.pure ⟨hq.case,?_,(hq.up (by omega:1≤3)).sz⟩
  have h1:=hq.nd;have h2:=hq.dp;have e1:¬24<ndP q.1:=by simp[nB] at h1;omega
  have e2:¬8<dpP q.1:=by omega
  simp[mN,hk,hk',e1,e2,hq.val]
 ·refine Ok.pure ⟨hr.case,?_,hs⟩;have:mN aG params r.1=2∨mN aG params r.1=0:=by
   unfold mN;cases decide (24<ndP r.1)||decide (8<dpP r.1)<;>simp[hk,hk',hr.val]
  simp at h2;exact this.resolve_left h2
def bg:List Int→List ae→Bool
 | [],[]=>true
 |k::ks,v::vs=>(iq v&&v.aD==k)&&bg ks vs
 |_,_=>false
theorem dK:∀{ks:List Int} {vs:List ae},bg ks vs=true→vs.length=ks.length
 | [],[],_=>rfl
 |k::ks,v::vs,h=>by simp[bg] at h;simp[dK h.2]
 | [],_::_,h=>by simp[bg] at h
 |_::_,[],h=>by simp[bg] at h
theorem vg:∀{ks:List Int} {vs:List ae} {k:Int} {v:ae},bg ks vs=true→v.aD=k→iq v=true→bg (ks++ [k]) (vs++ [v])=true
 | [],[],k,v,_,h1,h2=>by simp[bg,h1,h2]
 |k::ks,v::vs,_,_,h,h1,h2=>by
  simp[bg] at h;simp[bg,h.1,vg h.2 h1 h2]
 | [],_::_,_,_,h,_,_=>by simp[bg] at h
 |_::_,[],_,_,h,_,_=>by simp[bg] at h
theorem XJ (ks:List Int) (hk:fN ks=true) (hl:ks.length≤100) (key:Int) (n0:Nat):∀(xs:List Int) (i m:Nat) (out:List ae) (c:an),ks.drop i=xs→300+xs.length<m→bh c→bg (ks.take i) out=true→
  Ok (uC (B8 n0) m key 1 ks (ks.length:Int) (i:Int) c out) fun r=>bh r.2∧bg ks r.1=true
 | [],i,m+1,out,c,hd,hm,hc,ho=>by
  have:ks.length≤i:=by simpa using hd
  have hq:¬((i:Int)<(ks.length:Int)):=by omega
  simp only[uC,GZ,B8,hq,decide_false,Bool.false_eq_true,if_false];exact Ok.pure ⟨hc,by rwa[List.take_of_length_le this] at ho⟩
 |x::xs,i,m+1,out,c,hd,hm,hc,ho=>by
  obtain ⟨g1,g2,g3⟩:=ba hd;have hq:((i:Int)<(ks.length:Int)):=by omega
  have hx:=tN hk g1;have hkr:=rh hx;have hlen:=dK ho;rw[List.length_take] at hlen;simp only[uC,GZ,hq,decide_true,if_true,aO,g1,Option.bind_some];simp at hm;have cell:Ok (rP (pd (uC (B8 n0) m) m) m key 1 x ks (ks.length:Int) (i:Int) false c out) fun r=>bh r.2∧bg ks r.1=true:=by
   unfold rP pd;simp only[Bool.false_eq_true,if_false];refine Ok.bind (LI m (by omega) c x hc hkr.1 hkr.2) fun r ⟨hr,r1,r2⟩=> ?_
   rw[dy _ _ (by simp;omega),Option.bind_some,bA g3 (by omega)]
   refine XJ ks hk hl key n0 xs (i+1) m _ _ g2 (by omega) hr ?_
   rw[List.take_succ,g1];exact vg ho r1 r2
  refine Ok.ite (fun _=> ?_) fun _=>cell
  exact cell
 |_,_,0,_,_,_,hm,_,_=>by simp at hm
theorem XU (n:Nat) (hn:1000≤n) (c:an) (ks:List Int) (key:Int) (hk:fN ks=true) (hl:ks.length≤100) (hc:bh c):Ok (F33 n c ks key 1) fun r=>bh r.2∧bg ks r.1=true:=
 XJ ks hk hl key n ks 0 n [] c rfl (by omega) hc rfl
section
theorem Ea (x y:UInt8) (a b:List UInt8):Op.bytesLess (x::a) (y::b)=(decide (x<y)||(x==y&&Op.bytesLess a b)):=by simp[Op.bytesLess]
theorem rG:∀{a b:List UInt8},Op.bytesLess a b=true→Op.bytesLess b a=false
 | [],[],h=>by simp[Op.bytesLess] at h
 | [],_::_,_=>by simp[Op.bytesLess]
 |_::_,[],h=>by simp[Op.bytesLess] at h
 |x::a,y::b,h=>by
  rw[Ea] at h ⊢;by_cases h1:x<y
  ·have h2:¬y<x:=fun h2=>UInt8.lt_irrefl x (UInt8.lt_trans h1 h2)
   have h3:¬y=x:=fun e=>by subst e;exact UInt8.lt_irrefl _ h1
   simp[h2,h3]
  ·by_cases h3:x=y
   ·subst h3;simp[UInt8.lt_irrefl] at h ⊢;exact rG h
   ·simp[h1,h3] at h
theorem rE:∀{a b:List UInt8},Op.bytesLess a b=false→a≠b→Op.bytesLess b a=true
 | [],[],_,h=>absurd rfl h
 | [],_::_,h,_=>by simp[Op.bytesLess] at h
 |_::_,[],_,_=>by simp[Op.bytesLess]
 |x::a,y::b,h,hne=>by
  rw[Ea] at h ⊢;by_cases h1:x<y
  ·simp[h1] at h
  ·by_cases h2:y<x
   ·simp[h2]
   ·have:x=y:=UInt8.le_antisymm (UInt8.not_lt.1 h2) (UInt8.not_lt.1 h1);subst this;simp[UInt8.lt_irrefl] at h ⊢;exact rE h (fun e=>hne (by rw[e]))
theorem X4 (a b:ae):fY b a= - fY a b:=by
 unfold fY;by_cases h1:a.aD<b.aD
 ·have:¬b.aD<a.aD:=by omega
  simp[h1,this]
 ·by_cases h2:b.aD<a.aD
  ·simp[h1,h2]
  ·by_cases h3:a.bJ<b.bJ
   ·have:¬b.bJ<a.bJ:=by omega
    simp[h1,h2,h3,this]
   ·by_cases h4:b.bJ<a.bJ
    ·simp[h1,h2,h3,h4]
    ·cases h5:Op.bytesLess a.bt.toList b.bt.toList with
     |true=>
      have h6:=rG h5;have h7:¬b.bt=a.bt:=fun e=>by rw[e,ij] at h5;cases h5
      simp[h1,h2,h3,h4,h6,h7]
     |false=>
      by_cases h6:a.bt=b.bt
      ·simp[h1,h2,h3,h4,h6,ij]
      ·have h7:Op.bytesLess b.bt.toList a.bt.toList=true:=rE h5 (fun e=>h6 (ot (by rw[l3,l3] at e;exact e)))
       simp[h1,h2,h3,h4,h6,h7]
theorem OW (a b:ae):fY a b= -1∨fY a b=0∨fY a b=1:=by
 unfold fY;repeat' split
 all_goals simp
def bT:List ae→List ae→Int
 | [],[]=>0
 | [],_::_=> -1
 |_::_,[]=>1
 |a::x,b::y=>if fY a b=0 then bT x y else fY a b
theorem tC:∀(x y:List ae),bT y x= - bT x y
 | [],[]=>rfl
 | [],_::_=>rfl
 |_::_,[]=>rfl
 |a::x,b::y=>by
  have h:=X4 a b;simp only[bT];rw[tC x y,h];by_cases h1:fY a b=0
  ·simp[h1]
  ·have:¬ -fY a b=0:=by omega
   simp[h1,this]
theorem oG:∀(x y:List ae),bT x y= -1∨bT x y=0∨bT x y=1
 | [],[]=>by simp[bT]
 | [],_::_=>by simp[bT]
 |_::_,[]=>by simp[bT]
 |a::x,b::y=>by
  simp only[bT];split
  ·exact oG x y
  ·exact OW a b
theorem ga (x:List ae):bT x x=0:=by have:=tC x x;omega
theorem XM (n0:Nat) (a b:List ae) (ha:a.length<4294967296):∀(x:List ae) (i m:Nat),a.drop i=x→i≤a.length→i≤b.length→x.length<m→xN (Ca n0) m a b (i:Int)=some (bT (a.drop i) (b.drop i))
 | [],i,m+1,hd,h1,h2,hm=>by
  have hl:a.length≤i:=by simpa using hd
  have hq:¬((i:Int)<(a.length:Int)):=by omega
  simp only[xN,G5,Ca,hq,decide_false,Bool.false_eq_true,if_false];rw[hd];cases hb:b.drop i with
  |nil=>
   have:b.length≤i:=by simpa using hb
   have e1:¬(a.length:Int)<b.length:=by omega
   have e2:¬(b.length:Int)<a.length:=by omega
   simp[e1,e2,bT]
  |cons y l=>
   obtain ⟨_,_,g3⟩:=ba hb;have e1:(a.length:Int)<b.length:=by omega
   simp[e1,bT]
 |x::xs,i,m+1,hd,h1,h2,hm=>by
  obtain ⟨g1,g2,g3⟩:=ba hd;have hq:(i:Int)<(a.length:Int):=by omega
  simp only[xN,G5,hq,decide_true,if_true];cases hb:b.drop i with
  |nil=>
   have hl:b.length≤i:=by simpa using hb
   have e0:¬(i:Int)<b.length:=by omega
   have e1:¬(a.length:Int)<b.length:=by omega
   have e2:(b.length:Int)<a.length:=by omega
   simp[e0,e1,e2,Ca,hd,bT]
  |cons y l=>
   obtain ⟨k1,k2,k3⟩:=ba hb;have e0:(i:Int)<b.length:=by omega
   simp only[e0,decide_true,if_true,aO,g1,k1,Option.bind_some,agX];rw[hd,bA g3 ha];simp only[bT];by_cases h:fY x y=0
   ·simp only[h,bne_self_eq_false,Bool.false_eq_true,if_false,if_true];rw[XM n0 a b ha xs (i+1) m g2 (by omega) (by omega) (by simp at hm;omega),g2,k2]
   ·have:(fY x y !=0)=true:=by simpa using h
    simp only[this,h,if_true,if_false]
 |_,_,0,_,_,_,hm=>by simp at hm
theorem qG (n:Nat) (a b:List ae) (ha:a.length<4294967296) (hn:a.length<n):F22 n a b=some (bT a b):=by
 have:=XM n a b ha a 0 n rfl (by omega) (by omega) hn
 simp only[List.drop_zero] at this;exact this
theorem XB (n0:Nat) (a b:List ae) (ha:a.length<4294967296):∀(x:List ae) (i m:Nat),a.drop i=x→i≤a.length→i≤b.length→x.length<m→ux (BV n0) m a b a (a.length:Int) (i:Int)=some (bT (a.drop i) (b.drop i))
 | [],i,m+1,hd,h1,h2,hm=>by
  have hl:a.length≤i:=by simpa using hd
  have hq:¬((i:Int)<(a.length:Int)):=by omega
  simp only[ux,Gn,BV,hq,decide_false,Bool.false_eq_true,if_false];rw[hd];cases hb:b.drop i with
  |nil=>
   have:b.length≤i:=by simpa using hb
   have e1:¬(a.length:Int)<b.length:=by omega
   simp[e1,bT]
  |cons y l=>
   obtain ⟨_,_,g3⟩:=ba hb;have e1:(a.length:Int)<b.length:=by omega
   simp[e1,bT]
 |x::xs,i,m+1,hd,h1,h2,hm=>by
  obtain ⟨g1,g2,g3⟩:=ba hd;have hq:(i:Int)<(a.length:Int):=by omega
  simp only[ux,Gn,hq,decide_true,if_true,aO,g1,Option.bind_some];cases hb:b.drop i with
  |nil=>
   have hl:b.length≤i:=by simpa using hb
   have e0:¬(i:Int)<b.length:=by omega
   simp[e0,hd,bT]
  |cons y l=>
   obtain ⟨k1,k2,k3⟩:=ba hb;have e0:(i:Int)<b.length:=by omega
   simp only[e0,decide_true,Bool.not_true,Bool.false_eq_true,if_false,k1,Option.bind_some,agQ];rw[hd,bA g3 ha];simp only[bT];by_cases h:fY x y=0
   ·simp only[h,bne_self_eq_false,Bool.false_eq_true,if_false,if_true];rw[XB n0 a b ha xs (i+1) m g2 (by omega) (by omega) (by simp at hm;omega),g2,k2]
   ·have:(fY x y !=0)=true:=by simpa using h
    simp only[this,h,if_true,if_false]
 |_,_,0,_,_,_,hm=>by simp at hm
theorem qF (n:Nat) (a b:List ae) (ha:a.length<4294967296) (hn:a.length<n):F52 n a b=some (bT a b):=by
 have:=XB n a b ha a 0 n rfl (by omega) (by omega) hn
 simp only[List.drop_zero] at this;show (ux (BV n) n a b a (a.length:Int) 0).bind (fun x=>some x)=_
 rw[show (0:Int)=((0:Nat):Int) from rfl,this];rfl
def gF (t:Int) (a:List ae) (u:Int) (b:List ae):Int:=if t=u then bT a b else if t<u then -1 else 1
theorem Z5 (t:Int) (a:List ae) (u:Int) (b:List ae):gF u b t a= - gF t a u b:=by
 unfold gF;by_cases h:t=u
 ·subst h;simp[tC a b]
 ·have h':¬u=t:=fun e=>h e.symm
  by_cases h2:t<u
  ·have:¬u<t:=by omega
   simp[h,h',h2,this]
  ·have:u<t:=by omega
   simp[h,h',h2,this]
theorem Rz (t:Int) (a:List ae) (u:Int) (b:List ae):gF t a u b= -1∨gF t a u b=0∨gF t a u b=1:=by
 unfold gF;split
 ·exact oG a b
 ·split<;>simp
theorem ahf (n:Nat) (t u:Int) (a b:List ae) (ha:a.length<4294967296) (hn:a.length<n):F36 n t a u b=some (gF t a u b):=by
 unfold F36 SR gF;rw[qG n a b ha hn];by_cases h:t=u
 ·simp[h]
 ·have:(t !=u)=true:=by simpa using h
  by_cases h2:t<u<;>simp[h,h2]
theorem aha (n:Nat) (a b:ar) (ha:a.aA.length<4294967296) (hn:a.aA.length<n):F42 n a b=some (gF a.ax a.aA b.ax b.aA):=by
 unfold F42 SK gF;rw[qF n a.aA b.aA ha hn];by_cases h:a.ax=b.ax
 ·simp[h]
 ·by_cases h2:a.ax<b.ax<;>simp[h,h2]
def bc (T:au):List Int:=T.aq.map (·.aD)
theorem nT {α:Type} {xs:List α} {i:Int} {x:α} (h:idx xs i=some x):0≤i∧i.toNat<xs.length∧xs[i.toNat]? =some x:=by
 unfold idx at h;split at h
 ·exact ⟨by assumption,(List.getElem?_eq_some_iff.1 h).1,h⟩
 ·cases h
theorem XK (n0:Nat) (cs:List bl) (hl:cs.length≤1000):∀(x:List bl) (i m:Nat) (out:List Int),cs.drop i=x→x.length<m→out=(cs.take i).map (·.aD)→xL (G0 n0) m cs (cs.length:Int) (i:Int) out=some (cs.map (·.aD))
 | [],i,m+1,out,hd,hm,ho=>by
  have hl:cs.length≤i:=by simpa using hd
  have hq:¬((i:Int)<(cs.length:Int)):=by omega
  simp only[xL,G1,G0,hq,decide_false,Bool.false_eq_true,if_false];rw[ho,List.take_of_length_le hl]
 |x::xs,i,m+1,out,hd,hm,ho=>by
  obtain ⟨g1,g2,g3⟩:=ba hd;have hq:(i:Int)<(cs.length:Int):=by omega
  simp only[xL,G1,hq,decide_true,if_true,aO,g1,Option.bind_some];rw[dy _ _ (by rw[ho];simp;omega),Option.bind_some,bA g3 (by omega)]
  refine XK n0 cs hl xs (i+1) m _ g2 (by simp at hm;omega) ?_
  rw[ho,List.take_succ,g1];simp
 |_,_,0,_,_,hm,_=>by simp at hm
theorem XC (n0:Nat) (cs:List bl) (hl:cs.length≤1000):∀(x:List bl) (i m:Nat) (out:List Int),cs.drop i=x→x.length<m→out=(cs.take i).map (·.aD)→xz (Gq n0) m cs (cs.length:Int) (i:Int) out=some (cs.map (·.aD))
 | [],i,m+1,out,hd,hm,ho=>by
  have hl:cs.length≤i:=by simpa using hd
  have hq:¬((i:Int)<(cs.length:Int)):=by omega
  simp only[xz,Gr,Gq,hq,decide_false,Bool.false_eq_true,if_false];rw[ho,List.take_of_length_le hl]
 |x::xs,i,m+1,out,hd,hm,ho=>by
  obtain ⟨g1,g2,g3⟩:=ba hd;have hq:(i:Int)<(cs.length:Int):=by omega
  simp only[xz,Gr,hq,decide_true,if_true,aO,g1,Option.bind_some];rw[dy _ _ (by rw[ho];simp;omega),Option.bind_some,bA g3 (by omega)]
  refine XC n0 cs hl xs (i+1) m _ g2 (by simp at hm;omega) ?_
  rw[ho,List.take_succ,g1];simp
 |_,_,0,_,_,hm,_=>by simp at hm
section
variable {s:ag} {t:Int} {T:au} {n:Nat}
theorem Ol {α:Type} {xs:List α} {i:Int} (h0:0≤i) (h:¬i<(xs.length:Int)):idx xs i=none:=by
 unfold idx;rw[if_pos h0,List.getElem?_eq_none (by omega)]
theorem BP (hT:idx s.ah t=some T):F81 n s t=some true:=by
 obtain ⟨h0,h1,_⟩:=nT hT;have e1:¬t<0:=by omega
 have e2:t<(s.ah.length:Int):=by omega
 simp[F81,Sb,e1,e2]
theorem LL (hT:idx s.ah t=some T) (hl:T.aq.length≤1000) (hn:1000<n):F32 n s t=some (bc T):=by
 obtain ⟨h0,h1,_⟩:=nT hT;have e1:¬t<0:=by omega
 have e2:t<(s.ah.length:Int):=by omega
 simp only[F32,SW,e1,e2,decide_false,decide_true,Bool.not_true,Bool.false_eq_true,if_false,hT,Option.bind_some];exact XK n T.aq hl T.aq 0 n [] rfl (by omega) rfl
theorem LH (hT:idx s.ah t=some T) (hl:T.aq.length≤1000) (hn:1000<n):F78 n s t=some (bc T):=by
 simp only[F78,Sf,BP hT,Option.bind_some,Bool.not_true,Bool.false_eq_true,if_false,hT];have:l9 (T.aq.length:Int) (0:Int)=some (List.replicate T.aq.length 0):=by simp[l9];omega
 rw[this,Option.bind_some];exact XC n T.aq hl T.aq 0 n [] rfl (by omega) rfl
structure cE (T:au):Prop where
 ia:1≤T.aA
 cL:T.aA≤(T.aq.length:Int)
 aG:T.aq.length≤8
 ks:fN (bc T)=true
def vC (T:au):List Int:=(bc T).take T.aA.toNat
theorem dg (T:au):(bc T).length=T.aq.length:=by simp[bc]
theorem ahc (hT:idx s.ah t=some T) (ht:cE T) (hn:1000<n):F40 n s t=some (vC T):=by
 have:=ht.aG;have h1:=ht.ia;have h2:=ht.cL;have hl:=dg T;have e1:¬T.aA<0:=by omega
 have e2:¬((bc T).length:Int)<T.aA:=by omega
 simp only[F40,SM,LH hT (by omega) hn,BP hT,Option.bind_some,Bool.not_true,Bool.false_eq_true,if_false,hT,e1,e2,decide_false]
 have:iA (bc T).length T.aA=some T.aA.toNat:=by unfold iA;rw[if_pos (by omega)]
 rw[this,Option.bind_some];rfl
theorem Bo {α:Type} {xs:List α} {k:Int} (h0:0≤k) (h:k.toNat≤xs.length):cut xs none (some k)=some (xs.take k.toNat):=by
 obtain ⟨m,rfl⟩:∃m:Nat,k=m:=⟨k.toNat,by omega⟩
 simp at h;simp[cut,h]
theorem BR (r:List ae) (h:r.length≤1000000):F54 n r=some r:=by
 simp only[F54,SH];rw[dy _ _ (by simpa using h)]
 rfl
theorem BS (hT:idx s.ah t=some T) (ht:cE T) (r:List ae) (hr:r.length=T.aq.length):F34 n s t r=some (r.take T.aA.toNat):=by
 obtain ⟨h0,h1,_⟩:=nT hT;have:=ht.aG;have k1:=ht.ia;have k2:=ht.cL;have e1:¬t<0:=by omega
 have e2:t<(s.ah.length:Int):=by omega
 have e3:¬(r.length:Int)<T.aA:=by omega
 have e4:0<T.aA:=by omega
 simp only[F34,SU,e1,e2,decide_false,decide_true,Bool.not_true,Bool.false_eq_true,if_false,hT,Option.bind_some,e3,e4,if_true];rw[Bo (by omega) (by omega),Option.bind_some,BR _ (by simp;omega)]
 rfl
theorem agR (hT:idx s.ah t=some T) (ht:cE T) (r:List ae) (hr:r.length=T.aq.length):F82 n s t r=some (r.take T.aA.toNat):=by
 have:=ht.aG;have k1:=ht.ia;have k2:=ht.cL;have e3:¬(r.length:Int)<T.aA:=by omega
 have e4:¬T.aA<0:=by omega
 simp only[F82,Sa,BP hT,Option.bind_some,Bool.not_true,Bool.false_eq_true,if_false,hT,e3,e4,decide_false];rw[Bo (by omega) (by omega),Option.bind_some,dy _ _ (by simp;omega),Option.bind_some]
 rfl
end
theorem XI (n0:Nat) (ks:List Int) (r:List ae) (hr:r.length=ks.length) (hl:r.length<4294967296):∀(x:List ae) (i m:Nat),r.drop i=x→i≤r.length→x.length<m→xI (GP n0) m ks r (r.length:Int) (i:Int)=some (bg (ks.drop i) (r.drop i))
 | [],i,m+1,hd,h1,hm=>by
  have hq':r.length≤i:=by simpa using hd
  have hq:¬((i:Int)<(r.length:Int)):=by omega
  simp only[xI,GQ,GP,hq,decide_false,Bool.false_eq_true,if_false];rw[hd,List.drop_of_length_le (by omega)]
  rfl
 |x::xs,i,m+1,hd,h1,hm=>by
  obtain ⟨g1,g2,g3⟩:=ba hd;have hq:(i:Int)<(r.length:Int):=by omega
  obtain ⟨k,ks',hk⟩:∃k ks',ks.drop i=k::ks':=by
   rw[List.drop_eq_getElem_cons (by omega)]
   exact ⟨_,_,rfl⟩
  obtain ⟨k1,k2,k3⟩:=ba hk;simp only[xI,GQ,hq,decide_true,if_true,aO,g1,k1,Option.bind_some,XS];rw[hd,hk,bA g3 hl];simp only[bg];cases hv:iq x with
  |false=>simp
  |true=>
   by_cases he:x.aD=k
   ·simp only[he,bne_self_eq_false,Bool.not_true,Bool.false_eq_true,if_false,beq_self_eq_true,Bool.true_and];rw[XI n0 ks r hr hl xs (i+1) m g2 (by omega) (by simp at hm;omega),g2,k2]
   ·simp[he]
 |_,_,0,_,_,hm=>by simp at hm
theorem NF {ks:List Int} {r:List ae} (h:¬r.length=ks.length):bg ks r=false:=by
 cases hr:bg ks r with
 |false=>rfl
 |true=>exact absurd (dK hr) h
theorem XT (n:Nat) (r:List ae) (ks:List Int) (hl:ks.length<n) (hk:ks.length<4294967296):F39 n r ks=some (bg ks r):=by
 unfold F39 SN;by_cases h:r.length=ks.length
 ·have e:((r.length:Int) !=(ks.length:Int))=false:=by simp[h]
  rw[e];simp only[Bool.false_eq_true,if_false];have:=XI n ks r h (by omega) r 0 n rfl (by omega) (by omega)
  simpa using this
 ·have e:((r.length:Int) !=(ks.length:Int))=true:=by simp;omega
  rw[e,NF h];rfl
theorem YR {v:ae} {k:Int} (hk:kOK k=true) (h:v.aD=k):iq v=iE v:=by
 have:=rh hk;have:3≤v.aD:=by omega
 simp[iq,this]
section
variable {s:ag} {t:Int} {T:au} {n:Nat}
theorem y6 (ht:cE T):(vC T).length=T.aA.toNat:=by
 have h1:=ht.ia;have h2:=ht.cL;simp[vC,dg];omega
end
end
section
theorem AJ {T:au} {i:Nat} {c:bl} (h:T.aq[i]? =some c):(bc T)[i]? =some c.aD:=by simp[bc,h]
theorem MY {T:au} {i:Nat} {c:bl} (h:T.aq[i]? =some c):(bc T).drop i=c.aD::(bc T).drop (i+1):=by
 have h1:i<(bc T).length:=by rw[dg];exact (List.getElem?_eq_some_iff.1 h).1
 have h2:=AJ h;rw[List.drop_eq_getElem_cons h1];rw[List.getElem?_eq_getElem h1] at h2;rw[Option.some.inj h2]
theorem XE (n0:Nat) (T:au) (ht:fN (bc T)=true) (r:List ae) (hr:r.length=T.aq.length) (hl:r.length<4294967296):∀(x:List ae) (i m:Nat),r.drop i=x→i≤r.length→x.length<m→rL (xZ n0) m 1 r (r.length:Int) (i:Int) T=some (bg ((bc T).drop i) (r.drop i))
 | [],i,m+1,hd,h1,hm=>by
  have hq':r.length≤i:=by simpa using hd
  have hq:¬((i:Int)<(r.length:Int)):=by omega
  simp only[rL,GF,xZ,hq,decide_false,Bool.false_eq_true,if_false];rw[hd,List.drop_of_length_le (by rw[dg];omega)]
  rfl
 |x::xs,i,m+1,hd,h1,hm=>by
  obtain ⟨g1,g2,g3⟩:=ba hd;have hq:(i:Int)<(r.length:Int):=by omega
  have hlt:i<T.aq.length:=by omega
  have hc:T.aq[i]? =some T.aq[i]:=List.getElem?_eq_getElem hlt;have hk:=MY hc;have hkk:=tN ht (AJ hc);generalize T.aq[i]=c at hc hk hkk;have key:ya (rL (xZ n0) m) m 1 (i:Int) false r (r.length:Int) (i:Int) T x=if x.aD=c.aD then rL (xZ n0) m 1 r (r.length:Int) (w64 ((i:Int)+1)) T else some false:=by
   unfold ya B0;simp only[aO,hc,Option.bind_some];by_cases he:x.aD=c.aD
   ·simp[he]
   ·simp[he]
  simp only[rL,GF,hq,decide_true,if_true,aO,g1,Option.bind_some,OL];rw[hd,hk];simp only[bg];by_cases he:x.aD=c.aD
  ·rw[YR hkk he];cases hv:iE x with
   |false=>simp
   |true=>
    have ih:=XE n0 T ht r hr hl xs (i+1) m g2 (by omega) (by simp at hm;omega)
    rw[g2] at ih;simp only[Bool.not_true,Bool.false_eq_true,if_false,bne_self_eq_false,key,he,if_true,bA g3 hl,ih];simp
  ·cases hv:iE x with
   |false=>simp[he]
   |true=>
    simp only[Bool.not_true,Bool.false_eq_true,if_false,bne_self_eq_false,key,he];simp[he]
 |_,_,0,_,_,hm=>by simp at hm
section
variable {s:ag} {t:Int} {T:au} {n:Nat}
theorem LK (hT:idx s.ah t=some T) (ht:cE T) (r:List ae) (hn:1000<n):F70 n s t r 1=some (bg (bc T) r):=by
 have hc:=ht.aG;have hl:=dg T;simp only[F70,Sl,xY,bne_self_eq_false,Bool.false_eq_true,if_false,BP hT,Option.bind_some,Bool.not_true,hT];by_cases h:r.length=T.aq.length
 ·have e:((r.length:Int) !=(T.aq.length:Int))=false:=by simp[h]
  rw[e];simp only[Bool.false_eq_true,if_false];have:=XE n T ht.ks r h (by omega) r 0 n rfl (by omega) (by omega)
  simp only[List.drop_zero] at this;exact this
 ·have e:((r.length:Int) !=(T.aq.length:Int))=true:=by simp;omega
  rw[e,NF (by omega)]
  rfl
end
section
variable {s:ag} {t:Int} {T:au} {n:Nat}
end
def dT (ks:List Int):Int→List Int→Option (List Int)
 |_,[]=>some []
 |last,c::cs=>if last<c∧c<(ks.length:Int) then (dT ks c cs).map (fun l=>(ks[c.toNat]?).getD 0::l) else none
theorem XH (n0:Nat) (hn0:1000<n0) (ks:List Int) (hk:ks.length≤8) (w:ar) (hl:w.aq.length<4294967296):∀(x:List Int) (i m:Nat) (last:Int) (acc:List Int),w.aq.drop i=x→x.length<m→ -1≤last→last<8→(acc.length:Int)≤last+1→
  xH (GN n0) m last w.aq (w.aq.length:Int) (i:Int) w ks acc=some (match dT ks last x with|some l=>bg (acc++l) w.aV|none=>false)
 | [],i,m+1,last,acc,hd,hm,h1,h2,h3=>by
  have hq':w.aq.length≤i:=by simpa using hd
  have hq:¬((i:Int)<(w.aq.length:Int)):=by omega
  simp only[xH,GO,GN,hq,decide_false,Bool.false_eq_true,if_false,dT,List.append_nil];rw[XT n0 w.aV acc (by omega) (by omega)]
  rfl
 |c::cs,i,m+1,last,acc,hd,hm,h1,h2,h3=>by
  obtain ⟨g1,g2,g3⟩:=ba hd;have hq:(i:Int)<(w.aq.length:Int):=by omega
  simp only[xH,GO,hq,decide_true,if_true,aO,g1,Option.bind_some,dT];by_cases h4:last<c
  ·by_cases h5:c<(ks.length:Int)
   ·have hb:bnd ks.length c=some c.toNat:=by unfold bnd;rw[if_pos (by omega)]
    have hg:ks[c.toNat]? =some (ks[c.toNat]'(by omega)):=List.getElem?_eq_getElem _
    simp only[h4,h5,decide_true,Bool.not_true,Bool.false_eq_true,if_false,hb,Option.bind_some,Nat.zero_add,hg,and_self,if_true,Option.getD_some];rw[dy _ _ (by simp;omega),Option.bind_some,bA g3 hl,XH n0 hn0 ks hk w hl cs (i+1) m c _ g2 (by simp at hm;omega) (by omega) (by omega) (by simp;omega)]
    cases dT ks c cs with
    |none=>rfl
    |some l=>simp
   ·simp[h4,h5]
  ·simp[h4]
 |_,_,0,_,_,_,hm,_,_,_=>by simp at hm
theorem uh {ks:List Int} (hk:fN ks=true):∀{last:Int} {cs l:List Int}, -1≤last→dT ks last cs=some l→l.length=cs.length∧∀(i:Nat) (c:Int),cs[i]? =some c→0≤c∧c.toNat<ks.length∧l[i]? =ks[c.toNat]? ∧∀k,l[i]? =some k→kOK k=true
 |last,[],l,_,h=>by simp[dT] at h;subst h;exact ⟨rfl,fun i c hc=>by simp at hc⟩
 |last,c::cs,l,h1,h=>by
  simp only[dT] at h;split at h
  ·rename_i hc;cases h2:dT ks c cs with
   |none=>rw[h2] at h;cases h
   |some l'=>
    rw[h2] at h;simp at h;subst h;obtain ⟨e1,e2⟩:=uh hk (by omega) h2
    refine ⟨by simp[e1],fun i d hd=> ?_⟩
    cases i with
    |zero=>
     simp at hd;subst hd;have hg:ks[c.toNat]? =some (ks[c.toNat]'(by omega)):=List.getElem?_eq_getElem _
     refine ⟨by omega,by omega,by simp[hg],fun k hk'=> ?_⟩
     simp[hg] at hk';exact tN hk (hg.trans (by rw[hk']))
    |succ i=>simpa using e2 i d (by simpa using hd)
  ·cases h
def g6 (T:au) (w:ar):Bool:=
 if w.fOp=1 then w.aq.isEmpty&&(bg (bc T) w.aV&&bT (w.aV.take T.aA.toNat) w.aA==0)
 else if w.fOp=2 then (match dT (bc T) (T.aA-1) w.aq with|some l=>bg l w.aV|none=>false)
 else w.aq.isEmpty&&w.aV.isEmpty
def wOK (T:au) (w:ar):Bool:=bg (vC T) w.aA&&g6 T w
section
variable {s:ag} {T:au} {n:Nat}
theorem JM {α:Type} (l:List α):((l.length:Int)==0)=l.isEmpty:=by cases l<;>simp;omega
theorem ahb (w:ar) (hT:idx s.ah w.ax=some T) (ht:cE T) (hn:2000000≤n) (hl:w.aq.length≤1500000):F41 n s w=some (g6 T w):=by
 have hc:=ht.aG;have k1:=ht.ia;have k2:=ht.cL;have hkl:=dg T;unfold F41 SL g6;by_cases h1:w.fOp=1
 ·simp only[h1,beq_self_eq_true,if_true,JM,LK hT ht w.aV (by omega:1000<n),Option.bind_some]
  cases w.aq.isEmpty with
  |false=>simp
  |true=>
   simp only[if_true,Bool.true_and];cases hr:bg (bc T) w.aV with
   |false=>simp
   |true=>
    have hlen:=dK hr;simp only[if_true,agR (n:=n) hT ht w.aV (by omega),Option.bind_some]
    rw[qF n _ _ (by simp;omega) (by simp;omega)]
    simp
 ·have e1:(w.fOp==1)=false:=by simpa using h1
  simp only[e1,Bool.false_eq_true,if_false,h1];by_cases h2:w.fOp=2
  ·simp only[h2,beq_self_eq_true,if_true,LH hT (by omega) (by omega:1000<n),Option.bind_some,hT]
   rw[bY (by omega) (by omega)]
   have:=XH n (by omega) (bc T) (by omega) w (by omega) w.aq 0 n (T.aA-1) [] rfl (by omega) (by omega) (by omega) (by simp;omega)
   simpa using this
  ·have e2:(w.fOp==2)=false:=by simpa using h2
   simp only[e2,Bool.false_eq_true,if_false,h2,JM];cases w.aq.isEmpty<;>simp
end
end
structure SOK (s:ag):Prop where
 len:s.ah.length≤8
 tab:∀t T,idx s.ah t=some T→cE T
def oH:Option ar→ar→Bool
 |none,_=>false
 |some p,w=> !decide (gF p.ax p.aA w.ax w.aA<0)
def fg (s:ag):Option ar→List ar→Int
 |_,[]=>0
 |prev,w::ws=>
  match idx s.ah w.ax with
  |none=>1
  |some T=>if w.fOp<1∨3<w.fOp then 1 else if (!wOK T w)=true then 270 else if oH prev w=true then 270 else fg s (some w) ws
def wB (w:ar):Prop:=w.aq.length≤1500000∧w.aA.length≤1500000
theorem XO (n0:Nat) (s:ag) (hs:SOK s) (ws:List ar) (hl:ws.length<4294967296) (hb:∀w∈ws,wB w):∀(x:List ar) (i m:Nat),ws.drop i=x→x.length+2000000<m→xR (He n0) m ws ws (ws.length:Int) (i:Int) s=some (fg s (if i=0 then none else ws[i-1]?) x)
 | [],i,m+1,hd,hm=>by
  have hq':ws.length≤i:=by simpa using hd
  have hq:¬((i:Int)<(ws.length:Int)):=by omega
  simp only[xR,Hg,He,hq,decide_false,Bool.false_eq_true,if_false];simp[fg]
 |w::x,i,m+1,hd,hm=>by
  obtain ⟨g1,g2,g3⟩:=ba hd;have hq:(i:Int)<(ws.length:Int):=by omega
  have hbw:=hb w (List.mem_of_getElem? g1);simp at hm;have ih:=XO n0 s hs ws hl hb x (i+1) m g2 (by omega)
  rw[if_neg (by omega),show i+1-1=i by omega,g1] at ih
  simp only[xR,Hg,hq,decide_true,if_true,aO,g1,Option.bind_some,bA g3 hl,ih,fg];by_cases h1:w.fOp<1
  ·have hor:w.fOp<1∨3<w.fOp:=.inl h1;cases hT:idx s.ah w.ax<;>simp[h1]
  ·by_cases h2:3<w.fOp
   ·cases hT:idx s.ah w.ax<;>simp[h1,h2]
   ·simp only[h1,h2,decide_false,Bool.false_eq_true,if_false,or_self];by_cases h3:w.ax<0
    ·have:idx s.ah w.ax=none:=by unfold idx;rw[if_neg (by omega)]
     simp[h3,this]
    ·by_cases h4:w.ax<(s.ah.length:Int)
     ·obtain ⟨T,hT⟩:∃T,idx s.ah w.ax=some T:=by
       unfold idx;rw[if_pos (by omega),List.getElem?_eq_getElem (by omega)];exact ⟨_,rfl⟩
      have ht:=hs.tab _ _ hT;have hc:=ht.aG;have hkl:=y6 ht;have k2:=ht.cL;simp only[h3,h4,decide_false,decide_true,Bool.not_true,Bool.false_eq_true,if_false,hT,ahc hT ht (by omega:1000<m),Option.bind_some,XT m w.aA (vC T) (by omega) (by omega),ahb w hT ht (by omega:2000000≤m) hbw.1,wOK]
      rcases Bool.eq_false_or_eq_true (bg (vC T) w.aA) with hv|hv
      rotate_left
      ·simp[hv]
      ·rcases Bool.eq_false_or_eq_true (g6 T w) with hf|hf
       rotate_left
       ·simp[hv,hf]
       ·simp only[hv,hf,Bool.not_true,Bool.false_eq_true,if_false,Bool.and_self];by_cases h0:i=0
        ·subst h0;simp[oH]
        ·have h0':0<(i:Int):=by omega
         have hw:w64 ((i:Int)-1)=((i-1:Nat):Int):=by rw[bY (by omega) (by omega)];omega
         have hg:ws[i-1]? =some (ws[i-1]'(by omega)):=List.getElem?_eq_getElem _
         have hbp:=hb _ (List.mem_of_getElem? hg);generalize ws[i-1]=p at hg hbp;simp only[h0',decide_true,if_true,hw,aO,hg,Option.bind_some,h0,if_false,aha m p w (by have:=hbp.2;omega) (by have:=hbp.2;omega),oH]
         by_cases h5:gF p.ax p.aA w.ax w.aA<0
         ·simp[h5]
         ·simp[h5]
     ·have:idx s.ah w.ax=none:=Ol (by omega) h4
      simp[h3,h4,this]
 |_,_,0,_,hm=>by simp at hm
def rQ (s:ag) (e:Int) (ws:List ar):Int:=if e=0 then (if 64<ws.length then 2 else fg s none ws) else e
theorem ahl (n:Nat) (s:ag) (e:Int) (he:F38 n s=some e) (hs:e=0→SOK s) (ws:List ar) (hb:∀w∈ws,wB w) (hn:2000100≤n):F12 n s ws=some (rQ s e ws):=by
 unfold F12 S8 rQ;rw[he,Option.bind_some];by_cases h0:e=0
 ·subst h0;simp only[bne_self_eq_false,Bool.false_eq_true,if_false,if_true];by_cases h1:64<ws.length
  ·have h1':(64:Int)<(ws.length:Int):=by omega
   simp only[h1,h1',decide_true,if_true]
  ·have h1':¬(64:Int)<(ws.length:Int):=by omega
   simp only[h1,h1',decide_false,Bool.false_eq_true,if_false];have:=XO n s (hs rfl) ws (by omega) hb ws 0 n rfl (by omega)
   rw[if_pos rfl] at this;exact this
 ·have:(e !=0)=true:=by simpa using h0
  simp[this,h0]
def nmL (b:UInt8):Bool:=decide (97≤b.toNat)&&decide (b.toNat≤122)
def nmC (b:UInt8):Bool:=nmL b||((decide (48≤b.toNat)&&decide (b.toNat≤57))||decide (b.toNat=95))
def PO:List UInt8→Bool
 | []=>false
 |b::l=>nmL b&&l.all nmC
def wW (s:ByteArray):Bool:=decide (s.size≤32)&&PO s.data.toList
theorem BB (s:ByteArray):s.data.toList.length=s.size:=by simp
theorem afN {s:ByteArray} {p:Nat} {b:UInt8} (h:s.data.toList[p]? =some b):∃hp:p<s.size,s[p]'hp=b:=by
 have h1:=(List.getElem?_eq_some_iff.1 h);obtain ⟨q1,q2⟩:=h1;have hp:p<s.size:=by simpa using q1
 have q3:s.data[p]=b:=by simpa using q2
 exact ⟨hp,q3⟩
theorem Fc (k:ByteArray→Nat→Option Bool) (m:Nat) (s:ByteArray) (p:Nat) (q:Nat) (c:Int) (l:Bool):wF k m (p:Int) c l s q=if l=true then k s q else if p=0 then some false else if c=95∨(48≤c∧c≤57) then k s q else some false:=by
 unfold wF;cases l with
 |true=>simp
 |false=>
  by_cases hp:p=0
  ·simp[hp]
  ·have hp':¬(p:Int)=0:=by omega
   by_cases h1:c=95
   ·simp[hp,h1]
   ·by_cases h2:c<48
    ·have:¬48≤c:=by omega
     simp[hp,h1,h2,this]
    ·by_cases h3:57<c
     ·have:¬c≤57:=by omega
      simp[hp,h1,h2,h3,this]
     ·have h2':48≤c:=by omega
      have h3':c≤57:=by omega
      simp[hp,h1,h2,h3,h2',h3']
theorem E9 (n0:Nat) (m:Nat) (s:ByteArray) (p:Nat) (b:UInt8) (hb:s.data.toList[p]? =some b):mC (qI n0) (m+1) s p=if nmL b=true then mC (qI n0) m s (p+1) else if p=0 then some false else if nmC b=true then mC (qI n0) m s (p+1) else some false:=by
 obtain ⟨hp,he⟩:=afN hb;simp only[mC,Cj,hp,decide_true,if_true];rw[Fc,Fc];by_cases ha:b.toNat<128
 ·have hd:=decode_ascii s p hp (by rw[he];exact ha)
  rw[he] at hd;rw[hd];simp only[nmL,nmC];by_cases h1:97≤b.toNat
  ·have h1':¬((b.toNat:Int)<97):=by omega
   by_cases h2:b.toNat≤122
   ·have h2':¬(122<(b.toNat:Int)):=by omega
    simp[h1,h1',h2,h2']
   ·have h2':(122<(b.toNat:Int)):=by omega
    have e1:¬(b.toNat:Int)=95:=by omega
    have e2:¬(b.toNat:Int)≤57:=by omega
    have e3:¬b.toNat≤57:=by omega
    have e4:¬b.toNat=95:=by omega
    simp[h1,h1',h2,h2',e1,e2,e3,e4]
  ·have h1':((b.toNat:Int)<97):=by omega
   by_cases e1:b.toNat=95
   ·simp[h1,h1',e1]
   ·have e1':¬(b.toNat:Int)=95:=by omega
    by_cases e2:48≤b.toNat
    ·have e2':48≤(b.toNat:Int):=by omega
     by_cases e3:b.toNat≤57
     ·have e3':(b.toNat:Int)≤57:=by omega
      simp[h1,h1',e1,e1',e2,e2',e3,e3']
     ·have e3':¬(b.toNat:Int)≤57:=by omega
      simp[h1,h1',e1,e1',e2,e2',e3,e3']
    ·have e2':¬48≤(b.toNat:Int):=by omega
     simp[h1,h1',e1,e1',e2,e2']
 ·have hd:=(decode_high s p hp (by rw[he];omega)).1
  generalize (Utf8.decode s p)=d at hd;obtain ⟨c,q⟩:=d;simp only at hd;have a1:¬((c:Int)<97):=by omega
  have a2:122<(c:Int):=by omega
  have a3:¬((c:Int)=95∨(48≤(c:Int)∧(c:Int)≤57)):=by omega
  have b1:nmL b=false:=by simp[nmL];omega
  have b2:nmC b=false:=by simp[nmC,b1];omega
  simp[a1,a2,a3,b1,b2]
theorem OA (n0:Nat) (s:ByteArray):∀(x:List UInt8) (p m:Nat),s.data.toList.drop p=x→0<p→x.length<m→mC (qI n0) m s p=some (x.all nmC)
 | [],p,m+1,hd,hp,hm=>by
  have:s.data.toList.length≤p:=by simpa using hd
  have hq:¬p<s.size:=by rw[BB] at this;omega
  simp only[mC,Cj,qI,hq,decide_false,Bool.false_eq_true,if_false];rfl
 |b::x,p,m+1,hd,hp,hm=>by
  obtain ⟨g1,g2,g3⟩:=ba hd;have ih:=OA n0 s x (p+1) m g2 (by omega) (by simp at hm;omega)
  rw[E9 n0 m s p b g1,if_neg (by omega:¬p=0),ih]
  simp only[List.all_cons];have:nmL b=true→nmC b=true:=fun h=>by simp[nmC,h]
  cases hl:nmL b with
  |true=>simp[this hl]
  |false=>cases hc:nmC b<;>simp
 |_,_,0,_,_,hm=>by simp at hm
theorem OF (n:Nat) (s:ByteArray) (hn:100<n):LQ n s=some (wW s):=by
 unfold LQ Ml wW;by_cases h0:s.size=0
 ·have:s.data.toList= []:=by
   have:=BB s;exact List.eq_nil_of_length_eq_zero (by omega)
  simp[h0,this,PO]
 ·have e1:¬(s.size:Int)<1:=by omega
  by_cases h1:s.size≤32
  ·have e2:¬32<(s.size:Int):=by omega
   simp only[e1,e2,decide_false,Bool.false_eq_true,if_false,h1,decide_true,Bool.true_and];obtain ⟨m,rfl⟩:∃m,n=m+1:=⟨n-1,by omega⟩
   cases hx:s.data.toList with
   |nil=>have:=BB s;rw[hx] at this;simp at this;omega
   |cons b l=>
    have hl:l.length<32:=by have:=BB s;rw[hx] at this;simp at this;omega
    rw[E9 (m+1) m s 0 b (by rw[hx];rfl)]
    simp only[if_true,PO];cases hb:nmL b with
    |false=>simp
    |true=>
     simp only[if_true,Bool.true_and];exact OA (m+1) s l 1 m (by rw[hx];rfl) (by omega) (by omega)
  ·have e2:32<(s.size:Int):=by omega
   simp only[e1,e2,decide_false,decide_true,Bool.false_eq_true,if_false,if_true,h1,Bool.false_and]
theorem AA {β:Type} (d:β) (k:ByteArray) (v:β) (x:ByteArray):∀m:List (ByteArray×β),fL (gh m k v) x d=if x=k then v else fL m x d
 | []=>by simp[gh,fL]
 |p::m=>by
  simp only[gh];by_cases h:k=p.1
  ·simp only[h,if_true,fL];by_cases h2:x=p.1
   ·simp[h2]
   ·simp[h2]
  ·simp only[h,if_false,fL];by_cases h2:x=p.1
   ·have:¬x=k:=fun e=>h (e.symm.trans h2)
    simp[h2];intro e;exact absurd e.symm h
   ·simp only[h2,if_false];exact AA d k v x m
def lD (x:ByteArray):List ByteArray→Bool
 | []=>false
 |y::l=>decide (x=y)||lD x l
theorem JG (x:ByteArray):∀(a b:List ByteArray),lD x (a++b)=(lD x a||lD x b)
 | [],b=>by simp[lD]
 |y::a,b=>by simp[lD,JG x a b,Bool.or_assoc]
def rB:List ByteArray→List bl→Bool
 |_,[]=>true
 |seen,c::cs=>wW c.cG&&(!lD c.cG seen&&(kOK c.aD&&rB (seen++ [c.cG]) cs))
def O2 (seen:List ByteArray) (T:au):Bool:=wW T.cG&&(!lD T.cG seen&&(decide (1≤T.aA)&&(decide (T.aA≤(T.aq.length:Int))&&rB [] T.aq)))
def lj:List ByteArray→List au→Bool
 |_,[]=>true
 |seen,T::Ts=>O2 seen T&&lj (seen++ [T.cG]) Ts
def Ac (m:List (ByteArray×Bool)) (seen:List ByteArray):Prop:=∀x,fL m x false=lD x seen
theorem Ac.put {m:List (ByteArray×Bool)} {seen:List ByteArray} (h:Ac m seen) (k:ByteArray):Ac (gh m k true) (seen++ [k]):=fun x=>by
 rw[AA,h x,JG];by_cases hx:x=k
 ·simp[hx,lD]
 ·simp[hx,lD]
theorem Lp (k:List au→Int→Int→ByteArray→Int→Int→List bl→Int→List (ByteArray×Bool)→au→Option Bool) (cs:List bl) (hl:cs.length≤8) (a1:List au) (a2 a3:Int) (a4:ByteArray) (a5 a6:Int) (a7:List bl) (a8:Int) (a9:List (ByteArray×Bool)) (T:au):∀(x:List bl) (i m:Nat) (mp:List (ByteArray×Bool)) (seen:List ByteArray),cs.drop i=x→x.length+200<m→Ac mp seen→
  xB k m a1 a2 a3 a4 a5 a6 a7 a8 cs (cs.length:Int) (i:Int) a9 mp T=if rB seen x=true then k a1 a2 a3 a4 a5 a6 a7 a8 a9 T else some false
 | [],i,m+1,mp,seen,hd,hm,hs=>by
  have:cs.length≤i:=by simpa using hd
  have hq:¬((i:Int)<(cs.length:Int)):=by omega
  simp only[xB,Gz,hq,decide_false,Bool.false_eq_true,if_false,rB,if_true]
 |c::x,i,m+1,mp,seen,hd,hm,hs=>by
  obtain ⟨g1,g2,g3⟩:=ba hd;have hq:(i:Int)<(cs.length:Int):=by omega
  simp at hm;have ih:=Lp k cs hl a1 a2 a3 a4 a5 a6 a7 a8 a9 T x (i+1) m _ _ g2 (by omega) (hs.put c.cG)
  simp only[xB,Gz,hq,decide_true,if_true,aO,g1,Option.bind_some,OF m c.cG (by omega),hs c.cG,bA g3 (by omega),ih,rB]
  rcases Bool.eq_false_or_eq_true (wW c.cG) with hv|hv<;>rcases Bool.eq_false_or_eq_true (lD c.cG seen) with h2|h2<;>by_cases h3:c.aD=3<;>by_cases h4:c.aD=4<;>by_cases h5:c.aD=5<;>simp[hv,h2,h3,h4,h5,kOK]
 |_,_,0,_,_,_,hm,_=>by simp at hm
theorem Lo (n0:Nat) (ts:List au) (hl:ts.length≤8) (hc:∀T∈ts,T.aq.length≤8):∀(x:List au) (i m:Nat) (mp:List (ByteArray×Bool)) (seen:List ByteArray),ts.drop i=x→x.length+1000<m→Ac mp seen→
  uA (BX n0) m ts (ts.length:Int) (i:Int) mp=some (lj seen x)
 | [],i,m+1,mp,seen,hd,hm,hs=>by
  have:ts.length≤i:=by simpa using hd
  have hq:¬((i:Int)<(ts.length:Int)):=by omega
  simp only[uA,Gx,BX,hq,decide_false,Bool.false_eq_true,if_false,lj]
 |T::x,i,m+1,mp,seen,hd,hm,hs=>by
  obtain ⟨g1,g2,g3⟩:=ba hd;have hq:(i:Int)<(ts.length:Int):=by omega
  simp at hm;have hT:=hc T (List.mem_of_getElem? g1);have ih:=Lo n0 ts hl hc x (i+1) m _ _ g2 (by omega) (hs.put T.cG)
  have hcol:=Lp (Gy (uA (BX n0) m) m) T.aq hT ts (ts.length:Int) (i:Int) T.cG T.aA T.aA T.aq (T.aq.length:Int) (gh mp T.cG true) T T.aq 0 m [] [] rfl (by omega) (fun x=>by simp[fL,lD])
  rw[show ((0:Nat):Int)=0 from rfl] at hcol;simp only[uA,Gx,hq,decide_true,if_true,aO,g1,Option.bind_some,OF m T.cG (by omega),hs T.cG,hcol,Gy,bA g3 (by omega),ih,lj,O2]
  have q1:decide (T.aA<1)= !decide (1≤T.aA):=by rw[←decide_not];exact decide_eq_decide.2 (by omega)
  have q2:decide ((T.aq.length:Int)<T.aA)= !decide (T.aA≤(T.aq.length:Int)):=by rw[←decide_not];exact decide_eq_decide.2 (by omega)
  rw[q1,q2];rcases Bool.eq_false_or_eq_true (wW T.cG) with hv|hv<;>rcases Bool.eq_false_or_eq_true (lD T.cG seen) with h2|h2<;>rcases Bool.eq_false_or_eq_true (decide (1≤T.aA)) with h3|h3<;>rcases Bool.eq_false_or_eq_true (decide (T.aA≤(T.aq.length:Int))) with h4|h4<;>rcases Bool.eq_false_or_eq_true (rB [] T.aq) with h5|h5<;>simp only[hv,h2,h3,h4,h5,Bool.not_true,Bool.not_false,Bool.false_eq_true,if_false,if_true,Bool.true_and,Bool.false_and]
 |_,_,0,_,_,_,hm,_=>by simp at hm
theorem agU (n:Nat) (s:ag) (hl:s.ah.length≤8) (hc:∀T∈s.ah,T.aq.length≤8) (hn:2000<n):F76 n s=some (lj [] s.ah):=
 Lo n s.ah hl hc s.ah 0 n [] [] rfl (by omega) (fun x=>by simp[fL,lD])
theorem KO:∀{cs:List bl} {seen:List ByteArray},rB seen cs=true→fN (cs.map (·.aD))=true
 | [],_,_=>rfl
 |c::cs,seen,h=>by
  simp only[rB,Bool.and_eq_true] at h;simp only[List.map_cons,fN,List.all_cons,Bool.and_eq_true];exact ⟨h.2.2.1,KO h.2.2.2⟩
theorem adu {seen:List ByteArray} {T:au} (hc:T.aq.length≤8) (h:O2 seen T=true):cE T:=by
 simp only[O2,Bool.and_eq_true,decide_eq_true_eq] at h;exact ⟨h.2.2.1,h.2.2.2.1,hc,KO h.2.2.2.2⟩
theorem Hz:∀{ts:List au} {seen:List ByteArray},(∀T∈ts,T.aq.length≤8)→lj seen ts=true→∀T∈ts,cE T
 | [],_,_,_,T,hT=>by simp at hT
 |G::ts,seen,hc,h,T,hT=>by
  simp only[lj,Bool.and_eq_true] at h;rcases List.mem_cons.1 hT with rfl|hT
  ·exact adu (hc _ (by simp)) h.1
  ·exact Hz (fun T hT=>hc T (by simp[hT])) h.2 T hT
def pC (tc:List bl):List bl→List Int→Bool
 |_,[]=>true
 | [],_::_=>false
 |g::gs,c::cs=>match idx tc c with|none=>false|some x=>x.aD==g.aD&&pC tc gs cs
def refB (s:ag) (T:au) (r:aU):Bool:=match idx s.ah r.ax with|none=>false|some G=>((r.aq.length:Int)==G.aA)&&pC T.aq G.aq r.aq
def wP (s:ag) (T:au):List aU→Bool
 | []=>true
 |r::rs=>refB s T r&&wP s T rs
def allRefs (s:ag):List au→Bool
 | []=>true
 |T::ts=>wP s T T.bQ&&allRefs s ts
theorem EM {α:Type} (xs:List α) (i:Int):(i<0∧idx xs i=none)∨(¬i<0∧¬i<(xs.length:Int)∧idx xs i=none)∨(¬i<0∧i<(xs.length:Int)∧∃x,idx xs i=some x):=by
 by_cases h:i<0
 ·exact .inl ⟨h,by unfold idx;rw[if_neg (by omega)]⟩
 ·by_cases h2:i<(xs.length:Int)
  ·refine .inr (.inr ⟨h,h2,xs[i.toNat]'(by omega),?_⟩)
   unfold idx;rw[if_pos (by omega),List.getElem?_eq_getElem (by omega)]
  ·exact .inr (.inl ⟨h,h2,Ol (by omega) h2⟩)
theorem Ln (k:List au→Int→Int→List aU→Int→Int→Int→List au→Int→ag→au→aU→Option Bool) (T G:au) (cs:List Int) (hc:cs.length≤G.aq.length) (hg:G.aq.length≤8) (a1:List au) (a2 a3:Int) (a4:List aU) (a5 a6 a7:Int) (a8:List au) (a9:Int) (s:ag) (r:aU):∀(x:List Int) (i m:Nat),cs.drop i=x→x.length<m→
  xA k m a1 a2 a3 a4 a5 a6 a7 a8 a9 cs (cs.length:Int) (i:Int) s T G r=if pC T.aq (G.aq.drop i) x=true then k a1 a2 a3 a4 a5 a6 a7 a8 a9 s T r else some false
 | [],i,m+1,hd,hm=>by
  have:cs.length≤i:=by simpa using hd
  have hq:¬((i:Int)<(cs.length:Int)):=by omega
  simp only[xA,Gw,hq,decide_false,Bool.false_eq_true,if_false,pC,if_true]
 |c::x,i,m+1,hd,hm=>by
  obtain ⟨g1,g2,g3⟩:=ba hd;have hq:(i:Int)<(cs.length:Int):=by omega
  have hlt:i<G.aq.length:=by omega
  have hgi:G.aq[i]? =some G.aq[i]:=List.getElem?_eq_getElem hlt;have hdr:G.aq.drop i=G.aq[i]::G.aq.drop (i+1):=List.drop_eq_getElem_cons hlt;generalize G.aq[i]=g at hgi hdr;have ih:=Ln k T G cs hc hg a1 a2 a3 a4 a5 a6 a7 a8 a9 s r x (i+1) m g2 (by simp at hm;omega)
  simp only[xA,Gw,hq,decide_true,if_true,aO,g1,hgi,Option.bind_some,bA g3 (by omega),ih]
  rw[hdr];simp only[pC];rcases EM T.aq c with ⟨h1,h2⟩|⟨h1,h3,h2⟩|⟨h1,h3,y,h2⟩
  ·simp only[h1,h2,decide_true,if_true,Bool.false_eq_true,if_false]
  ·simp only[h1,h2,h3,decide_false,Bool.not_false,if_true,Bool.false_eq_true,if_false]
  ·simp only[h1,h2,h3,decide_false,decide_true,Bool.not_true,Bool.false_eq_true,if_false,Option.bind_some];by_cases h4:y.aD=g.aD
   ·simp[h4]
   ·simp[h4]
 |_,_,0,_,hm=>by simp at hm
theorem Lm (k:List au→Int→Int→ag→Option Bool) (s:ag) (hs:∀t G,idx s.ah t=some G→cE G) (T:au) (rs:List aU) (hl:rs.length≤8) (a1:List au) (a2 a3:Int):∀(x:List aU) (i m:Nat),rs.drop i=x→x.length+100<m→
  uz k m a1 a2 a3 rs (rs.length:Int) (i:Int) s T=if wP s T x=true then k a1 a2 a3 s else some false
 | [],i,m+1,hd,hm=>by
  have:rs.length≤i:=by simpa using hd
  have hq:¬((i:Int)<(rs.length:Int)):=by omega
  simp only[uz,Gu,hq,decide_false,Bool.false_eq_true,if_false,wP,if_true]
 |r::x,i,m+1,hd,hm=>by
  obtain ⟨g1,g2,g3⟩:=ba hd;have hq:(i:Int)<(rs.length:Int):=by omega
  simp at hm;have ih:=Lm k s hs T rs hl a1 a2 a3 x (i+1) m g2 (by omega)
  simp only[uz,Gu,hq,decide_true,if_true,aO,g1,Option.bind_some,wP,refB];rcases EM s.ah r.ax with ⟨h1,h2⟩|⟨h1,h3,h2⟩|⟨h1,h3,G,h2⟩
  ·simp only[h1,h2,decide_true,if_true,Bool.false_and,Bool.false_eq_true,if_false]
  ·simp only[h1,h2,h3,decide_false,Bool.not_false,if_true,Bool.false_and,Bool.false_eq_true,if_false]
  ·have hG:=hs _ _ h2;have k2:=hG.cL;have k3:=hG.aG;simp only[h1,h2,h3,decide_false,decide_true,Bool.not_true,Bool.false_eq_true,if_false,Option.bind_some];by_cases h4:(r.aq.length:Int)=G.aA
   ·have e:((r.aq.length:Int) !=G.aA)=false:=by simp[h4]
    have e':((r.aq.length:Int)==G.aA)=true:=by simp[h4]
    have hin:=Ln (Gv (uz k m) m) T G r.aq (by omega) k3 a1 a2 a3 rs (rs.length:Int) (i:Int) r.ax s.ah (s.ah.length:Int) s r r.aq 0 m rfl (by omega)
    rw[show ((0:Nat):Int)=0 from rfl,List.drop_zero] at hin;simp only[e,e',Bool.false_eq_true,if_false,hin,Gv,bA g3 (by omega),ih,Bool.true_and]
    rcases Bool.eq_false_or_eq_true (pC T.aq G.aq r.aq) with hv|hv<;>simp only[hv,if_true,Bool.true_and,Bool.false_and,Bool.false_eq_true,if_false]
   ·have e:((r.aq.length:Int) !=G.aA)=true:=by simpa using h4
    have e':((r.aq.length:Int)==G.aA)=false:=by simpa using h4
    simp only[e,e',if_true,Bool.false_and,Bool.false_eq_true,if_false]
 |_,_,0,_,hm=>by simp at hm
theorem Ll (n0:Nat) (s:ag) (hs:∀t G,idx s.ah t=some G→cE G) (ts:List au) (hl:ts.length≤8) (hr:∀T∈ts,T.bQ.length≤4):∀(x:List au) (i m:Nat),ts.drop i=x→x.length+200<m→
  uy (BW n0) m ts (ts.length:Int) (i:Int) s=some (allRefs s x)
 | [],i,m+1,hd,hm=>by
  have:ts.length≤i:=by simpa using hd
  have hq:¬((i:Int)<(ts.length:Int)):=by omega
  simp only[uy,Gs,BW,hq,decide_false,Bool.false_eq_true,if_false,allRefs]
 |T::x,i,m+1,hd,hm=>by
  obtain ⟨g1,g2,g3⟩:=ba hd;have hq:(i:Int)<(ts.length:Int):=by omega
  simp at hm;have hT:=hr T (List.mem_of_getElem? g1);have ih:=Ll n0 s hs ts hl hr x (i+1) m g2 (by omega)
  have hin:=Lm (Gt (uy (BW n0) m) m) s hs T T.bQ (by omega) ts (ts.length:Int) (i:Int) T.bQ 0 m rfl (by omega)
  rw[show ((0:Nat):Int)=0 from rfl] at hin;simp only[uy,Gs,hq,decide_true,if_true,aO,g1,Option.bind_some,hin,Gt,bA g3 (by omega),ih,allRefs]
  rcases Bool.eq_false_or_eq_true (wP s T T.bQ) with hv|hv<;>simp only[hv,if_true,Bool.true_and,Bool.false_and,Bool.false_eq_true,if_false]
 |_,_,0,_,hm=>by simp at hm
theorem agT (n:Nat) (s:ag) (hs:∀t G,idx s.ah t=some G→cE G) (hl:s.ah.length≤8) (hr:∀T∈s.ah,T.bQ.length≤4) (hn:1000<n):F77 n s=some (allRefs s s.ah):=
 Ll n s hs s.ah hl hr s.ah 0 n rfl (by omega)
def qv (ks:List Int):List ak→Int
 | []=>0
 |p::ps=>if mN ks [] p=0 then qv ks ps else mN ks [] p
def zu:List au→Int
 | []=>0
 |T::ts=>if qv (bc T) T.dk=0 then zu ts else qv (bc T) T.dk
theorem Lt (k:List au→Int→Int→ag→Option Int) (ks:List Int) (hk:ks.length≤8) (s:ag) (ps:List ak) (hl:ps.length≤4) (hp:∀p∈ps,szP p≤1500000) (a1:List au) (a2 a3:Int):∀(x:List ak) (i m:Nat),ps.drop i=x→x.length+1500000<m→m<4294967296→
  xJ k m ks a1 a2 a3 ps (ps.length:Int) (i:Int) s=if qv ks x=0 then k a1 a2 a3 s else some (qv ks x)
 | [],i,m+1,hd,hm,hm'=>by
  have:ps.length≤i:=by simpa using hd
  have hq:¬((i:Int)<(ps.length:Int)):=by omega
  simp only[xJ,GV,hq,decide_false,Bool.false_eq_true,if_false,qv,if_true]
 |p::x,i,m+1,hd,hm,hm'=>by
  obtain ⟨g1,g2,g3⟩:=ba hd;have hq:(i:Int)<(ps.length:Int):=by omega
  simp at hm;have ih:=Lt k ks hk s ps hl hp a1 a2 a3 x (i+1) m g2 (by omega) (by omega)
  have hpp:=hp p (List.mem_of_getElem? g1);simp only[xJ,GV,hq,decide_true,if_true,aO,g1,Option.bind_some,agS m ks [] p (by omega) (by simp;omega) (by omega) (by omega),bA g3 (by omega),ih,qv]
  by_cases h:mN ks [] p=0
  ·simp only[h,bne_self_eq_false,Bool.false_eq_true,if_false,if_true]
  ·have:(mN ks [] p !=0)=true:=by simpa using h
   simp only[h,this,if_true,if_false]
 |_,_,0,_,hm,_=>by simp at hm
def rY (T:au):Bool:=decide (T.aq.length≤8)&&(decide (T.bQ.length≤4)&&decide (T.dk.length≤4))
theorem tL {T:au} (h:rY T=true):T.aq.length≤8∧T.bQ.length≤4∧T.dk.length≤4:=by simpa[rY] using h
def szT (T:au):Prop:=∀p∈T.dk,szP p≤1500000
theorem Ls (n0:Nat) (s:ag) (hl:s.ah.length≤8) (hb:∀T∈s.ah,rY T=true) (hz:∀T∈s.ah,szT T):∀(x:List au) (i m:Nat),s.ah.drop i=x→x.length+1500010<m→m<4294967296→
  uB (B7 n0) m s.ah (s.ah.length:Int) (i:Int) s=some (zu x)
 | [],i,m+1,hd,hm,hm'=>by
  have:s.ah.length≤i:=by simpa using hd
  have hq:¬((i:Int)<(s.ah.length:Int)):=by omega
  simp only[uB,GS,B7,hq,decide_false,Bool.false_eq_true,if_false,zu]
 |T::x,i,m+1,hd,hm,hm'=>by
  obtain ⟨g1,g2,g3⟩:=ba hd;have hq:(i:Int)<(s.ah.length:Int):=by omega
  simp at hm;have iS:=List.mem_of_getElem? g1;obtain ⟨b1,b2,b3⟩:=tL (hb T iS);have hT:idx s.ah (i:Int)=some T:=by rw[aO];exact g1
  have hkl:=dg T;have ih:=Ls n0 s hl hb hz x (i+1) m g2 (by omega) (by omega)
  have hin:=Lt (GU (uB (B7 n0) m) m) (bc T) (by omega) s T.dk b3 (hz T iS) s.ah (s.ah.length:Int) (i:Int) T.dk 0 m rfl (by omega) (by omega)
  rw[show ((0:Nat):Int)=0 from rfl] at hin;simp only[uB,GS,hq,decide_true,if_true,hT,Option.bind_some,LH hT (by omega) (by omega:1000<m),hin,GU,bA g3 (by omega),ih,zu]
  by_cases h:qv (bc T) T.dk=0
  ·simp only[h,if_true]
  ·simp only[h,if_false]
 |_,_,0,_,hm,_=>by simp at hm
theorem Lu (k:ag→Option Int) (s:ag) (ts:List au) (hl:ts.length≤8):∀(x:List au) (i m:Nat),ts.drop i=x→x.length<m→xK k m ts (ts.length:Int) (i:Int) s=if x.all rY=true then k s else some 2
 | [],i,m+1,hd,hm=>by
  have:ts.length≤i:=by simpa using hd
  have hq:¬((i:Int)<(ts.length:Int)):=by omega
  simp only[xK,GW,hq,decide_false,Bool.false_eq_true,if_false,List.all_nil,if_true]
 |T::x,i,m+1,hd,hm=>by
  obtain ⟨g1,g2,g3⟩:=ba hd;have hq:(i:Int)<(ts.length:Int):=by omega
  have ih:=Lu k s ts hl x (i+1) m g2 (by simp at hm;omega)
  simp only[xK,GW,hq,decide_true,if_true,aO,g1,Option.bind_some,bA g3 (by omega),ih,List.all_cons,rY]
  by_cases h1:T.aq.length≤8
  ·have e1:¬(8:Int)<(T.aq.length:Int):=by omega
   by_cases h2:T.bQ.length≤4
   ·have e2:¬(4:Int)<(T.bQ.length:Int):=by omega
    by_cases h3:T.dk.length≤4
    ·have e3:¬(4:Int)<(T.dk.length:Int):=by omega
     simp only[h1,h2,h3,e1,e2,e3,decide_true,decide_false,Bool.false_eq_true,if_false,Bool.and_self,Bool.true_and]
    ·have e3:(4:Int)<(T.dk.length:Int):=by omega
     simp only[h1,h2,h3,e1,e2,e3,decide_true,decide_false,Bool.false_eq_true,if_false,if_true,Bool.and_false,Bool.false_and]
   ·have e2:(4:Int)<(T.bQ.length:Int):=by omega
    simp only[h1,h2,e1,e2,decide_true,decide_false,Bool.false_eq_true,if_false,if_true,Bool.and_false,Bool.false_and]
  ·have e1:(8:Int)<(T.aq.length:Int):=by omega
   simp only[h1,e1,decide_true,decide_false,Bool.false_eq_true,if_false,if_true,Bool.false_and]
 |_,_,0,_,hm=>by simp at hm
def C7 (s:ag):Int:=
 if 8<s.ah.length then 2
 else if s.ah.all rY=true then
  (if s.bM<0 then 70 else if 1000<s.bM then 70
   else if lj [] s.ah=true then (if allRefs s s.ah=true then zu s.ah else 70) else 70)
 else 2
theorem Nf {s:ag} (hb:∀T∈s.ah,rY T=true) (h:lj [] s.ah=true):∀t G,idx s.ah t=some G→cE G:=fun t G hG=>
 Hz (fun T hT=>(tL (hb T hT)).1) h G (List.mem_of_getElem? (nT hG).2.2)
theorem Ye {s:ag} (h:C7 s=0):SOK s:=by
 unfold C7 at h;split at h
 ·cases h
 ·rename_i h8;split at h
  ·rename_i hb;rw[List.all_eq_true] at hb;split at h
   ·cases h
   ·split at h
    ·cases h
    ·split at h
     ·rename_i ht;exact ⟨by omega,Nf hb ht⟩
     ·cases h
  ·cases h
theorem ahd (n:Nat) (s:ag) (hz:∀T∈s.ah,szT T) (hn:1600000<n) (hn':n<4294967296):F38 n s=some (C7 s):=by
 unfold F38 SP C7;by_cases h8:8<s.ah.length
 ·have:(8:Int)<(s.ah.length:Int):=by omega
  simp only[h8,this,decide_true,if_true]
 ·have h8':¬(8:Int)<(s.ah.length:Int):=by omega
  have h0:=Lu (GR n) s s.ah (by omega) s.ah 0 n rfl (by omega)
  rw[show ((0:Nat):Int)=0 from rfl] at h0;simp only[h8,h8',decide_false,Bool.false_eq_true,if_false,h0];by_cases hb:s.ah.all rY=true
  ·simp only[hb,if_true,GR];have hb':=List.all_eq_true.1 hb;by_cases v1:s.bM<0
   ·simp only[v1,decide_true,if_true]
   ·by_cases v2:1000<s.bM
    ·simp only[v1,v2,decide_true,decide_false,Bool.false_eq_true,if_false,if_true]
    ·simp only[v1,v2,decide_false,Bool.false_eq_true,if_false,agU n s (by omega) (fun T hT=>(tL (hb' T hT)).1) (by omega),Option.bind_some]
     by_cases ht:lj [] s.ah=true
     ·simp only[ht,Bool.not_true,Bool.false_eq_true,if_false,if_true,agT n s (Nf hb' ht) (by omega) (fun T hT=>(tL (hb' T hT)).2.1) (by omega),Option.bind_some]
      by_cases hr:allRefs s s.ah=true
      ·have h3:=Ls n s (by omega) hb' hz s.ah 0 n rfl (by omega) hn'
       rw[show ((0:Nat):Int)=0 from rfl] at h3;simp only[hr,Bool.not_true,Bool.false_eq_true,if_false,if_true,h3]
      ·simp only[hr,Bool.not_eq_true] at hr ⊢;simp[hr]
     ·have ht':lj [] s.ah=false:=by simpa using ht
      simp[ht']
  ·simp only[hb,if_false,Bool.false_eq_true]
theorem rD:∀{a b c:List UInt8},Op.bytesLess a b=true→Op.bytesLess b c=true→Op.bytesLess a c=true
 |_,[],_,h,_=>by cases ‹List UInt8› <;>simp[Op.bytesLess] at h
 |_,_::_,[],_,h=>by simp[Op.bytesLess] at h
 | [],_::_,_::_,_,_=>by simp[Op.bytesLess]
 |x::a,y::b,z::c,h1,h2=>by
  rw[Ea] at h1 h2 ⊢;simp only[Bool.or_eq_true,decide_eq_true_eq,Bool.and_eq_true,beq_iff_eq] at h1 h2 ⊢;rcases h1 with h1|⟨rfl,h1⟩<;>rcases h2 with h2|⟨rfl,h2⟩
  ·exact .inl (UInt8.lt_trans h1 h2)
  ·exact .inl h1
  ·exact .inl h2
  ·exact .inr ⟨rfl,rD h1 h2⟩
theorem My {a b:ae}:fY a b= -1↔a.aD<b.aD∨(a.aD=b.aD∧(a.bJ<b.bJ∨(a.bJ=b.bJ∧Op.bytesLess a.bt.toList b.bt.toList=true))):=by
 unfold fY;split
 ·rename_i h;simp[h]
 ·split
  ·rename_i h1 h;constructor
   ·intro h;omega
   ·intro h;omega
  ·have e:a.aD=b.aD:=by omega
   split
   ·rename_i h;simp[e,h]
   ·split
    ·constructor
     ·intro h;omega
     ·intro h;omega
    ·have e2:a.bJ=b.bJ:=by omega
     split
     ·rename_i h;simp[e,e2,h]
     ·rename_i h;split
      ·constructor
       ·intro h;omega
       ·rintro (h'|⟨_,h'|⟨_,h'⟩⟩)
        ·omega
        ·omega
        ·exact absurd h' h
      ·constructor
       ·intro h;omega
       ·rintro (h'|⟨_,h'|⟨_,h'⟩⟩)
        ·omega
        ·omega
        ·exact absurd h' h
theorem OV {a b c:ae} (h1:fY a b= -1) (h2:fY b c= -1):fY a c= -1:=by
 rw[My] at*;rcases h1 with h1|⟨e1,h1⟩<;>rcases h2 with h2|⟨e2,h2⟩
 ·left;omega
 ·left;omega
 ·left;omega
 ·right;refine ⟨by omega,?_⟩
  rcases h1 with h1|⟨e3,h1⟩<;>rcases h2 with h2|⟨e4,h2⟩
  ·left;omega
  ·left;omega
  ·left;omega
  ·exact .inr ⟨by omega,rD h1 h2⟩
theorem Cy {a b:ae} (h:fY a b=0):a=b:=by
 unfold fY at h;split at h
 ·cases h
 ·split at h
  ·cases h
  ·split at h
   ·cases h
   ·split at h
    ·cases h
    ·split at h
     ·cases h
     ·split at h
      ·rename_i h5;obtain ⟨x,y,z⟩:=a;obtain ⟨x',y',z'⟩:=b;simp only at*;rw[show x=x' by omega,show y=y' by omega,h5]
      ·cases h
theorem kF:∀{x y:List ae},bT x y=0→x=y
 | [],[],_=>rfl
 | [],_::_,h=>by simp[bT] at h
 |_::_,[],h=>by simp[bT] at h
 |a::x,b::y,h=>by
  simp only[bT] at h;split at h
  ·rename_i h0;rw[Cy h0,kF h]
  ·exact absurd h (by assumption)
theorem rV {x y:List ae}:bT x y=0↔x=y:=⟨kF,fun h=>h ▸ ga x⟩
theorem Ah:∀{x y z:List ae},bT x y= -1→bT y z= -1→bT x z= -1
 | [],[],_,h,_=>by simp[bT] at h
 | [],_::_,[],_,h=>by simp[bT] at h
 | [],_::_,_::_,_,_=>by simp[bT]
 |_::_,[],_,h,_=>by simp[bT] at h
 |_::_,_::_,[],_,h=>by simp[bT] at h
 |a::x,b::y,c::z,h1,h2=>by
  simp only[bT] at h1 h2 ⊢;split at h1
  ·rename_i e1;have e1:=Cy e1;subst e1;split at h2
   ·rename_i e2;rw[if_pos e2];exact Ah h1 h2
   ·rename_i e2;rw[if_neg e2];exact h2
  ·split at h2
   ·rename_i e2;have e2:=Cy e2;subst e2;rw[if_neg (by omega)];exact h1
   ·have:=OV h1 h2;rw[if_neg (by omega)];exact this
abbrev kOf (T:au) (r:List ae):List ae:=r.take T.aA.toNat
def lt (a b:List ae):Prop:=bT a b= -1
instance (a b:List ae):Decidable (lt a b):=inferInstanceAs (Decidable (_=_))
theorem lt_irrefl (a:List ae):¬lt a a:=fun h=>by have:=ga a;unfold lt at h;omega
theorem lt_trans {a b c:List ae} (h1:lt a b) (h2:lt b c):lt a c:=Ah h1 h2
theorem lt_asymm {a b:List ae} (h:lt a b):¬lt b a:=fun h'=>lt_irrefl a (lt_trans h h')
theorem JI (a b:List ae):lt a b∨a=b∨lt b a:=by
 rcases oG a b with h|h|h
 ·exact .inl h
 ·exact .inr (.inl (kF h))
 ·exact .inr (.inr (by show bT b a= -1;rw[tC a b,h]))
theorem jf {a b:List ae}:bT a b<0↔lt a b:=by
 unfold lt;rcases oG a b with h|h|h<;>omega
def Ord (T:au) (rows:List (List ae)):Prop:=rows.Pairwise fun a b=>lt (kOf T a) (kOf T b)
def jg (T:au) (k:List ae) (N rows:List (List ae)):List (List ae):=rows.filter (fun r=>decide (lt (kOf T r) k))++N++rows.filter (fun r=>decide (lt k (kOf T r)))
theorem pN {T:au} {k:List ae} {N rows:List (List ae)} {r:List ae}:r∈jg T k N rows↔(r∈rows∧kOf T r≠k)∨r∈N:=by
 unfold jg;simp only[List.mem_append,List.mem_filter,decide_eq_true_eq];constructor
 ·rintro ((⟨h1,h2⟩|h)|⟨h1,h2⟩)
  ·exact .inl ⟨h1,fun e=>lt_irrefl _ (e ▸ h2)⟩
  ·exact .inr h
  ·exact .inl ⟨h1,fun e=>lt_irrefl _ (e ▸ h2)⟩
 ·rintro (⟨h1,h2⟩|h)
  ·rcases JI (kOf T r) k with h|h|h
   ·exact .inl (.inl ⟨h1,h⟩)
   ·exact absurd h h2
   ·exact .inr ⟨h1,h⟩
  ·exact .inl (.inr h)
theorem Jc {T:au} {k:List ae} {N rows:List (List ae)} (h:Ord T rows) (hN:N= []∨∃r,N= [r]∧kOf T r=k):Ord T (jg T k N rows):=by
 unfold Ord jg at*;have hN1:∀r∈N,kOf T r=k:=by
  rcases hN with rfl|⟨r,rfl,e⟩
  ·simp
  ·simpa using e
 rw[List.pairwise_append,List.pairwise_append];refine ⟨⟨h.filter _,?_,fun a ha b hb=> ?_⟩,h.filter _,fun a ha b hb=> ?_⟩
 ·rcases hN with rfl|⟨r,rfl,e⟩<;>simp
 ·rw[hN1 b hb];simpa using (List.mem_filter.1 ha).2
 ·have hb:lt k (kOf T b):=by simpa using (List.mem_filter.1 hb).2
  rcases List.mem_append.1 ha with ha|ha
  ·exact lt_trans (by simpa using (List.mem_filter.1 ha).2) hb
  ·rw[hN1 a ha];exact hb
theorem filter_all {α:Type} {p:α→Bool} {l:List α} (h:∀x∈l,p x=true):l.filter p=l:=List.filter_eq_self.2 h
theorem filter_none {α:Type} {p:α→Bool} {l:List α} (h:∀x∈l,p x=false):l.filter p= []:=List.filter_eq_nil_iff.2 fun x hx=>by rw[h x hx];simp
theorem Yn {T:au} {k:List ae} {N A B:List (List ae)} (hA:∀r∈A,lt (kOf T r) k) (hB:∀r∈B,lt k (kOf T r)):jg T k N (A++B)=A++N++B:=by
 unfold jg;rw[List.filter_append,List.filter_append,filter_all (fun x hx=>by simpa using hA x hx),filter_none (fun x hx=>by simpa using lt_asymm (hB x hx)),filter_none (l:=A) (fun x hx=>by simpa using lt_asymm (hA x hx)),filter_all (l:=B) (fun x hx=>by simpa using hB x hx)]
 simp
theorem U9 {T:au} {k q:List ae} {N A B:List (List ae)} (hA:∀r∈A,lt (kOf T r) k) (hq:kOf T q=k) (hB:∀r∈B,lt k (kOf T r)):jg T k N (A++q::B)=A++N++B:=by
 unfold jg;have h1:decide (lt (kOf T q) k)=false:=by rw[hq];simpa using lt_irrefl k
 have h2:decide (lt k (kOf T q))=false:=by rw[hq];simpa using lt_irrefl k
 rw[List.filter_append,List.filter_append,List.filter_cons,List.filter_cons,h1,h2,filter_all (fun x hx=>by simpa using hA x hx),filter_none (fun x hx=>by simpa using lt_asymm (hB x hx)),filter_none (l:=A) (fun x hx=>by simpa using lt_asymm (hA x hx)),filter_all (l:=B) (fun x hx=>by simpa using hB x hx)]
 simp
def eD (id : Int) (r1 r2 r3 : List aU) (ch : List ak) : List au :=
  [⟨ByteArray.mk #[112, 114, 111, 106, 101, 99, 116, 115], [⟨ByteArray.mk #[105, 100], 4⟩, ⟨ByteArray.mk #[111, 119, 110, 101, 114], 4⟩], 1, [], []⟩,
   ⟨ByteArray.mk #[116, 97, 115, 107, 115], [⟨ByteArray.mk #[105, 100], id⟩, ⟨ByteArray.mk #[112, 114, 111, 106, 101, 99, 116], 4⟩, ⟨ByteArray.mk #[116, 105, 116, 108, 101], 5⟩, ⟨ByteArray.mk #[100, 111, 110, 101], 3⟩], 1, r1, ch⟩,
   ⟨ByteArray.mk #[109, 101, 109, 98, 101, 114, 115], [⟨ByteArray.mk #[112, 114, 111, 106, 101, 99, 116], 4⟩, ⟨ByteArray.mk #[112, 101, 114, 115, 111, 110], 4⟩], 2, r2, []⟩,
   ⟨ByteArray.mk #[97, 114, 99, 104, 105, 118, 101, 100], [⟨ByteArray.mk #[116, 97, 115, 107], id⟩], 1, r3, []⟩]
structure LF (v id:Int) (k:Nat) (r1 r2 r3:List aU) (ch:List ak):Prop where
 v0:0≤v
 v1:v≤2
 hid:id=4∨id=5
 hk:k=2∨k=3∨k=4
 h1:r1= []∨r1= [⟨[1],0⟩]
 h2:r2= []∨r2= [⟨[0],0⟩]
 h3:r3= []∨r3= [⟨[0],1⟩]
 hc:ch.length≤1∧qv [id,4,5,3] ch=0∧∀p∈ch,szP p≤119
def nh (s:ag):Prop:=∃v id k r1 r2 r3 ch,LF v id k r1 r2 r3 ch∧s=⟨v,(eD id r1 r2 r3 ch).take k⟩
theorem nh.chk {s:ag} (h:nh s):C7 s=0:=by
 obtain ⟨v,id,k,r1,r2,r3,ch,⟨v0,v1,hid,hk,h1,h2,h3,hc0,hc,_⟩,rfl⟩:=h;have e1:¬8<((eD id r1 r2 r3 ch).take k).length:=by rw[List.length_take];simp[eD];omega
 have e2:((eD id r1 r2 r3 ch).take k).all rY=true:=by
  have hr1:r1.length≤4:=by rcases h1 with rfl|rfl<;>simp
  have hr2:r2.length≤4:=by rcases h2 with rfl|rfl<;>simp
  have hr3:r3.length≤4:=by rcases h3 with rfl|rfl<;>simp
  have hch:ch.length≤4:=by omega
  rcases hk with rfl|rfl|rfl<;>simp[eD,rY,hr1,hr2,hr3,hch]
 have e3:lj [] ((eD id r1 r2 r3 ch).take k)=true:=by
  rcases hid with rfl|rfl<;>rcases hk with rfl|rfl|rfl<;>kernel_rfl
 have e4:allRefs ⟨v,(eD id r1 r2 r3 ch).take k⟩ ((eD id r1 r2 r3 ch).take k)=true:=by
  rcases hid with rfl|rfl<;>rcases hk with rfl|rfl|rfl<;>rcases h1 with rfl|rfl<;>rcases h2 with rfl|rfl<;>rcases h3 with rfl|rfl<;>kernel_rfl
 have e5:zu ((eD id r1 r2 r3 ch).take k)=0:=by
  rcases hk with rfl|rfl|rfl<;>simp[eD,zu,qv,bc,hc]
 unfold C7;simp only[e1,e2,e3,e4,e5,if_false,if_true,show ¬v<0 by omega,show ¬1000<v by omega]
theorem nh.ok {s:ag} (h:nh s):SOK s:=Ye h.chk
theorem nh.sz {s:ag} (h:nh s):∀T∈s.ah,szT T:=by
 obtain ⟨v,id,k,r1,r2,r3,ch,⟨_,_,_,_,_,_,_,_,_,hz⟩,rfl⟩:=h;intro T hT p hp;have hT:=List.mem_of_mem_take hT;simp only[eD,List.mem_cons,List.not_mem_nil,or_false] at hT;rcases hT with rfl|rfl|rfl|rfl
 ·simp at hp
 ·have:=hz p hp;omega
 ·simp at hp
 ·simp at hp
theorem nh.pos {s:ag} (h:nh s):2≤s.ah.length:=by
 obtain ⟨v,id,k,r1,r2,r3,ch,⟨_,_,_,hk,_⟩,rfl⟩:=h;rw[List.length_take];simp[eD];omega
theorem Eo (n:Nat) (hn:2000≤n) (hn':n<4294967296) (c:an) (hc:bh c) (z:ag) (v id:Int) (k:Nat) (r1 r2 r3:List aU) (h:LF v id k r1 r2 r3 []) (ts:List au) (hts:ts=(eD id r1 r2 r3 []).take k) (b5:ag) (hb5:b5.bM=v):
  Ok (zD n c z b5 ts) fun r=>bh r.2∧nh r.1:=by
 unfold zD;refine Ok.bind (kB n c 3 hc) fun b hb=> ?_
 refine Ok.ite (fun _=> ?_) fun _=>Ok.pure ⟨hb,v,id,k,r1,r2,r3,[],h,by rw[hb5,hts]⟩
 have hT:idx (ag.mk b5.bM ts).ah 1=some ⟨ByteArray.mk #[116,97,115,107,115],[⟨ByteArray.mk #[105,100],id⟩,⟨ByteArray.mk #[112,114,111,106,101,99,116],4⟩,⟨ByteArray.mk #[116,105,116,108,101],5⟩,⟨ByteArray.mk #[100,111,110,101],3⟩],1,r1,[]⟩:=by
  rw[hts];rcases h.hk with rfl|rfl|rfl<;>rfl
 rw[LL hT (by simp) (by omega),Option.bind_some]
 have hks:fN [id,4,5,3]=true:=by rcases h.hid with rfl|rfl<;>rfl
 refine Ok.bind (ahh [id,4,5,3] [] hks rfl (by simp) (by simp) 1 n b.2 hb (by omega) hn' (by omega) (by omega)) fun p ⟨hp,p0,pz⟩=> ?_
 have e1:bnd ts.length 1=some 1:=by rw[hts];rcases h.hk with rfl|rfl|rfl<;>rfl
 have e2:ts[0+1]? =some ⟨ByteArray.mk #[116,97,115,107,115],[⟨ByteArray.mk #[105,100],id⟩,⟨ByteArray.mk #[112,114,111,106,101,99,116],4⟩,⟨ByteArray.mk #[116,105,116,108,101],5⟩,⟨ByteArray.mk #[100,111,110,101],3⟩],1,r1,[]⟩:=by
  rw[hts];rcases h.hk with rfl|rfl|rfl<;>rfl
 rw[e1,Option.bind_some,e2,Option.bind_some];have e3:setAt ts (0+1) ⟨ByteArray.mk #[116,97,115,107,115],[⟨ByteArray.mk #[105,100],id⟩,⟨ByteArray.mk #[112,114,111,106,101,99,116],4⟩,⟨ByteArray.mk #[116,105,116,108,101],5⟩,⟨ByteArray.mk #[100,111,110,101],3⟩],1,r1,[p.1]⟩=some ((eD id r1 r2 r3 [p.1]).take k):=by
  rw[hts];rcases h.hk with rfl|rfl|rfl<;>rfl
 rw[e3,Option.bind_some];exact Ok.pure ⟨hp,v,id,k,r1,r2,r3,[p.1],⟨h.v0,h.v1,h.hid,h.hk,h.h1,h.h2,h.h3,by simp,by simp[qv,p0],by simpa using pz⟩,by rw[hb5]⟩
theorem xX (n:Nat) (hn:2000≤n) (hn':n<4294967296) (c:an) (hc:bh c) (z:ag) (v id:Int) (k:Nat) (r1 r2:List aU) (h:LF v id k r1 r2 [] []) (ts:List au) (hts:ts=(eD id r1 r2 [] []).take k) (b5:ag) (hb5:b5.bM=v):
  Ok (wA n (k:Int) c z b5 ts) fun r=>bh r.2∧nh r.1:=by
 unfold wA;refine Ok.ite (fun hk=> ?_) fun _=>Eo n hn hn' c hc _ v id k r1 r2 [] h ts hts _ hb5
 have hk:k=4:=by have:=h.hk;simp at hk;omega
 subst hk;refine Ok.bind (kB n c 3 hc) fun b hb=> ?_
 refine Ok.ite (fun _=> ?_) fun _=>Eo n hn hn' b.2 hb _ v id 4 r1 r2 [] h ts hts _ hb5
 subst hts;show Ok (zD n b.2 ⟨0,[]⟩ ⟨b5.bM,(eD id r1 r2 [⟨[0],1⟩] []).take 4⟩ ((eD id r1 r2 [⟨[0],1⟩] []).take 4)) _;exact Eo n hn hn' b.2 hb _ v id 4 r1 r2 [⟨[0],1⟩] {h with h3:=.inr rfl} _ rfl _ hb5
theorem ON (n:Nat) (hn:2000≤n) (hn':n<4294967296) (c:an) (hc:bh c) (z:ag) (v id:Int) (k:Nat) (r1:List aU) (h:LF v id k r1 [] [] []) (ts:List au) (hts:ts=(eD id r1 [] [] []).take k) (b5:ag) (hb5:b5.bM=v):
  Ok (zC n (k:Int) c z b5 ts) fun r=>bh r.2∧nh r.1:=by
 unfold zC;refine Ok.ite (fun hk=> ?_) fun _=>xX n hn hn' c hc _ v id k r1 [] h ts hts _ hb5
 refine Ok.bind (kB n c 3 hc) fun b hb=> ?_
 refine Ok.ite (fun _=> ?_) fun _=>xX n hn hn' b.2 hb _ v id k r1 [] h ts hts _ hb5
 subst hts;have hk:k=3∨k=4:=by have:=h.hk;simp at hk;omega
 rcases hk with rfl|rfl
 ·show Ok (wA n (3:Nat) b.2 ⟨0,[]⟩ ⟨b5.bM,(eD id r1 [⟨[0],0⟩] [] []).take 3⟩ ((eD id r1 [⟨[0],0⟩] [] []).take 3)) _;exact xX n hn hn' b.2 hb _ v id 3 r1 [⟨[0],0⟩] {h with h2:=.inr rfl} _ rfl _ hb5
 ·show Ok (wA n (4:Nat) b.2 ⟨0,[]⟩ ⟨b5.bM,(eD id r1 [⟨[0],0⟩] [] []).take 4⟩ ((eD id r1 [⟨[0],0⟩] [] []).take 4)) _;exact xX n hn hn' b.2 hb _ v id 4 r1 [⟨[0],0⟩] {h with h2:=.inr rfl} _ rfl _ hb5
theorem OM (n:Nat) (hn:2000≤n) (hn':n<4294967296) (c:an) (hc:bh c) (z:ag) (id:Int) (hid:id=4∨id=5) (k:Nat) (hk:k=2∨k=3∨k=4):
  Ok (LZ n (k:Int) id c z) fun r=>bh r.2∧nh r.1:=by
 unfold LZ;refine Ok.bind (gk n c 3 hc) fun v ⟨hv,v0,v1,_⟩=> ?_
 have v1:=v1 (by omega)
 simp only[F30,SY,Option.bind_some];have h:∀r1,(r1= []∨r1= [⟨[1],0⟩])→LF v.1 id k r1 [] [] []:=fun r1 h1=>⟨v0,by omega,hid,hk,h1,.inl rfl,.inl rfl,by simp,rfl,by simp⟩
 have e0:iA 4 (k:Int)=some k:=by unfold iA;rw[if_pos (by omega)];rfl
 rw[e0,Option.bind_some];refine Ok.bind (kB n v.2 2 hv) fun b hb=> ?_
 refine Ok.ite (fun _=> ?_) fun _=> ?_
 rotate_left
 ·show Ok (zC n (k:Int) b.2 ⟨0,[]⟩ ⟨v.1,(eD id [] [] [] []).take k⟩ ((eD id [] [] [] []).take k)) _;exact ON n hn hn' b.2 hb _ v.1 id k [] (h [] (.inl rfl)) _ rfl _ rfl
 have e1:bnd k 1=some 1:=by rcases hk with rfl|rfl|rfl<;>rfl
 rw[e1,Option.bind_some];show Ok (zC n (k:Int) b.2 ⟨0,[]⟩ ⟨v.1,(eD id [⟨[1],0⟩] [] [] []).take k⟩ ((eD id [⟨[1],0⟩] [] [] []).take k)) _;exact ON n hn hn' b.2 hb _ v.1 id k [⟨[1],0⟩] (h _ (.inr rfl)) _ rfl _ rfl
theorem akR (n:Nat) (hn:2000≤n) (hn':n<4294967296) (c:an) (hc:bh c):Ok (F9 n c) fun r=>bh r.2∧nh r.1:=by
 unfold F9 aag;refine Ok.bind (gk n c 3 hc) fun v ⟨hv,v0,v1,_⟩=> ?_
 have v1:=v1 (by omega)
 have e:w64 (2+v.1)=((2+v.1.toNat:Nat):Int):=by rw[bY (by omega) (by omega)];omega
 rw[e];refine Ok.bind (kB n v.2 5 hv) fun b hb=> ?_
 exact Ok.ite (fun _=>OM n hn hn' b.2 hb _ 5 (.inr rfl) _ (by omega)) fun _=>OM n hn hn' b.2 hb _ 4 (.inl rfl) _ (by omega)
theorem Ord.aih {T:au} {out x:List (List ae)} {r:List ae} (h:Ord T (out++r::x)):Ord T (out++x):=List.Pairwise.sublist ((List.sublist_cons_self r x).append_left out) h
theorem Ord.row {T:au} {out x:List (List ae)} {r row:List ae} (h:Ord T (out++r::x)) (h1:∀y∈out,lt (kOf T y) (kOf T row)) (h2:¬lt (kOf T r) (kOf T row)):Ord T (out++row::x)∧(kOf T r≠kOf T row→Ord T (out++row::r::x)):=by
 unfold Ord at*;obtain ⟨a,b,c⟩:=List.pairwise_append.1 h;obtain ⟨b1,b2⟩:=List.pairwise_cons.1 b;have key:kOf T row=kOf T r∨lt (kOf T row) (kOf T r):=by
  rcases JI (kOf T r) (kOf T row) with h|h|h
  ·exact absurd h h2
  ·exact .inl h.symm
  ·exact .inr h
 have k2:∀y∈x,lt (kOf T row) (kOf T y):=fun y hy=>by
  rcases key with e|h
  ·rw[e];exact b1 y hy
  ·exact lt_trans h (b1 y hy)
 have k1:∀u∈out,∀v∈x,lt (kOf T u) (kOf T v):=fun u hu v hv=>c u hu v (by simp[hv])
 refine ⟨List.pairwise_append.2 ⟨a,List.pairwise_cons.2 ⟨k2,b2⟩,fun u hu v hv=> ?_⟩,fun hne=>List.pairwise_append.2 ⟨a,List.pairwise_cons.2 ⟨fun v hv=> ?_,b⟩,fun u hu v hv=> ?_⟩⟩
 ·rcases List.mem_cons.1 hv with rfl|hv
  ·exact h1 u hu
  ·exact k1 u hu v hv
 ·rcases List.mem_cons.1 hv with rfl|hv
  ·exact key.resolve_left fun e=>hne e.symm
  ·exact k2 v hv
 ·rcases List.mem_cons.1 hv with rfl|hv
  ·exact h1 u hu
  ·exact c u hu v hv
theorem Lv (n0:Nat) (s:ag) (t:Nat) (T:au) (hT:s.ah[t]? =some T) (ht:cE T) (row:List ae) (eA:row.length≤100) (rows:List (List ae)) (hr:∀r∈rows,r.length=T.aq.length) (hrs:rows.length≤100) (ts:List (List (List ae))) (hts:t<ts.length):∀(x:List (List ae)) (i m:Nat) (done:Bool) (out:List (List ae)) (z1 z2:aj),rows.drop i=x→x.length+100<m→out.length+2*x.length≤1000→Ord T (out++x)→(done=false→∀y∈out,lt (kOf T y) (kOf T row))→
  Ok (rM (yb n0) m (t:Int) (kOf T row) row done rows (rows.length:Int) (i:Int) ts s z1 z2 out) fun r=>∃rows',r=(⟨ts.set t rows'⟩,ts.set t rows')∧rows'.length≤out.length+x.length+(if done=true then 0 else 1)∧(∀y∈rows',y∈out∨y∈x∨y=row)∧Ord T rows'
 | [],i,m+1,done,out,z1,z2,hd,hm,ho,hO,hD=>by
  have hq':rows.length≤i:=by simpa using hd
  have hq:¬((i:Int)<(rows.length:Int)):=by omega
  have e1:bnd ts.length (t:Int)=some t:=by unfold bnd;rw[if_pos (by omega)];rfl
  have e2:ts[0+t]? =some ts[t]:=by rw[Nat.zero_add];exact List.getElem?_eq_getElem hts
  have e3:∀o,setAt ts (0+t) o=some (ts.set t o):=fun o=>by rw[Nat.zero_add];unfold setAt;rw[if_pos hts]
  rw[List.append_nil] at hO;simp only[rM,GY,yb,GX,hq,decide_false,Bool.false_eq_true,if_false,e1,e2,e3,Option.bind_some,BR row (by omega)]
  refine Ok.ite (fun hdn=> ?_) fun hdn=> ?_
  ·rw[dy _ _ (by simp at ho ⊢;omega),Option.bind_some]
   refine Ok.pure ⟨_,rfl,by simp at hdn;simp[hdn],fun y hy=> ?_,?_⟩
   ·rcases List.mem_append.1 hy with h|h
    ·exact .inl h
    ·exact .inr (.inr (by simpa using h))
   ·unfold Ord;refine List.pairwise_append.2 ⟨hO,List.pairwise_singleton _ _,fun u hu v hv=> ?_⟩
    rw[List.mem_singleton.1 hv];exact hD (by simpa using hdn) u hu
  ·exact Ok.pure ⟨_,rfl,by omega,fun y hy=>.inl hy,hO⟩
 |r::x,i,m+1,done,out,z1,z2,hd,hm,ho,hO,hD=>by
  obtain ⟨g1,g2,g3⟩:=ba hd;have hq:(i:Int)<(rows.length:Int):=by omega
  have hrl:=hr r (List.mem_of_getElem? g1);have hcl:=ht.aG;have hk2:=ht.cL;simp at hm ho;have hTi:idx s.ah (t:Int)=some T:=by rw[aO];exact hT
  have step:∀(dn:Bool) (c:Int) (vq:List (List ae)),vq.length≤out.length+1→(∀y∈vq,y∈out∨y=row)→(c≠0→Ord T (vq++r::x))→(c=0→Ord T (vq++x))→(dn=false→(∀y∈vq,lt (kOf T y) (kOf T row))∧(c≠0→lt (kOf T r) (kOf T row)))→Ok (uI (rM (yb n0) m) m (t:Int) (kOf T row) row dn r c rows (rows.length:Int) (i:Int) ts s ⟨ts⟩ ⟨[]⟩ vq) fun q=>∃rows',q=(⟨ts.set t rows'⟩,ts.set t rows')∧rows'.length≤vq.length+1+x.length+(if dn=true then 0 else 1)∧(∀y∈rows',y∈out∨y∈r::x∨y=row)∧Ord T rows':=by
   intro dn c vq h1 h2 h3 h4 h5;unfold uI;rw[bA g3 (by omega)]
   refine Ok.ite (fun hc=> ?_) fun hc=> ?_
   ·have hc:c≠0:=by simpa using hc
    rw[dy _ _ (by simp;omega),Option.bind_some]
    refine (Lv n0 s t T hT ht row eA rows hr hrs ts hts x (i+1) m dn _ _ _ g2 (by omega) (by simp;omega) (by simpa using h3 hc) (fun hd y hy=> ?_)).mono fun q ⟨rows',q1,q2,q3,q4⟩=>⟨rows',q1,by simp at q2;omega,fun y hy=> ?_,q4⟩
    ·rcases List.mem_append.1 hy with h|h
     ·exact (h5 hd).1 y h
     ·rw[List.mem_singleton.1 h];exact (h5 hd).2 hc
    ·rcases q3 y hy with h|h|h
     ·rcases List.mem_append.1 h with h|h
      ·exact (h2 y h).imp id .inr
      ·exact .inr (.inl (by simp at h;simp[h]))
     ·exact .inr (.inl (by simp[h]))
     ·exact .inr (.inr h)
   ·have hc:c=0:=by simpa using hc
    refine (Lv n0 s t T hT ht row eA rows hr hrs ts hts x (i+1) m dn _ _ _ g2 (by omega) (by omega) (h4 hc) (fun hd=>(h5 hd).1)).mono fun q ⟨rows',q1,q2,q3,q4⟩=>⟨rows',q1,by omega,fun y hy=> ?_,q4⟩
    rcases q3 y hy with h|h|h
    ·exact (h2 y h).imp id .inr
    ·exact .inr (.inl (by simp[h]))
    ·exact .inr (.inr h)
  have same:∀c,(done=false→c≠0→lt (kOf T r) (kOf T row))→Ok (uI (rM (yb n0) m) m (t:Int) (kOf T row) row done r c rows (rows.length:Int) (i:Int) ts s ⟨ts⟩ ⟨[]⟩ out) fun q=>∃rows',q=(⟨ts.set t rows'⟩,ts.set t rows')∧rows'.length≤out.length+(r::x).length+(if done=true then 0 else 1)∧(∀y∈rows',y∈out∨y∈r::x∨y=row)∧Ord T rows':=
   fun c hc=>(step done c out (by omega) (fun y hy=>.inl hy) (fun _=>hO) (fun _=>hO.aih) (fun hd=>⟨hD hd,hc hd⟩)).mono fun q ⟨rows',q1,q2,q3,q4⟩=>⟨rows',q1,by simp only[List.length_cons];omega,q3,q4⟩
  simp only[rM,GY,hq,decide_true,if_true,aO,g1,Option.bind_some,BS (n:=m) hTi ht r hrl,qG m (r.take T.aA.toNat) (kOf T row) (by simp;omega) (by simp;omega)]
  refine Ok.ite (fun hge=> ?_) fun hge=>same _ fun _ _=>jf.1 (by simpa using hge)
  have hge:¬lt (kOf T r) (kOf T row):=fun h=>by
   simp only[Bool.not_eq_true',decide_eq_false_iff_not] at hge;exact hge (jf.2 h)
  refine Ok.ite (fun hdn=> ?_) fun hdn=>same _ fun h=>by simp[h] at hdn
  have hdn:done=false:=by simpa using hdn
  obtain ⟨o1,o2⟩:=hO.row (hD hdn) hge;rw[BR row (by omega),Option.bind_some,dy _ _ (by simp;omega),Option.bind_some]
  refine (step true _ (out++ [row]) (by simp) (fun y hy=>(List.mem_append.1 hy).imp id fun h=>by simpa using h) (fun hc=>by simpa using o2 fun e=>hc (rV.2 e)) (fun _=>by simpa using o1) (fun h=>by cases h)).mono fun q ⟨rows',q1,q2,q3,q4⟩=>⟨rows',q1,?_,q3,q4⟩
  simp[hdn] at q2 ⊢;omega
 |_,_,0,_,_,_,_,_,hm,_,_,_=>by simp at hm
structure so (s:ag) (ts:List (List (List ae))):Prop where
 len:ts.length=s.ah.length
 row:∀(t:Nat) T rows,s.ah[t]? =some T→ts[t]? =some rows→rows.length≤8∧∀r∈rows,bg (bc T) r=true
 ord:∀(t:Nat) T rows,s.ah[t]? =some T→ts[t]? =some rows→Ord T rows
theorem ahe (n:Nat) (hn:1000<n) (s:ag) (t:Nat) (T:au) (hT:s.ah[t]? =some T) (ht:cE T) (row:List ae) (eA:bg (bc T) row=true) (ts:List (List (List ae))) (rows:List (List ae)) (dh:ts[t]? =some rows) (hl:rows.length≤100) (hr:∀r∈rows,bg (bc T) r=true) (hO:Ord T rows):
  Ok (F37 n s ⟨ts⟩ (t:Int) (kOf T row) row) fun r=>∃rows',r.2=ts.set t rows'∧rows'.length≤rows.length+1∧(∀y∈rows',bg (bc T) y=true)∧Ord T rows':=by
 have hts:t<ts.length:=(List.getElem?_eq_some_iff.1 dh).1;have hcl:=ht.aG;have hkl:=dg T;have hlen:=dK eA;have e1:bnd ts.length (t:Int)=some t:=by unfold bnd;rw[if_pos (by omega)];rfl
 unfold F37 SQ;simp only[e1,Option.bind_some,Nat.zero_add,dh];refine (Lv n s t T hT ht row (by omega) rows (fun r h=>by rw[dK (hr r h),hkl]) hl ts hts rows 0 n _ [] _ _ rfl (by omega) (by simp;omega) hO (by simp)).mono fun q ⟨rows',q1,q2,q3,q4⟩=>⟨rows',by rw[q1],?_,fun y hy=> ?_,q4⟩
 ·simp at q2;split at q2<;>omega
 ·rcases q3 y hy with h|h|h
  ·simp at h
  ·exact hr y h
  ·rw[h];exact eA
theorem LC (k:Int→Int→Int→an→ag→aj→aj→List (List (List ae))→Option (aj×an)) (s:ag) (t:Nat) (T:au) (hT:s.ah[t]? =some T) (ht:cE T) (a1 a2:Int) (Q:aj×an→Prop):∀(j m:Nat) (c:an) (z1 z2:aj) (ts:List (List (List ae))) (rows:List (List ae)),2000+j<m→bh c→ts[t]? =some rows→rows.length+j≤8→(∀r∈rows,bg (bc T) r=true)→Ord T rows→
  (∀c' z1' z2' rows',bh c'→rows'.length≤8→(∀r∈rows',bg (bc T) r=true)→Ord T rows'→Ok (k 1 a1 a2 c' s z1' z2' (ts.set t rows')) Q)→
  Ok (xS k m 1 (t:Int) (j:Int) a1 a2 c s z1 z2 ts) Q
 |0,m+1,c,z1,z2,ts,rows,hm,hc,hg,hl,hr,hO,hk=>by
  have hq:¬(0:Int)<((0:Nat):Int):=by omega
  simp only[xS,Hj,hq,decide_false,Bool.false_eq_true,if_false];have:=hk c ⟨[]⟩ ⟨ts⟩ rows hc (by omega) hr hO
  have e:ts.set t rows=ts:=by
   obtain ⟨h1,h2⟩:=List.getElem?_eq_some_iff.1 hg;rw[←h2];exact List.set_getElem_self h1
  rwa[e] at this
 |j+1,m+1,c,z1,z2,ts,rows,hm,hc,hg,hl,hr,hO,hk=>by
  have hq:(0:Int)<((j+1:Nat):Int):=by omega
  have hTi:idx s.ah (t:Int)=some T:=by rw[aO];exact hT
  have hcl:=ht.aG;have hkl:=dg T;simp only[xS,Hj,hq,decide_true,if_true,LL hTi (by omega) (by omega:1000<m),Option.bind_some,hTi]
  refine Ok.bind (XU m (by omega) c (bc T) T.aA ht.ks (by omega) hc) fun r ⟨h1,h2⟩=> ?_
  rw[BS (n:=m) hTi ht r.1 (by rw[dK h2,hkl]),Option.bind_some]
  refine Ok.bind (ahe m (by omega) s t T hT ht r.1 h2 ts rows hg (by omega) hr hO) fun q ⟨rows',q1,q2,q3,q4⟩=> ?_
  have hw:w64 (((j+1:Nat):Int)-1)=(j:Int):=by rw[bY (by omega) (by omega)];omega
  rw[hw,q1];have hts:t<ts.length:=(List.getElem?_eq_some_iff.1 hg).1;refine LC k s t T hT ht a1 a2 Q j m r.2 _ _ (ts.set t rows') rows' (by omega) h1 (by rw[List.getElem?_set_self hts]) (by omega) q3 q4 fun c' z1' z2' afk k1 k2 k3 k4=> ?_
  rw[List.set_set];exact hk c' z1' z2' afk k1 k2 k3 k4
 |_,0,_,_,_,_,_,hm,_,_,_,_,_,_=>by omega
theorem LB (n0:Nat) (s:ag) (hs:SOK s):∀(x:List au) (i m:Nat) (c:an) (z1 z2:aj) (ts:List (List (List ae))),s.ah.drop i=x→2100+x.length<m→bh c→so s ts→(∀t,i≤t→t<ts.length→ts[t]? =some [])→
  Ok (uF (Cc n0) m 1 (s.ah.length:Int) (i:Int) c s z1 z2 ts) fun r=>bh r.2∧so s r.1.ah
 | [],i,m+1,c,z1,z2,ts,hd,hm,hc,hts,h0=>by
  have:s.ah.length≤i:=by simpa using hd
  have hq:¬((i:Int)<(s.ah.length:Int)):=by omega
  simp only[uF,Hh,Cc,hq,decide_false,Bool.false_eq_true,if_false];exact Ok.pure ⟨hc,hts⟩
 |T::x,i,m+1,c,z1,z2,ts,hd,hm,hc,hts,h0=>by
  obtain ⟨g1,g2,g3⟩:=ba hd;have hq:(i:Int)<(s.ah.length:Int):=by omega
  have hl8:=hs.len;have ht:=hs.tab (i:Int) T (by rw[aO];exact g1)
  simp at hm;simp only[uF,Hh,hq,decide_true,if_true];refine Ok.bind (gk m c 5 hc) fun r ⟨hr,r0,r1,_⟩=> ?_
  have r1:=r1 (by omega)
  have e:r.1=((r.1.toNat:Nat):Int):=by omega
  rw[e];refine LC (Hi (uF (Cc n0) m) m) s i T g1 ht _ _ _ r.1.toNat m r.2 _ _ ts [] (by omega) hr (h0 i (Nat.le_refl _) (by rw[hts.len];omega)) (by simp;omega) (by simp) (by simp[Ord]) fun c' z1' z2' rows' k1 k2 k3 k4=> ?_
  unfold Hi;rw[bA g3 (by omega)]
  refine LB n0 s hs x (i+1) m c' _ _ _ g2 (by omega) k1 ⟨by rw[List.length_set];exact hts.len,fun t T' rows hT' dh=> ?_,fun t T' rows hT' dh=> ?_⟩ fun t h1 h2=> ?_
  ·by_cases hti:t=i
   ·subst hti;rw[g1] at hT';cases hT';rw[List.getElem?_set_self (by rw[hts.len];omega)] at dh
    cases dh;exact ⟨k2,k3⟩
   ·rw[List.getElem?_set_ne (fun e=>hti e.symm)] at dh
    exact hts.row t T' rows hT' dh
  ·by_cases hti:t=i
   ·subst hti;rw[g1] at hT';cases hT';rw[List.getElem?_set_self (by rw[hts.len];omega)] at dh
    cases dh;exact k4
   ·rw[List.getElem?_set_ne (fun e=>hti e.symm)] at dh
    exact hts.ord t T' rows hT' dh
  ·rw[List.getElem?_set_ne (by omega)]
   rw[List.length_set] at h2;exact h0 t (by omega) h2
 |_,_,0,_,_,_,_,_,hm,_,_,_=>by omega
theorem ahm (n:Nat) (hn:3000≤n) (s:ag) (hs:SOK s) (c:an) (hc:bh c):Ok (F11 n c s 1) fun r=>bh r.2∧so s r.1.ah:=by
 have hl8:=hs.len;have e:l9 (s.ah.length:Int) ([]:List (List ae))=some (List.replicate s.ah.length []):=by
  unfold l9;rw[if_pos (by omega)];rfl
 unfold F11 S9;rw[e,Option.bind_some];refine LB n s hs s.ah 0 n c _ _ _ rfl (by omega) hc ⟨by simp,fun t T rows hT dh=> ?_,fun t T rows hT dh=> ?_⟩ fun t _ h=> ?_
 ·obtain ⟨h1,h2⟩:=List.getElem?_eq_some_iff.1 dh;simp at h2;subst h2;simp
 ·obtain ⟨h1,h2⟩:=List.getElem?_eq_some_iff.1 dh;simp at h2;subst h2;simp[Ord]
 ·rw[List.length_replicate] at h;simp[h]
end Go.Proofs.YtmealahmjddpcaaGreatDoor
end
