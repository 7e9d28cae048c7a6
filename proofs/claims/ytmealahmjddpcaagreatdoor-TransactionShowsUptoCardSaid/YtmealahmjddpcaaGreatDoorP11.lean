/- Texts that belong together. The first: Plain laws: values, comparisons, and when a predicate holds. No condition but the sizes named in each statement. -/
import Derived.Test.YtmealahmjddpcaaGreatDoorP10
import Derived.IntWalk
import Derived.Laws.RangeString
import Derived.Laws.RangeAny
set_option linter.all false
set_option maxRecDepth 100000
noncomputable section
namespace Go.Proofs.YtmealahmjddpcaaGreatDoor
open Go.Sim
theorem bS {x:Int} (h1: -9223372036854775808<=x) (h2:x<=9223372036854775807):w64 x=x:=IntWalk.i64_in x ⟨h1,h2⟩
theorem aM {α:Type} (xs:List α) (i:Nat):idx xs (i:Int)=xs[i]? :=by simp[idx]
mutual
def szP:an->Nat
 |⟨_,_,_,_,args⟩=>2+szL args
def szL:Wq8->Nat
 | []=>0
 |x::xs=>1+szP x+szL xs
end
theorem pX (xs:Wq8):xs.length<=szL xs:=by
 induction xs with
 |nil=>simp[szL]
 |cons x xs ih=>simp[szL];omega
def zv:aH:=aH.mk 0 0 ByteArray.empty
def fa (v:aH):Bool:=
 if v.aw==1||v.aw==2 then v.bM==0&&decide (v.bt=ByteArray.empty)
 else if v.aw==3 then (v.bM==0||v.bM==1)&&decide (v.bt=ByteArray.empty)
 else if v.aw==4 then decide (v.bt=ByteArray.empty)
 else if v.aw==5 then v.bM==0&&decide ((v.bt.size:Int)<=64)
 else false
def fV (v:aH):Bool:=fa v&&decide (3<=v.aw)
theorem Yh (n:Nat) (v:aH):F88 n v=some (fa v):=by
 unfold F88 SK fa;by_cases h1:v.aw=1<;>by_cases h2:v.aw=2<;>by_cases h3:v.aw=3<;>by_cases h4:v.aw=4<;>by_cases h5:v.aw=5<;>by_cases h6:v.bM=0<;>by_cases h7:v.bM=1<;>simp_all<;>simp[<-Int.not_le]
theorem EO (n:Nat) (v:aH):SC n v=some (fa v):=by
 have:=Yh n v;exact this
theorem Nk {v:aH} (h:fa v=true):1<=v.aw/\v.aw<=5:=by
 unfold fa at h;split at h
 ·rename_i h1;simp at h1;omega
 ·split at h
  ·rename_i h1;simp at h1;omega
  ·split at h
   ·rename_i h1;simp at h1;omega
   ·split at h
    ·rename_i h1;simp at h1;omega
    ·simp at h
theorem afs (n:Nat) (v:aH):Ss n v=some (fV v):=by
 unfold Ss MS;rw[Yh];simp only[Option.bind_some,fV];cases fa v<;>simp<;>simp[<-Int.not_le]
theorem Yi (n:Nat) (v:aH):F80 n v=some (fV v):=by
 unfold F80 SN;rw[EO];simp only[Option.bind_some,fV];cases h:fa v with
 |false=>simp
 |true=>
  have:=Nk h;by_cases h1:v.aw=1
  ·simp[h1]
  ·by_cases h2:v.aw=2
   ·simp[h2]
   ·have:3<=v.aw:=by omega
    simp[h1,h2,this]
theorem FJ:∀a b:List UInt8,Lib.compareBytes a b=if Op.bytesLess a b then -1 else if a=b then 0 else 1
 | [],[]=>by simp[Lib.compareBytes,Op.bytesLess]
 | [],_::_=>by simp[Lib.compareBytes,Op.bytesLess]
 |_::_,[]=>by simp[Lib.compareBytes,Op.bytesLess]
 |a::l,b::m=>by
  rw[Lib.compareBytes,Op.bytesLess,FJ l m];by_cases h:a<b
  ·simp[h]
  ·by_cases h2:b<a
   ·have hne:a≠b:=fun e=>by subst e;exact absurd h2 (UInt8.lt_irrefl _)
    simp[h,h2,hne]
   ·have he:a=b:=UInt8.le_antisymm (UInt8.not_lt.1 h2) (UInt8.not_lt.1 h);subst he;simp[UInt8.lt_irrefl]
def gu (a b:aH):Int:=
 if a.aw<b.aw then -1 else if b.aw<a.aw then 1
 else if a.bM<b.bM then -1 else if b.bM<a.bM then 1
 else if Op.bytesLess a.bt.toList b.bt.toList then -1 else if a.bt=b.bt then 0 else 1
theorem iB:∀a:List UInt8,Op.bytesLess a a=false
 | []=>by simp[Op.bytesLess]
 |a::l=>by simp[Op.bytesLess,iB l,UInt8.lt_irrefl]
theorem oU {a b:ByteArray} (h:a.data.toList=b.data.toList):a=b:=by
 cases a;cases b;simp at h;simp[h]
theorem mz (a:ByteArray):a.toList=a.data.toList:=by
 exact ByteArray.toList_eq a
theorem ahV (n:Nat) (a b:aH):F61 n a b=some (gu a b):=by
 unfold F61 S2 gu;by_cases h1:a.aw<b.aw
 ·simp[h1]
 ·by_cases h2:b.aw<a.aw
  ·simp[h1,h2]
  ·by_cases h3:a.bM<b.bM
   ·simp[h1,h2,h3]
   ·by_cases h4:b.bM<a.bM
    ·simp[h1,h2,h3,h4]
    ·by_cases h5:Op.bytesLess a.bt.toList b.bt.toList=true
     ·simp[h1,h2,h3,h4,h5]
     ·by_cases h6:a.bt=b.bt
      ·simp[h1,h2,h3,h4,h6,iB]
      ·have h7:¬a.bt.toList=b.bt.toList:=fun e=>h6 (oU (by rw[mz,mz] at e;exact e))
       simp[h1,h2,h3,h4,h5,h6,h7]
theorem aaH (n:Nat) (a b:ByteArray):Sq n a b=some (if Op.bytesLess a.toList b.toList then -1 else if a=b then 0 else 1):=by
 unfold Sq;rw[FJ,mz,mz];by_cases h:a=b
 ·subst h;simp
 ·have:a.data.toList≠b.data.toList:=fun e=>h (oU e)
  simp[h,this]
theorem afw (n:Nat) (a b:Int):Sx n a b=some (if a<b then -1 else if b<a then 1 else 0):=by
 unfold Sx M1 Sv MV;by_cases h1:a<b
 ·simp[h1]
 ·by_cases h2:b<a<;>simp[h1,h2]
theorem afv (n:Nat) (a b:Int):Sw n a b=some (if a<b then -1 else if b<a then 1 else 0):=by
 unfold Sw M0 Su MU;by_cases h1:a<b
 ·simp[h1]
 ·by_cases h2:b<a<;>simp[h1,h2]
theorem ahM (n:Nat) (a b:aH):F95 n a b=some (gu a b):=by
 unfold F95 SJ aaJ MZ aaI MT;rw[afw,afv,aaH];obtain ⟨k,i,t⟩:=a;obtain ⟨k',i',t'⟩:=b;unfold gu;simp only[Option.bind_some];by_cases h1:k<k'
 ·have:k≠k':=by omega
  simp[h1,this]
 ·by_cases h2:k'<k
  ·have:k≠k':=by omega
   simp[h1,h2,this]
  ·have hk:k=k':=by omega
   subst hk;by_cases h3:i<i'
   ·have:i≠i':=by omega
    simp[h3,this]
   ·by_cases h4:i'<i
    ·have:i≠i':=by omega
     simp[h3,h4,this]
    ·have hi:i=i':=by omega
     subst hi;by_cases h5:t=t'
     ·subst h5;simp[iB]
     ·simp[h5]
theorem aX {α:Type} {xs:List α} {i:Nat} {x:α} {l:List α} (h:xs.drop i=x::l):xs[i]? =some x/\xs.drop (i+1)=l/\i<xs.length:=by
 have h1:i<xs.length:=by
  by_cases hl:i<xs.length
  ·exact hl
  ·rw[List.drop_of_length_le (by omega)] at h;simp at h
 rw[List.drop_eq_getElem_cons h1] at h;obtain ⟨q1,q2⟩:=List.cons.inj h;exact ⟨by simp[h1,q1],q2,h1⟩
theorem pW {x:an} {xs:Wq8} (h:x∈xs):szP x+xs.length<=szL xs:=by
 induction xs with
 |nil=>simp at h
 |cons y ys ih=>
  have hl:=pX ys;simp only[szL,List.length_cons];rcases List.mem_cons.1 h with rfl|h
  ·omega
  ·have:=ih h;omega
def Ok {α:Type} (x:Option α) (P:α->Prop):Prop:=∃a,x=some a/\P a
theorem Ok.pure {α:Type} {a:α} {P:α->Prop} (h:P a):Ok (some a) P:=⟨a,rfl,h⟩
theorem Ok.bind {α β:Type} {x:Option α} {f:α->Option β} {P:α->Prop} {Q:β->Prop} (h:Ok x P) (k:∀a,P a->Ok (f a) Q):Ok (x.bind f) Q:=by
 obtain ⟨a,rfl,ha⟩:=h;exact k a ha
theorem Ok.mono {α:Type} {x:Option α} {P Q:α->Prop} (h:Ok x P) (k:∀a,P a->Q a):Ok x Q:=by
 obtain ⟨a,h1,h2⟩:=h;exact ⟨a,h1,k a h2⟩
theorem Ok.ite {α:Type} {b:Bool} {x y:Option α} {P:α->Prop} (h1:b=true->Ok x P) (h2:b=false->Ok y P):Ok (if b=true then x else y) P:=by
 cases b with
 |true=>simpa using h1 rfl
 |false=>simpa using h2 rfl
structure aZ (c:aj):Prop where
 lo:0<=c.fat
 hi:c.fat<=c.gz.length
 len:c.gz.length<=1000
 byte:∀x∈c.gz,0<=x/\x<=255
theorem cV {α:Type} (xs ys:List α) (h:xs.length+ys.length<=1000000):app xs ys=some (xs++ys):=by unfold app;rw[if_pos (by omega)]
theorem alW (n:Nat) (aS:Wq0) (m:Int) (hb:∀x∈aS,0<=x/\x<=255) (h0:0<=m) (h1:m<=1000):Ok (F8 n aS m) aZ:=by
 unfold F8 aaL;have hc:∃k:Nat,(if m<(aS.length:Int) then m else (aS.length:Int))=(k:Int)/\k<=aS.length/\k<=1000:=by
  by_cases h:m<(aS.length:Int)
  ·exact ⟨m.toNat,by rw[if_pos h];omega,by omega,by omega⟩
  ·exact ⟨aS.length,by rw[if_neg h],Nat.le_refl _,by omega⟩
 obtain ⟨k,e,k1,k2⟩:=hc;rw[e];have h2:cut aS none (some (k:Int))=some (aS.take k):=by simp[cut,k1]
 rw[h2,Option.bind_some,cV _ _ (by simp;omega),Option.bind_some]
 refine Ok.pure ⟨Int.le_refl _,by simp,by simp;omega,fun x hx=> ?_⟩
 exact hb x (List.mem_of_mem_take (by simpa using hx))
theorem gB (n:Nat) (c:aj) (m:Int) (h:aZ c):Ok (F24 n c m) fun r=>aZ r.2/\0<=r.1/\(1<=m->r.1<m)/\(m<1->r.1=0)/\r.1<=255:=by
 unfold F24 Tu;refine Ok.ite (fun h1=>Ok.pure ⟨h,Int.le_refl _,fun h=>by omega,fun _=>rfl,by omega⟩) fun h1=> ?_
 simp at h1;refine Ok.ite (fun h2=>Ok.pure ⟨h,Int.le_refl _,fun h=>by omega,fun _=>rfl,by omega⟩) fun h2=> ?_
 simp at h2;have h3:=h.lo;have h4:=h.len;rw[bS (x:=c.fat+1) (by omega) (by omega),bS (by omega) (by omega)]
 have e:c.fat+1-1=(c.fat.toNat:Int):=by omega
 have hlt:c.fat.toNat<c.gz.length:=by omega
 rw[e,aM,List.getElem?_eq_getElem hlt,Option.bind_some];have hb:=h.byte (c.gz[c.fat.toNat]) (List.getElem_mem _);rw[bS (by omega) (by omega)]
 have hm:m≠0:=by omega
 simp only[rem,hm,if_false,Option.bind_some];have q1:=Int.tmod_nonneg m hb.1;have q2:=Int.tmod_lt_of_pos c.gz[c.fat.toNat] (by omega:0<m)
 have q3:c.gz[c.fat.toNat].tmod m<=c.gz[c.fat.toNat]:=by
  rw[Int.tmod_eq_emod_of_nonneg hb.1];have:=Int.emod_add_mul_ediv c.gz[c.fat.toNat] m;have h5:0<=m*(c.gz[c.fat.toNat] / m):=Int.mul_nonneg (by omega) (Int.ediv_nonneg hb.1 (by omega))
  omega
 exact Ok.pure ⟨⟨by simp;omega,by simp;omega,h4,h.byte⟩,q1,fun _=>q2,fun h=>by omega,by simp;omega⟩
theorem jj (n:Nat) (c:aj) (m:Int) (h:aZ c):Ok (F29 n c m) fun r=>aZ r.2:=by
 unfold F29 To;refine Ok.bind (gB n c m h) fun r hr=> ?_
 exact Ok.pure hr.1
theorem afz (n:Nat) (c:aj) (h:aZ c):Ok (SA n c) fun r=>aZ r.2/\ -9223372036854775808<=r.1/\r.1<=9223372036854775807:=by
 unfold SA Na;refine Ok.bind (gB n c 12 h) fun r ⟨hr,h0,_,_,h2⟩=> ?_
 refine Ok.ite (fun _=>Ok.pure ⟨hr,by simp,by simp⟩) fun _=> ?_
 refine Ok.ite (fun _=>Ok.pure ⟨hr,by simp,by simp⟩) fun _=> ?_
 refine Ok.ite (fun _=>Ok.pure ⟨hr,by simp,by simp⟩) fun _=> ?_
 have q1:=Int.tmod_nonneg 4 h0;have q2:=Int.tmod_lt_of_pos r.1 (by omega:(0:Int)<4)
 exact Ok.pure ⟨hr,by simp;omega,by simp;omega⟩
theorem FP (c:aj):∀(k n:Nat) (s:ByteArray) (i:Int),i=64-k->k<=64->s.size=64-k->k<n->Ok (tK (fun l b=>some (l,b)) n s i c) fun r=>r.2=c/\r.1.size<=64
 |0,n+1,s,i,hi,_,hs,_=>by
  have h:¬i<64:=by omega
  simp only[tK,CM,h,decide_false,Bool.false_eq_true,if_false];exact Ok.pure ⟨rfl,by simp;omega⟩
 |k+1,n+1,s,i,hi,hk,hs,hn=>by
  have h:i<64:=by omega
  simp only[tK,CM,h,decide_true,if_true];have hc:cat s (ByteArray.mk #[255])=some (s++ByteArray.mk #[255]):=by
   have:(ByteArray.mk #[255]).size=1:=rfl;unfold cat;rw[if_pos (by omega)]
  rw[hc,Option.bind_some,bS (by omega) (by omega)]
  have hsz:(s++ByteArray.mk #[255]).size=s.size+1:=by rw[ByteArray.size_append];rfl
  exact FP c k n _ _ (by omega) (by omega) (by omega) (by omega)
 |_,0,_,_,_,_,_,hn=>by simp at hn
theorem FO (c:aj):∀(k n:Nat) (s:ByteArray) (i:Int),i=64-k->k<=64->s.size=64-k->k<n->Ok (tJ (fun l b=>some (l,b)) n s i c) fun r=>r.2=c/\r.1.size<=64
 |0,n+1,s,i,hi,_,hs,_=>by
  have h:¬i<64:=by omega
  simp only[tJ,CL,h,decide_false,Bool.false_eq_true,if_false];exact Ok.pure ⟨rfl,by simp;omega⟩
 |k+1,n+1,s,i,hi,hk,hs,hn=>by
  have h:i<64:=by omega
  simp only[tJ,CL,h,decide_true,if_true];have hc:cat s (ByteArray.mk #[98])=some (s++ByteArray.mk #[98]):=by
   have:(ByteArray.mk #[98]).size=1:=rfl;unfold cat;rw[if_pos (by omega)]
  rw[hc,Option.bind_some,bS (by omega) (by omega)]
  have hsz:(s++ByteArray.mk #[98]).size=s.size+1:=by rw[ByteArray.size_append];rfl
  exact FO c k n _ _ (by omega) (by omega) (by omega) (by omega)
 |_,0,_,_,_,_,_,hn=>by simp at hn
theorem afy (n:Nat) (hn:100<=n) (c:aj) (h:aZ c):Ok (Sz n c) fun r=>aZ r.2/\r.1.size<=64:=by
 unfold Sz M9;refine Ok.bind (gB n c 10 h) fun r ⟨hr,_⟩=> ?_
 refine Ok.ite (fun _=>Ok.pure ⟨hr,Nat.le_of_ble_eq_true rfl⟩) fun _=> ?_
 refine Ok.ite (fun _=>Ok.pure ⟨hr,Nat.le_of_ble_eq_true rfl⟩) fun _=> ?_
 refine Ok.ite (fun _=>Ok.pure ⟨hr,Nat.le_of_ble_eq_true rfl⟩) fun _=> ?_
 refine Ok.ite (fun _=>Ok.pure ⟨hr,Nat.le_of_ble_eq_true rfl⟩) fun _=> ?_
 refine Ok.ite (fun _=>Ok.pure ⟨hr,Nat.le_of_ble_eq_true rfl⟩) fun _=> ?_
 refine Ok.ite (fun _=>Ok.pure ⟨hr,Nat.le_of_ble_eq_true rfl⟩) fun _=> ?_
 refine Ok.ite (fun _=>Ok.pure ⟨hr,Nat.le_of_ble_eq_true rfl⟩) fun _=> ?_
 refine Ok.ite (fun _=>Ok.pure ⟨hr,Nat.le_of_ble_eq_true rfl⟩) fun _=> ?_
 refine Ok.ite (fun _=> ?_) fun _=> ?_
 ·exact (FP r.2 64 n ByteArray.empty 0 (by omega) (by omega) rfl (by omega)).mono fun x ⟨e,hx⟩=>⟨by rw[e];exact hr,hx⟩
 ·exact (FO r.2 64 n ByteArray.empty 0 (by omega) (by omega) rfl (by omega)).mono fun x ⟨e,hx⟩=>⟨by rw[e];exact hr,hx⟩
theorem Cg (n:Nat) (hn:100<=n) (c:aj) (k:Int) (h:aZ c) (hk:3<=k) (hk':k<=5):Ok (F74 n c k) fun r=>aZ r.2/\r.1.aw=k/\fV r.1=true:=by
 unfold F74 SS;refine Ok.ite (fun h3=> ?_) fun h3=> ?_
 ·simp at h3;refine Ok.bind (gB n c 2 h) fun r ⟨hr,h0,h1,_⟩=>Ok.pure ⟨hr,rfl,?_⟩
  have h1:=h1 (by omega)
  have:r.1=0\/r.1=1:=by omega
  rcases this with e|e<;>simp[fV,fa,h3,e]
 ·simp at h3;refine Ok.ite (fun h4=> ?_) fun h4=> ?_
  ·simp at h4;refine Ok.bind (afz n c h) fun r ⟨hr,_⟩=>Ok.pure ⟨hr,rfl,by simp[fV,fa,h4]⟩
  ·simp at h4;refine Ok.bind (afy n hn c h) fun r ⟨hr,hs⟩=>Ok.pure ⟨hr,by simp;omega,?_⟩
   have:(r.1.size:Int)<=64:=by omega
   simp[fV,fa,this]
def kOK (k:Int):Bool:=k==3||k==4||k==5
def dY (l:Wq0):Bool:=l.all kOK
theorem bz {i L:Nat} (h:i<L) (hl:L<4294967296):w64 ((i:Int)+1)=((i+1:Nat):Int):=by rw[bS (by omega) (by omega)];rfl
theorem afx (n:Nat) (k:Int):Sy n k=some (kOK k):=by
 unfold Sy M3 kOK;by_cases h3:k=3
 ·simp[h3]
 ·by_cases h4:k=4
  ·simp[h4]
  ·simp[h3,h4]
theorem Pn (xs:Wq0) (hl:xs.length<4294967296):∀(l:Wq0) (i n:Nat),xs.drop i=l->l.length<n->tN (some true) n xs (xs.length:Int) (i:Int)=some (dY l)
 | [],i,n+1,hd,hn=>by
  have:xs.length<=i:=by simpa using hd
  have h:¬((i:Int)<(xs.length:Int)):=by omega
  simp[tN,CS,h,dY]
 |x::l,i,n+1,hd,hn=>by
  obtain ⟨h1,h2,h3⟩:=aX hd;have h:((i:Int)<(xs.length:Int)):=by omega
  have ih:=Pn xs hl l (i+1) n h2 (by simp at hn;omega)
  simp only[tN,CS,h,decide_true,if_true,aM,h1,Option.bind_some,afx,bz h3 hl,ih];simp only[dY,List.all_cons];cases kOK x<;>simp
 |_,_,0,_,hn=>by simp at hn
theorem Pv (n:Nat) (xs:Wq0) (hl:xs.length<4294967296) (hn:xs.length<n):MI n xs=some (dY xs):=by
 have:=Pn xs hl xs 0 n rfl hn;simpa[MI,Ng,Nh] using this
theorem Pl (xs:Wq0) (hl:xs.length<4294967296):∀(l:Wq0) (i n:Nat),xs.drop i=l->l.length<n->tI (some true) n xs (xs.length:Int) (i:Int)=some (dY l)
 | [],i,n+1,hd,hn=>by
  have:xs.length<=i:=by simpa using hd
  have h:¬((i:Int)<(xs.length:Int)):=by omega
  simp[tI,CJ,h,dY]
 |x::l,i,n+1,hd,hn=>by
  obtain ⟨h1,h2,h3⟩:=aX hd;have h:((i:Int)<(xs.length:Int)):=by omega
  have ih:=Pl xs hl l (i+1) n h2 (by simp at hn;omega)
  simp only[tI,CJ,h,decide_true,if_true,aM,h1,Option.bind_some,bz h3 hl,ih];simp only[dY,List.all_cons,kOK];by_cases q3:x=3
  ·simp[q3]
  ·by_cases q4:x=4
   ·simp[q4]
   ·by_cases q5:x=5<;>simp[q3,q4,q5]
 |_,_,0,_,hn=>by simp at hn
theorem Pq (n:Nat) (xs:Wq0) (hl:xs.length<4294967296) (hn:xs.length<n):MG n xs=some (dY xs):=by
 have:=Pl xs hl xs 0 n rfl hn;simpa[MG,M6,M7] using this
mutual
def ndP:an->Nat
 |⟨_,_,_,_,args⟩=>1+ndL args
def ndL:Wq8->Nat
 | []=>0
 |x::xs=>ndP x+ndL xs
end
mutual
def dpP:an->Nat
 |⟨_,_,_,_,args⟩=>1+dpL args
def dpL:Wq8->Nat
 | []=>0
 |x::xs=>max (dpP x) (dpL xs)
end
theorem O5 (p:an):1<=ndP p:=by obtain ⟨_,_,_,_,_⟩:=p;simp[ndP]
theorem Pu:∀(n:Nat) (p:an) (m:Int),szP p<=n->szP p<4294967296->0<=m->m<=24->Ok (EN n p m) fun r=>r<=25/\(m+ndP p<=24->r=m+ndP p)/\(24<m+ndP p->24<r)
 |0,⟨_,_,_,_,_⟩,_,h,_,_,_=>by simp[szP] at h
 |n+1,⟨op,c,l,r,args⟩,m,h,hb,h0,h1=>by
  simp only[szP] at h hb;have hlen:=pX args;have loop:∀(xs:Wq8) (i k:Nat) (m:Int),args.drop i=xs->xs.length<k->0<=m->m<=25->
    Ok (tM (EN n) (fun r=>some r) k m (i:Int) ⟨op,c,l,r,args⟩) fun r=>r<=25/\(m+ndL xs<=24->r=m+ndL xs)/\(24<m+ndL xs->24<r):=by
   intro xs;induction xs with
   |nil=>
    intro i k m hd hk m0 m1;have:args.length<=i:=by simpa using hd
    have hq:¬((i:Int)<(args.length:Int)):=by omega
    cases k with
    |zero=>simp at hk
    |succ k=>
     simp only[tM,CQ,hq,decide_false,Bool.false_eq_true,if_false];exact Ok.pure ⟨m1,fun _=>by simp[ndL],fun h=>by simp[ndL] at h;exact h⟩
   |cons x xs ih=>
    intro i k m hd hk m0 m1;obtain ⟨g1,g2,g3⟩:=aX hd;have hq:((i:Int)<(args.length:Int)):=by omega
    cases k with
    |zero=>simp at hk
    |succ k=>
     simp only[tM,CQ,hq,decide_true,if_true];have hx:x∈args:=List.mem_of_getElem? g1;have hs:=pW hx;have hnd:=O5 x;refine Ok.ite (fun hm=> ?_) fun hm=> ?_
     ·simp at hm;rw[aM,g1,Option.bind_some];refine Ok.bind (Pu n x m (by omega) (by omega) m0 hm) fun r ⟨r1,r2,r3⟩=> ?_
      rw[bz g3 (by omega)]
      have hr0:0<=r:=by
       by_cases hz:m+ndP x<=24
       ·have:=r2 hz;omega
       ·have:=r3 (by omega);omega
      refine (ih (i+1) k r g2 (by simp at hk;omega) hr0 r1).mono fun r' ⟨q1,q2,q3⟩=>⟨q1,fun hle=> ?_,fun hlt=> ?_⟩
      ·simp only[ndL] at hle ⊢;have e:=r2 (by omega)
       have:=q2 (by omega)
       omega
      ·simp only[ndL] at hlt;by_cases hz:m+ndP x<=24
       ·have e:=r2 hz;exact q3 (by omega)
       ·have e:=r3 (by omega)
        exact q3 (by omega)
     ·simp at hm;exact Ok.pure ⟨m1,fun hle=>by simp only[ndL] at hle;omega,fun _=>hm⟩
  unfold EN Nf;rw[bS (by omega) (by omega)]
  refine (loop args 0 n (m+1) rfl (by omega) (by omega) (by omega)).mono fun r' ⟨q1,q2,q3⟩=>⟨q1,fun hle=> ?_,fun hlt=> ?_⟩
  ·simp only[ndP] at hle ⊢;have:=q2 (by omega)
   omega
  ·simp only[ndP] at hlt;exact q3 (by omega)
theorem Pt:∀(n:Nat) (p:an) (m:Nat),szP p<=n->szP p<4294967296->m<=1000->xb n p (m:Int)=some (decide (m<dpP p))
 |0,⟨_,_,_,_,_⟩,_,h,_,_=>by simp[szP] at h
 |n+1,⟨op,c,l,r,args⟩,0,h,hb,hm=>by
  have:0<dpP ⟨op,c,l,r,args⟩:=by simp only[dpP];omega
  simp[xb,CO,this]
 |n+1,⟨op,c,l,r,args⟩,m+1,h,hb,hm=>by
  simp only[szP] at h hb;have hlen:=pX args;have loop:∀(xs:Wq8) (i k:Nat),args.drop i=xs->xs.length<k->
    tL (xb n) (some false) k ((m+1:Nat):Int) (args.length:Int) (i:Int) ⟨op,c,l,r,args⟩=some (decide (m<dpL xs)):=by
   intro xs;induction xs with
   |nil=>
    intro i k hd hk;have:args.length<=i:=by simpa using hd
    have hq:¬((i:Int)<(args.length:Int)):=by omega
    cases k with
    |zero=>simp at hk
    |succ k=>simp[tL,CP,hq,dpL]
   |cons x xs ih=>
    intro i k hd hk;obtain ⟨g1,g2,g3⟩:=aX hd;have hq:((i:Int)<(args.length:Int)):=by omega
    cases k with
    |zero=>simp at hk
    |succ k=>
     have hx:x∈args:=List.mem_of_getElem? g1;have hs:=pW hx;have hw:w64 (((m+1:Nat):Int)-1)=(m:Int):=by rw[bS (by omega) (by omega)];omega
     simp only[tL,CP,hq,decide_true,if_true,aM,g1,Option.bind_some,hw,Pt n x m (by omega) (by omega) (by omega),bz g3 (by omega:args.length<4294967296),
      ih (i+1) k g2 (by simp at hk;omega)]
     by_cases hd1:m<dpP x
     ·have:m<dpL (x::xs):=by simp only[dpL];omega
      simp[hd1,this]
     ·have:(m<dpL (x::xs))↔m<dpL xs:=by simp only[dpL];omega
      simp[hd1,this]
  have hne:¬(((m+1:Nat):Int)=0):=by omega
  have hl:=loop args 0 n rfl (by omega)
  have e:(m+1<dpP ⟨op,c,l,r,args⟩)↔m<dpL args:=by simp only[dpP];omega
  simp only[xb,CO,beq_iff_eq,hne,if_false,Nd];rw[show ((0:Int))=((0:Nat):Int) from rfl,hl];simp[e]
theorem Pp:∀(n:Nat) (p:an) (v b:Int),szP p<=n->szP p<4294967296->1<=v->v<=9->0<=b->b<=24->
  Ok (EM n p v b) fun r=>(r.1=true↔((ndP p:Int)<=b/\v+dpP p<=9))/\(r.1=true->r.2=b-ndP p)
 |0,⟨_,_,_,_,_⟩,_,_,h,_,_,_,_,_=>by simp[szP] at h
 |n+1,⟨op,c,l,r,args⟩,v,b,h,hb,v1,v2,b1,b2=>by
  simp only[szP] at h hb;have hlen:=pX args;have loop:∀(xs:Wq8) (i k:Nat) (b:Int),args.drop i=xs->xs.length<k->v<=8->0<=b->b<=24->
    Ok (tH (EM n) (fun b=>some (true,b)) k v args (args.length:Int) (i:Int) b) fun r=>(r.1=true↔((ndL xs:Int)<=b/\v+dpL xs<=8))/\(r.1=true->r.2=b-ndL xs):=by
   intro xs;induction xs with
   |nil=>
    intro i k b hd hk hv b1 b2;have:args.length<=i:=by simpa using hd
    have hq:¬((i:Int)<(args.length:Int)):=by omega
    cases k with
    |zero=>simp at hk
    |succ k=>
     simp only[tH,CI,hq,decide_false,Bool.false_eq_true,if_false];exact Ok.pure ⟨by simp[ndL,dpL];omega,by simp[ndL]⟩
   |cons x xs ih=>
    intro i k b hd hk hv b1 b2;obtain ⟨g1,g2,g3⟩:=aX hd;have hq:((i:Int)<(args.length:Int)):=by omega
    cases k with
    |zero=>simp at hk
    |succ k=>
     have hx:x∈args:=List.mem_of_getElem? g1;have hs:=pW hx;simp only[tH,CI,hq,decide_true,if_true,aM,g1,Option.bind_some];rw[bS (x:=v+1) (by omega) (by omega)]
     refine Ok.bind (Pp n x (v+1) b (by omega) (by omega) (by omega) (by omega) b1 b2) fun r ⟨r1,r2⟩=> ?_
     refine Ok.ite (fun hr=> ?_) fun hr=> ?_
     ·simp at hr;refine Ok.pure ⟨⟨fun h=>by simp at h,fun ⟨h1,h2⟩=> ?_⟩,fun h=>by simp at h⟩
      simp only[ndL,dpL] at h1 h2;have:=r1.2 ⟨by omega,by omega⟩
      rw[hr] at this;exact absurd this (by simp)
     ·simp at hr;have e:=r2 hr;have q:=r1.1 hr;rw[bz g3 (by omega)]
      have hnd:=O5 x;refine (ih (i+1) k r.2 g2 (by simp at hk;omega) hv (by omega) (by omega)).mono fun r' ⟨q1,q2⟩=>⟨⟨fun h=> ?_,fun ⟨h1,h2⟩=> ?_⟩,fun h=> ?_⟩
      ·have:=q1.1 h;simp only[ndL,dpL];omega
      ·simp only[ndL,dpL] at h1 h2;exact q1.2 ⟨by omega,by omega⟩
      ·have:=q2 h;simp only[ndL];omega
  unfold EM M5;rw[bS (by omega) (by omega)]
  simp only[ndP,dpP];refine Ok.ite (fun hb0=> ?_) fun hb0=> ?_
  ·simp at hb0;refine Ok.pure ⟨⟨fun h=>by simp at h,fun h=> ?_⟩,fun h=>by simp at h⟩
   omega
  ·simp at hb0;refine Ok.ite (fun hv=> ?_) fun hv=> ?_
   ·simp at hv;refine Ok.pure ⟨⟨fun h=>by simp at h,fun h=> ?_⟩,fun h=>by simp at h⟩
    omega
   ·simp at hv;refine (loop args 0 n (b-1) rfl (by omega) hv (by omega) (by omega)).mono fun r' ⟨q1,q2⟩=>⟨⟨fun h=> ?_,fun ⟨h1,h2⟩=> ?_⟩,fun h=> ?_⟩
    ·have:=q1.1 h;omega
    ·exact q1.2 ⟨by omega,by omega⟩
    ·have:=q2 h;omega
def rM (v:aH):Bool:=v.aw==0&&(v.bM==0&&(decide (v.bt=ByteArray.empty)&&true))
def uf (o:aE):Bool:=o.aw==0&&(o.bO==0&&(rM o.aV&&true))
def kAt (l:Wq0) (o:aE):Int:=if 0<=o.bO/\o.bO<l.length/\rM o.aV=true then (l[o.bO.toNat]?).getD 0 else 0
def fF (aG params:Wq0) (o:aE):Int:=
 if o.aw==3 then (if o.bO==0&&fV o.aV then o.aV.aw else 0) else if o.aw==2 then kAt params o else if o.aw==1 then kAt aG o else 0
theorem xd (n:Nat) (l:Wq0) (o:aE):xe n l o=some (kAt l o):=by
 unfold xe kAt;by_cases h1:o.bO<0
 ·have:¬0<=o.bO:=by omega
  simp[h1,this]
 ·by_cases h2:(l.length:Int)<=o.bO
  ·have:¬o.bO<l.length:=by omega
   simp[h1,h2,this]
  ·have e1:0<=o.bO:=by omega
   have e2:o.bO<l.length:=by omega
   have e3:o.bO.toNat<l.length:=by omega
   have hid:idx l o.bO=some (l[o.bO.toNat]):=by simp[idx,e1,e3]
   cases h3:rM o.aV with
   |false=>
    simp only[rM] at h3;simp only[h1,h2,decide_false,Bool.false_eq_true,if_false,ge_iff_le,h3,Bool.not_false,if_true,and_false,e2,decide_true,Bool.not_true]
   |true=>
    simp only[rM] at h3;simp only[h1,h2,decide_false,Bool.false_eq_true,if_false,ge_iff_le,h3,Bool.not_true,hid,Option.bind_some,e1,e2,and_self,if_true,decide_true,Bool.not_true];simp[e3]
theorem afu (n:Nat) (aG params:Wq0) (o:aE):MF n aG params o=some (fF aG params o):=by
 unfold MF MX fF;rw[xd,xd,afs];simp only[Option.bind_some];by_cases h3:o.aw=3
 ·by_cases hi:o.bO=0<;>cases fV o.aV<;>simp[h3,hi]
 ·by_cases h2:o.aw=2
  ·simp[h2]
  ·by_cases h1:o.aw=1<;>simp[h1,h2,h3]
theorem aft (n:Nat) (k:cQ) (o:aE):ME n k o=some (fF k.fH k.gL o):=by
 have h0:∀l,CC n l o=some (kAt l o):=fun l=>by rw[<-xd n l o];rfl
 unfold ME MW fF;rw[h0,h0,Yi];simp only[Option.bind_some];by_cases h3:o.aw=3
 ·by_cases hi:o.bO=0<;>cases fV o.aV<;>simp[h3,hi]
 ·by_cases h2:o.aw=2
  ·simp[h2]
  ·by_cases h1:o.aw=1<;>simp[h1,h2,h3]
def fZ (c:Int) (l r:aE):Bool:=c==0&&uf l&&uf r
mutual
def pV (aG params:Wq0):an->Bool
 |⟨op,c,l,r,args⟩=>
  if op==1||op==2 then fZ c l r&&args.length==0
  else if op==3 then args.length==0&&decide (1<=c)&&decide (c<=6)&&fF aG params l !=0&&fF aG params l==fF aG params r
  else if op==4||op==5 then fZ c l r&&pVs aG params args
  else if op==6 then args.length==1&&(fZ c l r&&pVs aG params args)
  else false
def pVs (aG params:Wq0):Wq8->Bool
 | []=>true
 |x::xs=>pV aG params x&&pVs aG params xs
end
theorem Po (n:Nat) (p:an):EK n p=some (fZ p.hJ p.bD p.br):=by
 unfold EK MY fZ uf rM;by_cases h:p.hJ=0
 ·simp only[h,beq_self_eq_true,if_true,Bool.true_and];split
  ·rename_i h1;simp only[h1,Bool.true_and]
  ·rename_i h1;rw[Bool.not_eq_true] at h1;simp only[h1,Bool.false_and]
 ·simp[h]
theorem Ps (aG params:Wq0):∀(n:Nat) (p:an),szP p<=n->szP p<4294967296->xa n aG params p=some (pV aG params p)
 |0,⟨_,_,_,_,_⟩,h,_=>by simp[szP] at h
 |n+1,⟨op,c,l,r,args⟩,h,hb=>by
  simp only[szP] at h hb;have hlen:=pX args;have loop:∀(xs:Wq8) (i k:Nat),args.drop i=xs->xs.length<k->
    ru (xa n) (some true) k aG params (args.length:Int) (i:Int) ⟨op,c,l,r,args⟩=some (pVs aG params xs):=by
   intro xs;induction xs with
   |nil=>
    intro i k hd hk;have:args.length<=i:=by simpa using hd
    have hq:¬((i:Int)<(args.length:Int)):=by omega
    cases k with
    |zero=>simp at hk
    |succ k=>simp[ru,CN,hq,pVs]
   |cons x xs ih=>
    intro i k hd hk;obtain ⟨g1,g2,g3⟩:=aX hd;have hq:((i:Int)<(args.length:Int)):=by omega
    cases k with
    |zero=>simp at hk
    |succ k=>
     have hx:x∈args:=List.mem_of_getElem? g1;have hs:=pW hx;simp only[ru,CN,hq,decide_true,if_true,aM,g1,Option.bind_some,Ps aG params n x (by omega) (by omega),bz g3 (by omega:args.length<4294967296),
      ih (i+1) k g2 (by simp at hk;omega),pVs]
     cases pV aG params x<;>simp
  have hl:=loop args 0 n rfl (by omega)
  have hl:ru (xa n) (some true) n aG params (args.length:Int) 0 ⟨op,c,l,r,args⟩=some (pVs aG params args):=hl;have hB:tS (xa n) n aG params ⟨op,c,l,r,args⟩=some (fZ c l r&&pVs aG params args):=by
   unfold tS Nc;rw[Po,Option.bind_some,hl];cases fZ c l r<;>simp
  unfold xa Nb;simp only[Po,afu,Option.bind_some,hB];unfold pV;have hz:((args.length:Int)==0)=(args.length==0):=by
   rw[Bool.eq_iff_iff];simp
  have ho:((args.length:Int) !=1)= !(args.length==1):=by
   rw[Bool.eq_iff_iff];simp;omega
  simp only[hz,ho];by_cases h1:op=1
  ·cases hp:fZ c l r<;>simp[h1]
  ·by_cases h2:op=2
   ·cases hp:fZ c l r<;>simp[h2]
   ·by_cases h3:op=3
    ·cases ha:(args.length==0) with
     |false=>simp[h3]
     |true=>
      by_cases c1:1<=c
      ·by_cases c2:c<=6
       ·by_cases c3:fF aG params l=0<;>simp[h3,c1,c2,c3]
       ·simp[h3,c1,c2]
      ·simp[h3,c1]
    ·by_cases h4:op=4
     ·simp[h4]
     ·by_cases h5:op=5
      ·simp[h5]
      ·by_cases h6:op=6
       ·cases ha:(args.length==1)<;>simp[h6]
       ·simp[h1,h2,h3,h4,h5,h6]
theorem EL (k:cQ):∀(n:Nat) (p:an),szP p<=n->szP p<4294967296->mg n k p=some (pV k.fH k.gL p)
 |0,⟨_,_,_,_,_⟩,h,_=>by simp[szP] at h
 |n+1,⟨op,c,l,r,args⟩,h,hb=>by
  simp only[szP] at h hb;have hlen:=pX args;have aiz:∀(xs:Wq8) (i m:Nat),args.drop i=xs->xs.length<m->
    oJ (mg n) (some true) m args (args.length:Int) (i:Int) k=some (pVs k.fH k.gL xs):=by
   intro xs;induction xs with
   |nil=>
    intro i m hd hk;have:args.length<=i:=by simpa using hd
    have hq:¬((i:Int)<(args.length:Int)):=by omega
    cases m with
    |zero=>simp at hk
    |succ m=>simp[oJ,CH,hq,pVs]
   |cons x xs ih=>
    intro i m hd hk;obtain ⟨g1,g2,g3⟩:=aX hd;have hq:((i:Int)<(args.length:Int)):=by omega
    cases m with
    |zero=>simp at hk
    |succ m=>
     have hx:x∈args:=List.mem_of_getElem? g1;have hs:=pW hx;simp only[oJ,CH,hq,decide_true,if_true,aM,g1,Option.bind_some,EL k n x (by omega) (by omega),bz g3 (by omega:args.length<4294967296),
      ih (i+1) m g2 (by simp at hk;omega),pVs]
     cases pV k.fH k.gL x<;>simp
  have aiy:∀(xs:Wq8) (i m:Nat),args.drop i=xs->xs.length<m->
    oI (mg n) (some true) m args (args.length:Int) (i:Int) k=some (pVs k.fH k.gL xs):=by
   intro xs;induction xs with
   |nil=>
    intro i m hd hk;have:args.length<=i:=by simpa using hd
    have hq:¬((i:Int)<(args.length:Int)):=by omega
    cases m with
    |zero=>simp at hk
    |succ m=>simp[oI,CF,hq,pVs]
   |cons x xs ih=>
    intro i m hd hk;obtain ⟨g1,g2,g3⟩:=aX hd;have hq:((i:Int)<(args.length:Int)):=by omega
    cases m with
    |zero=>simp at hk
    |succ m=>
     have hx:x∈args:=List.mem_of_getElem? g1;have hs:=pW hx;simp only[oI,CF,hq,decide_true,if_true,aM,g1,Option.bind_some,EL k n x (by omega) (by omega),bz g3 (by omega:args.length<4294967296),
      ih (i+1) m g2 (by simp at hk;omega),pVs]
     cases pV k.fH k.gL x<;>simp
  have hl0:oJ (mg n) (some true) n args (args.length:Int) 0 k=some (pVs k.fH k.gL args):=aiz args 0 n rfl (by omega)
  have hl3:oI (mg n) (some true) n args (args.length:Int) 0 k=some (pVs k.fH k.gL args):=aiy args 0 n rfl (by omega)
  have XA:∀X:Option Bool,(if c !=0 then some false else if !(uf l) then some false else if !(uf r) then some false else X)=if fZ c l r then X else some false:=by
   intro X;unfold fZ;by_cases hc:c=0
   ·cases uf l<;>cases uf r<;>simp[hc]
   ·simp[hc]
  have hB5:tR (mg n) n k ⟨op,c,l,r,args⟩=some (fZ c l r&&pVs k.fH k.gL args):=by
   have:=XA (oI (mg n) (CE (mg n) n) n args (args.length:Int) 0 k);unfold tR;refine Eq.trans this ?_;unfold CE;rw[hl3];cases fZ c l r<;>simp
  have hB2:∀b,xf (mg n) n b k ⟨op,c,l,r,args⟩=some (!b&&(fZ c l r&&pVs k.fH k.gL args)):=by
   intro b;have:=XA (oJ (mg n) (CG (mg n) n) n args (args.length:Int) 0 k);unfold xf;cases b with
   |true=>simp
   |false=>
    simp only[Bool.false_eq_true,if_false,Bool.not_false,Bool.true_and];refine Eq.trans this ?_;unfold CG;rw[hl0];cases fZ c l r<;>simp
  unfold mg M4;simp only[aft,Option.bind_some,hB5,hB2];unfold pV;have hz:((args.length:Int)==0)=(args.length==0):=by
   rw[Bool.eq_iff_iff];simp
  have hz':((args.length:Int) !=0)= !(args.length==0):=by
   rw[Bool.eq_iff_iff];simp
  have ho:((args.length:Int) !=1)= !(args.length==1):=by
   rw[Bool.eq_iff_iff];simp;omega
  simp only[hz,hz',ho];have he:(args.length==0)=true->pVs k.fH k.gL args=true:=by
   intro h;have:args= []:=by simpa using h
   simp[this,pVs]
  by_cases h3:op=3
  ·cases ha:(args.length==0) with
   |false=>simp[h3]
   |true=>
    by_cases c1:1<=c
    ·by_cases c2:c<=6
     ·by_cases c3:fF k.fH k.gL l=0<;>simp[h3,c1,c2,c3]
     ·simp[h3,c1,c2]
    ·simp[h3,c1]
  ·by_cases h1:op=1
   ·cases ha:(args.length==0) with
    |false=>simp[h1]
    |true=>simp[h1,he ha]
   ·by_cases h2:op=2
    ·cases ha:(args.length==0) with
     |false=>simp[h2]
     |true=>simp[h2,he ha]
    ·by_cases h6:op=6
     ·cases ha:(args.length==1)<;>simp[h6]
     ·by_cases h4:op=4
      ·simp[h4]
      ·by_cases h5:op=5
       ·simp[h5]
       ·simp[h1,h2,h3,h4,h5,h6]
def nj (aG params:Wq0) (p:an):Int:=
 if !dY aG then 1 else if !dY params then 1 else if decide (24<ndP p)||decide (8<dpP p) then 2 else if !pV aG params p then 50 else 0
theorem ahR (n:Nat) (aG params:Wq0) (p:an) (h1:aG.length<n) (h2:params.length<n) (h3:szP p<=n) (h4:n<4294967296):F73 n aG params p=some (nj aG params p):=by
 obtain ⟨r,e,r1,r2,r3⟩:=Pu n p 0 h3 (by omega) (by omega) (by omega)
 have hd:=Pt n p 8 h3 (by omega) (by omega)
 have hd:xb n p 8=some (decide (8<dpP p)):=hd;unfold F73 SU nj;simp only[Pv n aG (by omega) h1,Pv n params (by omega) h2,e,hd,Ps aG params n p h3 (by omega),Option.bind_some]
 cases dY aG<;>cases dY params<;>simp
 by_cases hn:24<ndP p
 ·have:=r3 (by omega)
  simp[hn,this]
 ·have:=r2 (by omega)
  have h24:¬24<r:=by omega
  by_cases h8:8<dpP p<;>cases pV aG params p<;>simp[hn,h24,h8]
theorem ahO (n:Nat) (aG params:Wq0) (p:an) (h1:aG.length<n) (h2:params.length<n) (h3:szP p<=n) (h4:n<4294967296):F79 n aG params p=some (nj aG params p):=by
 obtain ⟨r,e,r1,r2⟩:=Pp n p 1 24 h3 (by omega) (by omega) (by omega) (by omega) (by omega)
 unfold F79 SP nj;simp only[Pq n aG (by omega) h1,Pq n params (by omega) h2,e,EL ⟨aG,params⟩ n p h3 (by omega),Option.bind_some]
 cases dY aG<;>cases dY params<;>simp
 cases hr:r.1 with
 |true=>
  have:=r1.1 hr;have e1:¬24<ndP p:=by omega
  have e2:¬8<dpP p:=by omega
  cases pV aG params p<;>simp[e1,e2]
 |false=>
  have:¬((ndP p:Int)<=24/\(1:Int)+dpP p<=9):=fun h=>by rw[r1.2 h] at hr;simp at hr
  have e1:24<ndP p\/8<dpP p:=by omega
  rcases e1 with h|h<;>simp[h]
theorem ov {k:Int} (h:kOK k=true):3<=k/\k<=5:=by simp[kOK] at h;omega
theorem l4 {l:Wq0} {i:Nat} {x:Int} (h:dY l=true) (hx:l[i]? =some x):kOK x=true:=by
 simp only[dY,List.all_eq_true] at h;exact h x (List.mem_of_getElem? hx)
def YS (aG params:Wq0) (k:Int) (l:Wq6):Prop:=∀o∈l,fF aG params o=k
theorem W4 {aG params:Wq0} {i:Nat} {k:Int} (h:aG[i]? =some k):fF aG params ⟨1,(i:Int),⟨0,0,ByteArray.empty⟩⟩=k:=by
 have hi:i<aG.length:=(List.getElem?_eq_some_iff.1 h).1;have:(i:Int)<(aG.length:Int):=by omega
 simp[fF,kAt,rM,this,h]
theorem W3 {aG params:Wq0} {i:Nat} {k:Int} (h:params[i]? =some k):fF aG params ⟨2,(i:Int),⟨0,0,ByteArray.empty⟩⟩=k:=by
 have hi:i<params.length:=(List.getElem?_eq_some_iff.1 h).1;have:(i:Int)<(params.length:Int):=by omega
 simp[fF,kAt,rM,this,h]
theorem Ys (n:Nat) (hn:300<=n) (aG params:Wq0) (k:Int) (hk:kOK k=true) (l:Wq6) (c:aj) (hc:aZ c) (hl:l.length<=300) (ho:YS aG params k l) (z:aE):
  Ok (xh n k c z l) fun r=>aZ r.2/\fF aG params r.1=k:=by
 have hkr:=ov hk;unfold xh;rw[bS (by omega) (by omega)]
 refine Ok.bind (gB n c ((l.length:Int)+1) hc) fun r ⟨hr,r0,r1,_⟩=> ?_
 have r1:=r1 (by omega)
 refine Ok.ite (fun h=> ?_) fun h=> ?_
 ·simp at h;have hlt:r.1.toNat<l.length:=by omega
  have:bnd l.length r.1=some r.1.toNat:=by simp[bnd,r0,hlt]
  rw[this,Option.bind_some,Nat.zero_add,List.getElem?_eq_getElem hlt,Option.bind_some];exact Ok.pure ⟨hr,ho _ (List.getElem_mem _)⟩
 ·refine Ok.bind (Cg n (by omega) r.2 k hr hkr.1 hkr.2) fun x ⟨hx,kx,rx⟩=>Ok.pure ⟨hx,?_⟩
  simp[fF,rx,kx]
theorem w6 (n:Nat) (hn:300<=n) (aG params:Wq0) (k:Int) (hk:kOK k=true) (hp:params.length<=100) (z:aE):∀(xs:Wq0) (i m:Nat) (l:Wq6) (c:aj),params.drop i=xs->xs.length<m->aZ c->l.length+xs.length<=300->YS aG params k l->
  Ok (tO (xh n) m k params (params.length:Int) (i:Int) c z l) fun r=>aZ r.2/\fF aG params r.1=k
 | [],i,m+1,l,c,hd,hm,hc,hl,ho=>by
  have:params.length<=i:=by simpa using hd
  have hq:¬((i:Int)<(params.length:Int)):=by omega
  simp only[tO,CU,hq,decide_false,Bool.false_eq_true,if_false];exact Ys n hn aG params k hk l c hc (by simp at hl;omega) ho z
 |x::xs,i,m+1,l,c,hd,hm,hc,hl,ho=>by
  obtain ⟨g1,g2,g3⟩:=aX hd;have hq:((i:Int)<(params.length:Int)):=by omega
  simp only[tO,CU,hq,decide_true,if_true,aM,g1,Option.bind_some];simp at hm hl;refine Ok.ite (fun h=> ?_) fun h=> ?_
  ·simp at h;subst h;rw[cV _ _ (by simp;omega),Option.bind_some,bz g3 (by omega)]
   refine w6 n hn aG params x hk hp z xs (i+1) m _ c g2 (by omega) hc (by simp;omega) fun o hx=> ?_
   rcases List.mem_append.1 hx with hx|hx
   ·exact ho o hx
   ·simp at hx;subst hx;exact W3 g1
  ·rw[bz g3 (by omega)]
   exact w6 n hn aG params k hk hp z xs (i+1) m l c g2 (by omega) hc (by omega) ho
 |_,_,0,_,_,_,hm,_,_,_=>by simp at hm
theorem w8 (n:Nat) (hn:300<=n) (aG params:Wq0) (k:Int) (hk:kOK k=true) (hp:params.length<=100) (hcl:aG.length<=100) (z:aE):∀(xs:Wq0) (i m:Nat) (l:Wq6) (c:aj),aG.drop i=xs->xs.length<m->aZ c->l.length+xs.length<=100->YS aG params k l->
  Ok (tP (CT n) m params k aG (aG.length:Int) (i:Int) c z l) fun r=>aZ r.2/\fF aG params r.1=k
 | [],i,m+1,l,c,hd,hm,hc,hl,ho=>by
  have:aG.length<=i:=by simpa using hd
  have hq:¬((i:Int)<(aG.length:Int)):=by omega
  simp only[tP,CV,hq,decide_false,Bool.false_eq_true,if_false,CT];exact w6 n hn aG params k hk hp z params 0 n l c rfl (by omega) hc (by simp at hl;omega) ho
 |x::xs,i,m+1,l,c,hd,hm,hc,hl,ho=>by
  obtain ⟨g1,g2,g3⟩:=aX hd;have hq:((i:Int)<(aG.length:Int)):=by omega
  simp only[tP,CV,hq,decide_true,if_true,aM,g1,Option.bind_some];simp at hm hl;refine Ok.ite (fun h=> ?_) fun h=> ?_
  ·simp at h;subst h;rw[cV _ _ (by simp;omega),Option.bind_some,bz g3 (by omega)]
   refine w8 n hn aG params x hk hp hcl z xs (i+1) m _ c g2 (by omega) hc (by simp;omega) fun o hx=> ?_
   rcases List.mem_append.1 hx with hx|hx
   ·exact ho o hx
   ·simp at hx;subst hx;exact W4 g1
  ·rw[bz g3 (by omega)]
   exact w8 n hn aG params k hk hp hcl z xs (i+1) m l c g2 (by omega) hc (by omega) ho
 |_,_,0,_,_,_,hm,_,_,_=>by simp at hm
theorem Pw (n:Nat) (hn:300<=n) (c:aj) (aG params:Wq0) (k:Int) (hk:kOK k=true) (hc:aZ c) (hcl:aG.length<=100) (hp:params.length<=100):Ok (SB n c aG params k) fun r=>aZ r.2/\fF aG params r.1=k:=
 w8 n hn aG params k hk hp hcl _ aG 0 n [] c rfl (by omega) hc (by simp;omega) (fun o h=>by simp at h)
def nB:Nat->Nat
 |0=>1
 |d+1=>1+3*nB d
def sB:Nat->Nat
 |0=>2
 |d+1=>2+3*(1+sB d)
theorem agw (d:Nat):1<=nB d:=by cases d<;>simp[nB]
theorem agc (d:Nat):2<=sB d:=by cases d<;>simp[sB]
structure kJ (aG params:Wq0) (d:Nat) (r:an×aj):Prop where
 case:aZ r.2
 val:pV aG params r.1=true
 dp:dpP r.1<=d+1
 nd:ndP r.1<=nB d
 sz:szP r.1<=sB d
theorem KB {aG params:Wq0} {d:Nat} {op c:Int} {l r:aE} {x:aj} (hx:aZ x) (hv:pV aG params ⟨op,c,l,r,[]⟩=true):kJ aG params d (⟨op,c,l,r,[]⟩,x):=
 ⟨hx,hv,by simp[dpP,dpL],by simp[ndP,ndL];exact agw d,by simp[szP,szL];exact agc d⟩
def zo:aE:=⟨0,0,⟨0,0,ByteArray.empty⟩⟩
theorem zy:fZ 0 zo zo=true:=by decide
theorem MP (s:aj->Wq0->Wq0->Int->Option (an×aj)) (n:Nat) (aG params:Wq0) (d:Nat) (x:aj) (hx:aZ x) (c:Int) (l r:aE) (h1:1<=c) (h2:c<=6) (h3:fF aG params l≠0) (h4:fF aG params l=fF aG params r) (z:an):
  Ok (Cs s n x z ⟨3,c,l,r,[]⟩) (kJ aG params d):=by
 unfold Cs;refine Ok.bind (jj n x 6 hx) fun b hb=> ?_
 refine Ok.ite (fun _=>Ok.pure (KB hb ?_)) fun _=>Ok.pure (KB hb ?_)
 ·simp[pV,h1,h2,<-h4,h3]
 ·simp[pV,h1,h2,<-h4,h3]
theorem MO (s:aj->Wq0->Wq0->Int->Option (an×aj)) (n:Nat) (hn:300<=n) (aG params:Wq0) (hcl:aG.length<=100) (hp:params.length<=100) (d:Nat) (k:Int) (hk:kOK k=true) (x:aj) (hx:aZ x) (z:an):
  Ok (Cr s n aG params k x z) (kJ aG params d):=by
 have hkr:=ov hk;unfold Cr;refine Ok.bind (gB n x 6 hx) fun r ⟨hr,r0,r1,_⟩=> ?_
 have r1:=r1 (by omega)
 rw[bS (by omega) (by omega)]
 refine Ok.bind (Pw n hn r.2 aG params k hk hr hcl hp) fun l ⟨hl,kl⟩=> ?_
 refine Ok.bind (Cg n (by omega) l.2 k hl hkr.1 hkr.2) fun v ⟨hv,kv,rv⟩=> ?_
 refine Ok.bind (jj n v.2 3 hv) fun b hb=> ?_
 refine Ok.ite (fun _=> ?_) fun _=> ?_
 ·refine Ok.bind (Pw n hn b.2 aG params k hk hb hcl hp) fun o ⟨ho,ko⟩=> ?_
  exact MP s n aG params d o.2 ho _ _ _ (by omega) (by omega) (by omega) (by omega) _
 ·refine MP s n aG params d b.2 hb _ _ _ (by omega) (by omega) (by omega) ?_ _
  simp[fF,rv,kv] at kl ⊢;exact kl
theorem Mi (s:aj->Wq0->Wq0->Int->Option (an×aj)) (aG params:Wq0) (d:Nat) (hd:d<=1000)
  (hs:∀c,aZ c->Ok (s c aG params (d:Int)) (kJ aG params d)) (n0:Nat):∀(j n:Nat) (op:Int) (args:Wq8) (c:aj) (z:an) (a0:Wq8),aZ c->j<n->args.length+j<=3->pVs aG params args=true->dpL args<=d+1->ndL args<=args.length*nB d->szL args<=args.length*(1+sB d)->(op=4\/op=5)->
  Ok (yf s (G9 s n0) n aG params ((d+1:Nat):Int) ((j:Int)-1) c z ⟨op,0,zo,zo,a0⟩ args) (kJ aG params (d+1))
 |0,n+1,op,args,c,z,a0,hc,_,hj,h1,h2,h3,h4,hop=>by
  have:((0:Nat):Int)-1<0:=by omega
  simp only[yf,Ha,G9,this,decide_true,Bool.not_true,Bool.false_eq_true,if_false];have e3:args.length*nB d<=3*nB d:=Nat.mul_le_mul_right _ (by omega)
  have e4:args.length*(1+sB d)<=3*(1+sB d):=Nat.mul_le_mul_right _ (by omega)
  refine Ok.pure ⟨hc,?_,by simp only[dpP];omega,by simp only[ndP,nB];omega,by simp only[szP,sB];omega⟩
  rcases hop with rfl|rfl<;>simp[pV,zy,h1]
 |j+1,n+1,op,args,c,z,a0,hc,hn,hj,h1,h2,h3,h4,hop=>by
  have:¬(((j+1:Nat):Int)-1<0):=by omega
  simp only[yf,Ha,this,decide_false,Bool.not_false,if_true];have hw:w64 (((d+1:Nat):Int)-1)=(d:Int):=by rw[bS (by omega) (by omega)];omega
  have hw2:w64 (((j+1:Nat):Int)-1-1)=(j:Int)-1:=by rw[bS (by omega) (by omega)];omega
  rw[hw,hw2];refine Ok.bind (hs c hc) fun x hx=> ?_
  rw[cV _ _ (by simp;omega),Option.bind_some]
  have key:∀(l:Wq8) (y:an),pVs aG params (l++ [y])=(pVs aG params l&&pV aG params y)/\dpL (l++ [y])=max (dpL l) (dpP y)/\ndL (l++ [y])=ndL l+ndP y/\szL (l++ [y])=szL l+(1+szP y):=by
   intro l y;induction l with
   |nil=>simp[pVs,dpL,ndL,szL]
   |cons a l ih=>
    obtain ⟨i1,i2,i3,i4⟩:=ih;simp only[List.cons_append,pVs,dpL,ndL,szL,i1,i2,i3,i4];refine ⟨by rw[Bool.and_assoc],by omega,by omega,by omega⟩
  obtain ⟨k1,k2,k3,k4⟩:=key args x.1;refine Mi s aG params d hd hs n0 j n op _ x.2 _ _ hx.case (by omega) (by simp;omega) (by rw[k1,h1,hx.val];rfl) (by rw[k2];have:=hx.dp;omega) ?_ ?_ hop
  ·rw[k3,List.length_append];have:=hx.nd;simp only[List.length_cons,List.length_nil,Nat.add_mul];omega
  ·rw[k4,List.length_append];have:=hx.sz;simp only[List.length_cons,List.length_nil,Nat.add_mul];omega
 |_,0,_,_,_,_,_,_,hn,_,_,_,_,_,_=>by simp at hn
theorem kJ.up {aG params:Wq0} {r:an×aj} {d e:Nat} (h:kJ aG params d r) (hd:d<=e):kJ aG params e r:=by
 have hn:∀k,nB d<=nB (d+k):=by
  intro k;induction k with
  |zero=>simp
  |succ k ih=>rw[<-Nat.add_assoc];simp only[nB];omega
 have hs:∀k,sB d<=sB (d+k):=by
  intro k;induction k with
  |zero=>simp
  |succ k ih=>rw[<-Nat.add_assoc];simp only[sB];omega
 have e1:d+(e-d)=e:=by omega
 have a:=hn (e-d);have b:=hs (e-d);rw[e1] at a b;exact ⟨h.case,h.val,by have:=h.dp;omega,by have:=h.nd;omega,by have:=h.sz;omega⟩
theorem MB (aG params:Wq0) (hk:dY aG=true) (hcl:aG.length<=100) (hp:params.length<=100):∀(d n:Nat) (c:aj),aZ c->300+d<n->d<=100->Ok (F72 n c aG params (d:Int)) (kJ aG params d)
 |d,0,c,hc,hn,_=>by omega
 |d,n+1,c,hc,hn,hd=>by
  have leaf:∀(op:Int) (x:aj) (z:an),aZ x->Ok (pP (F72 n) n aG params (d:Int) op true x z) (kJ aG params d):=by
   intro op x z hx;unfold pP;simp only[if_true];refine Ok.ite (fun h=> ?_) fun h=> ?_
   ·simp at h;refine Ok.bind (gB n x (aG.length:Int) hx) fun r ⟨hr,r0,r1,_⟩=> ?_
    have r1:=r1 (by omega)
    have hlt:r.1.toNat<aG.length:=by omega
    have hid:idx aG r.1=some (aG[r.1.toNat]):=by simp[idx,r0,hlt]
    rw[hid,Option.bind_some];exact MO (F72 n) n (by omega) aG params hcl hp d _ (l4 hk (i:=r.1.toNat) (by simp[hlt])) r.2 hr _
   ·exact MO (F72 n) n (by omega) aG params hcl hp d 4 rfl x hx _
  have inner:∀(op:Int) (x:aj) (z:an),6<=op->op<=8->aZ x->Ok (pP (F72 n) n aG params (d:Int) op (decide ((d:Int)<1)) x z) (kJ aG params d):=by
   intro op x z o1 o2 hx;cases d with
   |zero=>simpa using leaf op x z hx
   |succ d=>
    have hnd:¬(((d+1:Nat):Int)<1):=by omega
    have hw:w64 (((d+1:Nat):Int)-1)=(d:Int):=by rw[bS (by omega) (by omega)];omega
    have ih:=fun c hc=>MB aG params hk hcl hp d n c hc (by omega) (by omega)
    unfold pP;simp only[hnd,decide_false,Bool.false_eq_true,if_false];refine Ok.ite (fun h6=> ?_) fun h6=> ?_
    ·rw[hw];refine Ok.bind (ih x hx) fun r hr=>Ok.pure ⟨hr.case,?_,?_,?_,?_⟩
     ·have:fZ 0 ⟨0,0,⟨0,0,ByteArray.empty⟩⟩ ⟨0,0,⟨0,0,ByteArray.empty⟩⟩=true:=zy;simp[pV,this,pVs,hr.val]
     ·simp only[dpP,dpL];have:=hr.dp;omega
     ·simp only[ndP,ndL,nB];have:=hr.nd;omega
     ·simp only[szP,szL,sB];have:=hr.sz;omega
    ·simp at h6;refine Ok.bind (gB n x 3 hx) fun r ⟨hr,r0,r1,_⟩=> ?_
     have r1:=r1 (by omega)
     rw[bS (x:=4+op) (by omega) (by omega),bS (by omega) (by omega)]
     have e:r.1=((r.1.toNat+1:Nat):Int)-1:=by omega
     rw[e];exact Mi (F72 n) aG params d (by omega) ih n (r.1.toNat+1) n (4+op-7) [] r.2 _ _ hr (by omega) (by simp;omega) rfl (by simp[dpL]) (by simp[ndL]) (by simp[szL]) (by omega)
  unfold F72 SW;refine Ok.bind (gB n c 9 hc) fun r ⟨hr,r0,r1,_⟩=> ?_
  have r1:=r1 (by omega)
  refine Ok.ite (fun h0=> ?_) fun h0=> ?_
  ·simp at h0;refine Ok.bind (jj n r.2 2 hr) fun b hb=> ?_
   refine Ok.ite (fun _=> ?_) fun _=> ?_
   ·refine Ok.bind (gB n b.2 2 hb) fun q ⟨hq,q0,q1,_⟩=> ?_
    have q1:=q1 (by omega)
    rw[bS (by omega) (by omega)]
    refine Ok.pure (KB hq ?_);have hz:fZ 0 ⟨0,0,⟨0,0,ByteArray.empty⟩⟩ ⟨0,0,⟨0,0,ByteArray.empty⟩⟩=true:=zy;have:q.1=0\/q.1=1:=by omega
    rcases this with e|e<;>simp[pV,e,hz]
   ·refine Ok.ite (fun _=>leaf _ _ _ hb) fun h6=> ?_
    simp at h6;omega
  ·refine Ok.ite (fun _=>leaf _ _ _ hr) fun h6=> ?_
   simp at h6;exact inner r.1 r.2 _ h6 (by omega) hr
theorem aih (aG params:Wq0) (hk:dY aG=true) (hk':dY params=true) (hcl:aG.length<=100) (hp:params.length<=100) (d n:Nat) (c:aj) (hc:aZ c) (hn:1000<=n) (hn':n<4294967296) (hd1:1<=d) (hd:d<=3):
  Ok (F31 n c aG params (d:Int)) fun r=>aZ r.2/\nj aG params r.1=0/\szP r.1<=119:=by
 unfold F31 Tm;refine Ok.bind (MB aG params hk hcl hp d n c hc (by omega) (by omega)) fun r hr=> ?_
 have hs:szP r.1<=119:=(hr.up hd).sz;rw[ahR n aG params r.1 (by omega) (by omega) (by omega) hn',Option.bind_some]
 refine Ok.ite (fun h2=> ?_) fun h2=> ?_
 ·refine Ok.bind (MB aG params hk hcl hp 1 n r.2 hr.case (by omega) (by omega)) fun q hq=>Ok.pure ⟨hq.case,?_,(hq.up (by omega:1<=3)).sz⟩
  have h1:=hq.nd;have h2:=hq.dp;have e1:¬24<ndP q.1:=by simp[nB] at h1;omega
  have e2:¬8<dpP q.1:=by omega
  simp[nj,hk,hk',e1,e2,hq.val]
 ·refine Ok.pure ⟨hr.case,?_,hs⟩;have:nj aG params r.1=2\/nj aG params r.1=0:=by
   unfold nj;cases decide (24<ndP r.1)||decide (8<dpP r.1)<;>simp[hk,hk',hr.val]
  simp at h2;exact this.resolve_left h2
def bg:Wq0->Wq2->Bool
 | [],[]=>true
 |k::ks,v::vs=>(fV v&&v.aw==k)&&bg ks vs
 |_,_=>false
theorem gR:∀{ks:Wq0} {vs:Wq2},bg ks vs=true->vs.length=ks.length
 | [],[],_=>rfl
 |k::ks,v::vs,h=>by simp[bg] at h;simp[gR h.2]
 | [],_::_,h=>by simp[bg] at h
 |_::_,[],h=>by simp[bg] at h
theorem vI:∀{ks:Wq0} {vs:Wq2} {k:Int} {v:aH},bg ks vs=true->v.aw=k->fV v=true->bg (ks++ [k]) (vs++ [v])=true
 | [],[],k,v,_,h1,h2=>by simp[bg,h1,h2]
 |k::ks,v::vs,_,_,h,h1,h2=>by
  simp[bg] at h;simp[bg,h.1,vI h.2 h1 h2]
 | [],_::_,_,_,h,_,_=>by simp[bg] at h
 |_::_,[],_,_,h,_,_=>by simp[bg] at h
theorem Ya (ks:Wq0) (hk:dY ks=true) (hl:ks.length<=100) (key:Int) (n0:Nat):∀(xs:Wq0) (i m:Nat) (out:Wq2) (c:aj),ks.drop i=xs->300+xs.length<m->aZ c->bg (ks.take i) out=true->
  Ok (lS (pR n0) m key 1 ks (ks.length:Int) (i:Int) c out) fun r=>aZ r.2/\bg ks r.1=true
 | [],i,m+1,out,c,hd,hm,hc,ho=>by
  have:ks.length<=i:=by simpa using hd
  have hq:¬((i:Int)<(ks.length:Int)):=by omega
  simp only[lS,yK,pR,hq,decide_false,Bool.false_eq_true,if_false];exact Ok.pure ⟨hc,by rwa[List.take_of_length_le this] at ho⟩
 |x::xs,i,m+1,out,c,hd,hm,hc,ho=>by
  obtain ⟨g1,g2,g3⟩:=aX hd;have hq:((i:Int)<(ks.length:Int)):=by omega
  have hx:=l4 hk g1;have hkr:=ov hx;have hlen:=gR ho;rw[List.length_take] at hlen;simp only[lS,yK,hq,decide_true,if_true,aM,g1,Option.bind_some];simp at hm;have cell:Ok (od (lT (lS (pR n0) m) m) m key 1 x ks (ks.length:Int) (i:Int) false c out) fun r=>aZ r.2/\bg ks r.1=true:=by
   unfold od lT;simp only[Bool.false_eq_true,if_false];refine Ok.bind (Cg m (by omega) c x hc hkr.1 hkr.2) fun r ⟨hr,r1,r2⟩=> ?_
   rw[cV _ _ (by simp;omega),Option.bind_some,bz g3 (by omega)]
   refine Ya ks hk hl key n0 xs (i+1) m _ _ g2 (by omega) hr ?_
   rw[List.take_succ,g1];exact vI ho r1 r2
  refine Ok.ite (fun _=> ?_) fun _=>cell
  exact cell
 |_,_,0,_,_,_,hm,_,_=>by simp at hm
theorem aif (n:Nat) (hn:1000<=n) (c:aj) (ks:Wq0) (key:Int) (hk:dY ks=true) (hl:ks.length<=100) (hc:aZ c):Ok (F33 n c ks key 1) fun r=>aZ r.2/\bg ks r.1=true:=
 Ya ks hk hl key n ks 0 n [] c rfl (by omega) hc rfl
section
theorem EE (x y:UInt8) (a b:List UInt8):Op.bytesLess (x::a) (y::b)=(decide (x<y)||(x==y&&Op.bytesLess a b)):=by simp[Op.bytesLess]
theorem sh:∀{a b:List UInt8},Op.bytesLess a b=true->Op.bytesLess b a=false
 | [],[],h=>by simp[Op.bytesLess] at h
 | [],_::_,_=>by simp[Op.bytesLess]
 |_::_,[],h=>by simp[Op.bytesLess] at h
 |x::a,y::b,h=>by
  rw[EE] at h ⊢;by_cases h1:x<y
  ·have h2:¬y<x:=fun h2=>UInt8.lt_irrefl x (UInt8.lt_trans h1 h2)
   have h3:¬y=x:=fun e=>by subst e;exact UInt8.lt_irrefl _ h1
   simp[h2,h3]
  ·by_cases h3:x=y
   ·subst h3;simp[UInt8.lt_irrefl] at h ⊢;exact sh h
   ·simp[h1,h3] at h
theorem sg:∀{a b:List UInt8},Op.bytesLess a b=false->a≠b->Op.bytesLess b a=true
 | [],[],_,h=>absurd rfl h
 | [],_::_,h,_=>by simp[Op.bytesLess] at h
 |_::_,[],_,_=>by simp[Op.bytesLess]
 |x::a,y::b,h,hne=>by
  rw[EE] at h ⊢;by_cases h1:x<y
  ·simp[h1] at h
  ·by_cases h2:y<x
   ·simp[h2]
   ·have:x=y:=UInt8.le_antisymm (UInt8.not_lt.1 h2) (UInt8.not_lt.1 h1);subst this;simp[UInt8.lt_irrefl] at h ⊢;exact sg h (fun e=>hne (by rw[e]))
theorem Yx (a b:aH):gu b a= - gu a b:=by
 unfold gu;by_cases h1:a.aw<b.aw
 ·have:¬b.aw<a.aw:=by omega
  simp[h1,this]
 ·by_cases h2:b.aw<a.aw
  ·simp[h1,h2]
  ·by_cases h3:a.bM<b.bM
   ·have:¬b.bM<a.bM:=by omega
    simp[h1,h2,h3,this]
   ·by_cases h4:b.bM<a.bM
    ·simp[h1,h2,h3,h4]
    ·cases h5:Op.bytesLess a.bt.toList b.bt.toList with
     |true=>
      have h6:=sh h5;have h7:¬b.bt=a.bt:=fun e=>by rw[e,iB] at h5;cases h5
      simp[h1,h2,h3,h4,h6,h7]
     |false=>
      by_cases h6:a.bt=b.bt
      ·simp[h1,h2,h3,h4,h6,iB]
      ·have h7:Op.bytesLess b.bt.toList a.bt.toList=true:=sg h5 (fun e=>h6 (oU (by rw[mz,mz] at e;exact e)))
       simp[h1,h2,h3,h4,h6,h7]
theorem PJ (a b:aH):gu a b= -1\/gu a b=0\/gu a b=1:=by
 unfold gu;repeat' split
 all_goals simp
def bL:Wq2->Wq2->Int
 | [],[]=>0
 | [],_::_=> -1
 |_::_,[]=>1
 |a::x,b::y=>if gu a b=0 then bL x y else gu a b
theorem ua:∀(x y:Wq2),bL y x= - bL x y
 | [],[]=>rfl
 | [],_::_=>rfl
 |_::_,[]=>rfl
 |a::x,b::y=>by
  have h:=Yx a b;simp only[bL];rw[ua x y,h];by_cases h1:gu a b=0
  ·simp[h1]
  ·have:¬ -gu a b=0:=by omega
   simp[h1,this]
theorem pb:∀(x y:Wq2),bL x y= -1\/bL x y=0\/bL x y=1
 | [],[]=>by simp[bL]
 | [],_::_=>by simp[bL]
 |_::_,[]=>by simp[bL]
 |a::x,b::y=>by
  simp only[bL];split
  ·exact pb x y
  ·exact PJ a b
theorem jb (x:Wq2):bL x x=0:=by have:=ua x x;omega
theorem Yc (n0:Nat) (a b:Wq2) (ha:a.length<4294967296):∀(x:Wq2) (i m:Nat),a.drop i=x->i<=a.length->i<=b.length->x.length<m->yu (CB n0) m a b (i:Int)=some (bL (a.drop i) (b.drop i))
 | [],i,m+1,hd,h1,h2,hm=>by
  have hl:a.length<=i:=by simpa using hd
  have hq:¬((i:Int)<(a.length:Int)):=by omega
  simp only[yu,HN,CB,hq,decide_false,Bool.false_eq_true,if_false];rw[hd];cases hb:b.drop i with
  |nil=>
   have:b.length<=i:=by simpa using hb
   have e1:¬(a.length:Int)<b.length:=by omega
   have e2:¬(b.length:Int)<a.length:=by omega
   simp[e1,e2,bL]
  |cons y l=>
   obtain ⟨_,_,g3⟩:=aX hb;have e1:(a.length:Int)<b.length:=by omega
   simp[e1,bL]
 |x::xs,i,m+1,hd,h1,h2,hm=>by
  obtain ⟨g1,g2,g3⟩:=aX hd;have hq:(i:Int)<(a.length:Int):=by omega
  simp only[yu,HN,hq,decide_true,if_true];cases hb:b.drop i with
  |nil=>
   have hl:b.length<=i:=by simpa using hb
   have e0:¬(i:Int)<b.length:=by omega
   have e1:¬(a.length:Int)<b.length:=by omega
   have e2:(b.length:Int)<a.length:=by omega
   simp[e0,e1,e2,CB,hd,bL]
  |cons y l=>
   obtain ⟨k1,k2,k3⟩:=aX hb;have e0:(i:Int)<b.length:=by omega
   simp only[e0,decide_true,if_true,aM,g1,k1,Option.bind_some,ahV];rw[hd,bz g3 ha];simp only[bL];by_cases h:gu x y=0
   ·simp only[h,bne_self_eq_false,Bool.false_eq_true,if_false,if_true];rw[Yc n0 a b ha xs (i+1) m g2 (by omega) (by omega) (by simp at hm;omega),g2,k2]
   ·have:(gu x y !=0)=true:=by simpa using h
    simp only[this,h,if_true,if_false]
 |_,_,0,_,_,_,hm=>by simp at hm
theorem Ck (n:Nat) (a b:Wq2) (ha:a.length<4294967296) (hn:a.length<n):F22 n a b=some (bL a b):=by
 have:=Yc n a b ha a 0 n rfl (by omega) (by omega) hn
 simp only[List.drop_zero] at this;exact this
theorem X3 (n0:Nat) (a b:Wq2) (ha:a.length<4294967296):∀(x:Wq2) (i m:Nat),a.drop i=x->i<=a.length->i<=b.length->x.length<m->u6 (Cn n0) m a b a (a.length:Int) (i:Int)=some (bL (a.drop i) (b.drop i))
 | [],i,m+1,hd,h1,h2,hm=>by
  have hl:a.length<=i:=by simpa using hd
  have hq:¬((i:Int)<(a.length:Int)):=by omega
  simp only[u6,GV,Cn,hq,decide_false,Bool.false_eq_true,if_false];rw[hd];cases hb:b.drop i with
  |nil=>
   have:b.length<=i:=by simpa using hb
   have e1:¬(a.length:Int)<b.length:=by omega
   simp[e1,bL]
  |cons y l=>
   obtain ⟨_,_,g3⟩:=aX hb;have e1:(a.length:Int)<b.length:=by omega
   simp[e1,bL]
 |x::xs,i,m+1,hd,h1,h2,hm=>by
  obtain ⟨g1,g2,g3⟩:=aX hd;have hq:(i:Int)<(a.length:Int):=by omega
  simp only[u6,GV,hq,decide_true,if_true,aM,g1,Option.bind_some];cases hb:b.drop i with
  |nil=>
   have hl:b.length<=i:=by simpa using hb
   have e0:¬(i:Int)<b.length:=by omega
   simp[e0,hd,bL]
  |cons y l=>
   obtain ⟨k1,k2,k3⟩:=aX hb;have e0:(i:Int)<b.length:=by omega
   simp only[e0,decide_true,Bool.not_true,Bool.false_eq_true,if_false,k1,Option.bind_some,ahM];rw[hd,bz g3 ha];simp only[bL];by_cases h:gu x y=0
   ·simp only[h,bne_self_eq_false,Bool.false_eq_true,if_false,if_true];rw[X3 n0 a b ha xs (i+1) m g2 (by omega) (by omega) (by simp at hm;omega),g2,k2]
   ·have:(gu x y !=0)=true:=by simpa using h
    simp only[this,h,if_true,if_false]
 |_,_,0,_,_,_,hm=>by simp at hm
theorem lC (n:Nat) (a b:Wq2) (ha:a.length<4294967296) (hn:a.length<n):F52 n a b=some (bL a b):=by
 have:=X3 n a b ha a 0 n rfl (by omega) (by omega) hn
 simp only[List.drop_zero] at this;show (u6 (Cn n) n a b a (a.length:Int) 0).bind (fun x=>some x)=_
 rw[show (0:Int)=((0:Nat):Int) from rfl,this];rfl
def gS (t:Int) (a:Wq2) (u:Int) (b:Wq2):Int:=if t=u then bL a b else if t<u then -1 else 1
theorem aaA (t:Int) (a:Wq2) (u:Int) (b:Wq2):gS u b t a= - gS t a u b:=by
 unfold gS;by_cases h:t=u
 ·subst h;simp[ua a b]
 ·have h':¬u=t:=fun e=>h e.symm
  by_cases h2:t<u
  ·have:¬u<t:=by omega
   simp[h,h',h2,this]
  ·have:u<t:=by omega
   simp[h,h',h2,this]
theorem R9 (t:Int) (a:Wq2) (u:Int) (b:Wq2):gS t a u b= -1\/gS t a u b=0\/gS t a u b=1:=by
 unfold gS;split
 ·exact pb a b
 ·split<;>simp
theorem aid (n:Nat) (t u:Int) (a b:Wq2) (ha:a.length<4294967296) (hn:a.length<n):F36 n t a u b=some (gS t a u b):=by
 unfold F36 Ti gS;rw[Ck n a b ha hn];by_cases h:t=u
 ·simp[h]
 ·have:(t !=u)=true:=by simpa using h
  by_cases h2:t<u<;>simp[h,h2]
theorem ahZ (n:Nat) (a b:az) (ha:a.au.length<4294967296) (hn:a.au.length<n):F42 n a b=some (gS a.aq a.au b.aq b.au):=by
 unfold F42 Tb gS;rw[lC n a.au b.au ha hn];by_cases h:a.aq=b.aq
 ·simp[h]
 ·by_cases h2:a.aq<b.aq<;>simp[h,h2]
def aW (T:ay):Wq0:=T.ak.map (·.aw)
theorem mK {α:Type} {xs:List α} {i:Int} {x:α} (h:idx xs i=some x):0<=i/\i.toNat<xs.length/\xs[i.toNat]? =some x:=by
 unfold idx at h;split at h
 ·exact ⟨by assumption,(List.getElem?_eq_some_iff.1 h).1,h⟩
 ·cases h
theorem Yb (n0:Nat) (cs:Wq4) (hl:cs.length<=1000):∀(x:Wq4) (i m:Nat) (out:Wq0),cs.drop i=x->x.length<m->out=(cs.take i).map (·.aw)->yp (HD n0) m cs (cs.length:Int) (i:Int) out=some (cs.map (·.aw))
 | [],i,m+1,out,hd,hm,ho=>by
  have hl:cs.length<=i:=by simpa using hd
  have hq:¬((i:Int)<(cs.length:Int)):=by omega
  simp only[yp,HE,HD,hq,decide_false,Bool.false_eq_true,if_false];rw[ho,List.take_of_length_le hl]
 |x::xs,i,m+1,out,hd,hm,ho=>by
  obtain ⟨g1,g2,g3⟩:=aX hd;have hq:(i:Int)<(cs.length:Int):=by omega
  simp only[yp,HE,hq,decide_true,if_true,aM,g1,Option.bind_some];rw[cV _ _ (by rw[ho];simp;omega),Option.bind_some,bz g3 (by omega)]
  refine Yb n0 cs hl xs (i+1) m _ g2 (by simp at hm;omega) ?_
  rw[ho,List.take_succ,g1];simp
 |_,_,0,_,_,hm,_=>by simp at hm
theorem X4 (n0:Nat) (cs:Wq4) (hl:cs.length<=1000):∀(x:Wq4) (i m:Nat) (out:Wq0),cs.drop i=x->x.length<m->out=(cs.take i).map (·.aw)->yb (GX n0) m cs (cs.length:Int) (i:Int) out=some (cs.map (·.aw))
 | [],i,m+1,out,hd,hm,ho=>by
  have hl:cs.length<=i:=by simpa using hd
  have hq:¬((i:Int)<(cs.length:Int)):=by omega
  simp only[yb,GY,GX,hq,decide_false,Bool.false_eq_true,if_false];rw[ho,List.take_of_length_le hl]
 |x::xs,i,m+1,out,hd,hm,ho=>by
  obtain ⟨g1,g2,g3⟩:=aX hd;have hq:(i:Int)<(cs.length:Int):=by omega
  simp only[yb,GY,hq,decide_true,if_true,aM,g1,Option.bind_some];rw[cV _ _ (by rw[ho];simp;omega),Option.bind_some,bz g3 (by omega)]
  refine X4 n0 cs hl xs (i+1) m _ g2 (by simp at hm;omega) ?_
  rw[ho,List.take_succ,g1];simp
 |_,_,0,_,_,hm,_=>by simp at hm
section
variable {s:af} {t:Int} {T:ay} {n:Nat}
theorem O9 {α:Type} {xs:List α} {i:Int} (h0:0<=i) (h:¬i<(xs.length:Int)):idx xs i=none:=by
 unfold idx;rw[if_pos h0,List.getElem?_eq_none (by omega)]
theorem w9 (hT:idx s.ag t=some T):F81 n s t=some true:=by
 obtain ⟨h0,h1,_⟩:=mK hT;have e1:¬t<0:=by omega
 have e2:t<(s.ag.length:Int):=by omega
 simp[F81,SM,e1,e2]
theorem MD (hT:idx s.ag t=some T) (hl:T.ak.length<=1000) (hn:1000<n):F32 n s t=some (aW T):=by
 obtain ⟨h0,h1,_⟩:=mK hT;have e1:¬t<0:=by omega
 have e2:t<(s.ag.length:Int):=by omega
 simp only[F32,Tl,e1,e2,decide_false,decide_true,Bool.not_true,Bool.false_eq_true,if_false,hT,Option.bind_some];exact Yb n T.ak hl T.ak 0 n [] rfl (by omega) rfl
theorem MA (hT:idx s.ag t=some T) (hl:T.ak.length<=1000) (hn:1000<n):F78 n s t=some (aW T):=by
 simp only[F78,SQ,w9 hT,Option.bind_some,Bool.not_true,Bool.false_eq_true,if_false,hT];have:kg (T.ak.length:Int) (0:Int)=some (List.replicate T.ak.length 0):=by simp[kg];omega
 rw[this,Option.bind_some];exact X4 n T.ak hl T.ak 0 n [] rfl (by omega) rfl
structure bZ (T:ay):Prop where
 gx:1<=T.au
 cr:T.au<=(T.ak.length:Int)
 aG:T.ak.length<=8
 ks:dY (aW T)=true
def v9 (T:ay):Wq0:=(aW T).take T.au.toNat
theorem cR (T:ay):(aW T).length=T.ak.length:=by simp[aW]
theorem aib (hT:idx s.ag t=some T) (ht:bZ T) (hn:1000<n):F40 n s t=some (v9 T):=by
 have:=ht.aG;have h1:=ht.gx;have h2:=ht.cr;have hl:=cR T;have e1:¬T.au<0:=by omega
 have e2:¬((aW T).length:Int)<T.au:=by omega
 simp only[F40,Td,MA hT (by omega) hn,w9 hT,Option.bind_some,Bool.not_true,Bool.false_eq_true,if_false,hT,e1,e2,decide_false]
 have:gA (aW T).length T.au=some T.au.toNat:=by unfold gA;rw[if_pos (by omega)]
 rw[this,Option.bind_some];rfl
theorem wP {α:Type} {xs:List α} {k:Int} (h0:0<=k) (h:k.toNat<=xs.length):cut xs none (some k)=some (xs.take k.toNat):=by
 obtain ⟨m,rfl⟩:∃m:Nat,k=m:=⟨k.toNat,by omega⟩
 simp at h;simp[cut,h]
theorem Ci (r:Wq2) (h:r.length<=1000000):F54 n r=some r:=by
 simp only[F54,S9];rw[cV _ _ (by simpa using h)]
 rfl
theorem Cj (hT:idx s.ag t=some T) (ht:bZ T) (r:Wq2) (hr:r.length=T.ak.length):F34 n s t r=some (r.take T.au.toNat):=by
 obtain ⟨h0,h1,_⟩:=mK hT;have:=ht.aG;have k1:=ht.gx;have k2:=ht.cr;have e1:¬t<0:=by omega
 have e2:t<(s.ag.length:Int):=by omega
 have e3:¬(r.length:Int)<T.au:=by omega
 have e4:0<T.au:=by omega
 simp only[F34,Tk,e1,e2,decide_false,decide_true,Bool.not_true,Bool.false_eq_true,if_false,hT,Option.bind_some,e3,e4,if_true];rw[wP (by omega) (by omega),Option.bind_some,Ci _ (by simp;omega)]
 rfl
theorem ahN (hT:idx s.ag t=some T) (ht:bZ T) (r:Wq2) (hr:r.length=T.ak.length):F82 n s t r=some (r.take T.au.toNat):=by
 have:=ht.aG;have k1:=ht.gx;have k2:=ht.cr;have e3:¬(r.length:Int)<T.au:=by omega
 have e4:¬T.au<0:=by omega
 simp only[F82,SL,w9 hT,Option.bind_some,Bool.not_true,Bool.false_eq_true,if_false,hT,e3,e4,decide_false];rw[wP (by omega) (by omega),Option.bind_some,cV _ _ (by simp;omega),Option.bind_some]
 rfl
end
theorem X9 (n0:Nat) (ks:Wq0) (r:Wq2) (hr:r.length=ks.length) (hl:r.length<4294967296):∀(x:Wq2) (i m:Nat),r.drop i=x->i<=r.length->x.length<m->ym (Hu n0) m ks r (r.length:Int) (i:Int)=some (bg (ks.drop i) (r.drop i))
 | [],i,m+1,hd,h1,hm=>by
  have hq':r.length<=i:=by simpa using hd
  have hq:¬((i:Int)<(r.length:Int)):=by omega
  simp only[ym,Hv,Hu,hq,decide_false,Bool.false_eq_true,if_false];rw[hd,List.drop_of_length_le (by omega)]
  rfl
 |x::xs,i,m+1,hd,h1,hm=>by
  obtain ⟨g1,g2,g3⟩:=aX hd;have hq:(i:Int)<(r.length:Int):=by omega
  obtain ⟨k,ks',hk⟩:∃k ks',ks.drop i=k::ks':=by
   rw[List.drop_eq_getElem_cons (by omega)]
   exact ⟨_,_,rfl⟩
  obtain ⟨k1,k2,k3⟩:=aX hk;simp only[ym,Hv,hq,decide_true,if_true,aM,g1,k1,Option.bind_some,Yi];rw[hd,hk,bz g3 hl];simp only[bg];cases hv:fV x with
  |false=>simp
  |true=>
   by_cases he:x.aw=k
   ·simp only[he,bne_self_eq_false,Bool.not_true,Bool.false_eq_true,if_false,beq_self_eq_true,Bool.true_and];rw[X9 n0 ks r hr hl xs (i+1) m g2 (by omega) (by simp at hm;omega),g2,k2]
   ·simp[he]
 |_,_,0,_,_,hm=>by simp at hm
theorem Ow {ks:Wq0} {r:Wq2} (h:¬r.length=ks.length):bg ks r=false:=by
 cases hr:bg ks r with
 |false=>rfl
 |true=>exact absurd (gR hr) h
theorem Yj (n:Nat) (r:Wq2) (ks:Wq0) (hl:ks.length<n) (hk:ks.length<4294967296):F39 n r ks=some (bg ks r):=by
 unfold F39 Te;by_cases h:r.length=ks.length
 ·have e:((r.length:Int) !=(ks.length:Int))=false:=by simp[h]
  rw[e];simp only[Bool.false_eq_true,if_false];have:=X9 n ks r h (by omega) r 0 n rfl (by omega) (by omega)
  simpa using this
 ·have e:((r.length:Int) !=(ks.length:Int))=true:=by simp;omega
  rw[e,Ow h];rfl
theorem zN {v:aH} {k:Int} (hk:kOK k=true) (h:v.aw=k):fV v=fa v:=by
 have:=ov hk;have:3<=v.aw:=by omega
 simp[fV,this]
theorem vZ {l:Wq0} (h:dY l=true) (i:Nat):dY (l.drop i)=true:=by
 unfold dY at h ⊢;rw[List.all_eq_true] at h ⊢;exact fun x hx=>h x (List.mem_of_mem_drop hx)
section
variable {s:af} {t:Int} {T:ay} {n:Nat}
theorem KF (ht:bZ T):(v9 T).length=T.au.toNat:=by
 have h1:=ht.gx;have h2:=ht.cr;simp[v9,cR];omega
end
end
section
theorem Bo {T:ay} {i:Nat} {c:iS} (h:T.ak[i]? =some c):(aW T)[i]? =some c.aw:=by simp[aW,h]
theorem y8 {T:ay} {i:Nat} {c:iS} (h:T.ak[i]? =some c):(aW T).drop i=c.aw::(aW T).drop (i+1):=by
 have h1:i<(aW T).length:=by rw[cR];exact (List.getElem?_eq_some_iff.1 h).1
 have h2:=Bo h;rw[List.drop_eq_getElem_cons h1];rw[List.getElem?_eq_getElem h1] at h2;rw[Option.some.inj h2]
theorem X6 (n0:Nat) (T:ay) (ht:dY (aW T)=true) (r:Wq2) (hr:r.length=T.ak.length) (hl:r.length<4294967296):∀(x:Wq2) (i m:Nat),r.drop i=x->i<=r.length->x.length<m->lR (pQ n0) m 1 r (r.length:Int) (i:Int) T=some (bg ((aW T).drop i) (r.drop i))
 | [],i,m+1,hd,h1,hm=>by
  have hq':r.length<=i:=by simpa using hd
  have hq:¬((i:Int)<(r.length:Int)):=by omega
  simp only[lR,yG,pQ,hq,decide_false,Bool.false_eq_true,if_false];rw[hd,List.drop_of_length_le (by rw[cR];omega)]
  rfl
 |x::xs,i,m+1,hd,h1,hm=>by
  obtain ⟨g1,g2,g3⟩:=aX hd;have hq:(i:Int)<(r.length:Int):=by omega
  have hlt:i<T.ak.length:=by omega
  have hc:T.ak[i]? =some T.ak[i]:=List.getElem?_eq_getElem hlt;have hk:=y8 hc;have hkk:=l4 ht (Bo hc);generalize T.ak[i]=c at hc hk hkk;have key:su (lR (pQ n0) m) m 1 (i:Int) false r (r.length:Int) (i:Int) T x=if x.aw=c.aw then lR (pQ n0) m 1 r (r.length:Int) (w64 ((i:Int)+1)) T else some false:=by
   unfold su yH;simp only[aM,hc,Option.bind_some];by_cases he:x.aw=c.aw
   ·simp[he]
   ·simp[he]
  simp only[lR,yG,hq,decide_true,if_true,aM,g1,Option.bind_some,EO];rw[hd,hk];simp only[bg];by_cases he:x.aw=c.aw
  ·rw[zN hkk he];cases hv:fa x with
   |false=>simp
   |true=>
    have ih:=X6 n0 T ht r hr hl xs (i+1) m g2 (by omega) (by simp at hm;omega)
    rw[g2] at ih;simp only[Bool.not_true,Bool.false_eq_true,if_false,bne_self_eq_false,key,he,if_true,bz g3 hl,ih];simp
  ·cases hv:fa x with
   |false=>simp[he]
   |true=>
    simp only[Bool.not_true,Bool.false_eq_true,if_false,bne_self_eq_false,key,he];simp[he]
 |_,_,0,_,_,hm=>by simp at hm
section
variable {s:af} {t:Int} {T:ay} {n:Nat}
theorem MC (hT:idx s.ag t=some T) (ht:bZ T) (r:Wq2) (hn:1000<n):F70 n s t r 1=some (bg (aW T) r):=by
 have hc:=ht.aG;have hl:=cR T;simp only[F70,Hb,ss,bne_self_eq_false,Bool.false_eq_true,if_false,w9 hT,Option.bind_some,Bool.not_true,hT];by_cases h:r.length=T.ak.length
 ·have e:((r.length:Int) !=(T.ak.length:Int))=false:=by simp[h]
  rw[e];simp only[Bool.false_eq_true,if_false];have:=X6 n T ht.ks r h (by omega) r 0 n rfl (by omega) (by omega)
  simp only[List.drop_zero] at this;exact this
 ·have e:((r.length:Int) !=(T.ak.length:Int))=true:=by simp;omega
  rw[e,Ow (by omega)]
  rfl
end
section
variable {s:af} {t:Int} {T:ay} {n:Nat}
end
def dL (ks:Wq0):Int->Wq0->Option Wq0
 |_,[]=>some []
 |last,c::cs=>if last<c/\c<(ks.length:Int) then (dL ks c cs).map (fun l=>(ks[c.toNat]?).getD 0::l) else none
theorem X8 (n0:Nat) (hn0:1000<n0) (ks:Wq0) (hk:ks.length<=8) (w:az) (hl:w.ak.length<4294967296):∀(x:Wq0) (i m:Nat) (last:Int) (acc:Wq0),w.ak.drop i=x->x.length<m-> -1<=last->last<8->(acc.length:Int)<=last+1->
  yl (Hr n0) m last w.ak (w.ak.length:Int) (i:Int) w ks acc=some (match dL ks last x with|some l=>bg (acc++l) w.aR|none=>false)
 | [],i,m+1,last,acc,hd,hm,h1,h2,h3=>by
  have hq':w.ak.length<=i:=by simpa using hd
  have hq:¬((i:Int)<(w.ak.length:Int)):=by omega
  simp only[yl,Ht,Hr,hq,decide_false,Bool.false_eq_true,if_false,dL,List.append_nil];rw[Yj n0 w.aR acc (by omega) (by omega)]
  rfl
 |c::cs,i,m+1,last,acc,hd,hm,h1,h2,h3=>by
  obtain ⟨g1,g2,g3⟩:=aX hd;have hq:(i:Int)<(w.ak.length:Int):=by omega
  simp only[yl,Ht,hq,decide_true,if_true,aM,g1,Option.bind_some,dL];by_cases h4:last<c
  ·by_cases h5:c<(ks.length:Int)
   ·have hb:bnd ks.length c=some c.toNat:=by unfold bnd;rw[if_pos (by omega)]
    have hg:ks[c.toNat]? =some (ks[c.toNat]'(by omega)):=List.getElem?_eq_getElem _
    simp only[h4,h5,decide_true,Bool.not_true,Bool.false_eq_true,if_false,hb,Option.bind_some,Nat.zero_add,hg,and_self,if_true,Option.getD_some];rw[cV _ _ (by simp;omega),Option.bind_some,bz g3 hl,X8 n0 hn0 ks hk w hl cs (i+1) m c _ g2 (by simp at hm;omega) (by omega) (by omega) (by simp;omega)]
    cases dL ks c cs with
    |none=>rfl
    |some l=>simp
   ·simp[h4,h5]
  ·simp[h4]
 |_,_,0,_,_,_,hm,_,_,_=>by simp at hm
theorem uR {ks:Wq0} (hk:dY ks=true):∀{last:Int} {cs l:Wq0}, -1<=last->dL ks last cs=some l->l.length=cs.length/\∀(i:Nat) (c:Int),cs[i]? =some c->0<=c/\c.toNat<ks.length/\l[i]? =ks[c.toNat]? /\∀k,l[i]? =some k->kOK k=true
 |last,[],l,_,h=>by simp[dL] at h;subst h;exact ⟨rfl,fun i c hc=>by simp at hc⟩
 |last,c::cs,l,h1,h=>by
  simp only[dL] at h;split at h
  ·rename_i hc;cases h2:dL ks c cs with
   |none=>rw[h2] at h;cases h
   |some l'=>
    rw[h2] at h;simp at h;subst h;obtain ⟨e1,e2⟩:=uR hk (by omega) h2
    refine ⟨by simp[e1],fun i d hd=> ?_⟩
    cases i with
    |zero=>
     simp at hd;subst hd;have hg:ks[c.toNat]? =some (ks[c.toNat]'(by omega)):=List.getElem?_eq_getElem _
     refine ⟨by omega,by omega,by simp[hg],fun k hk'=> ?_⟩
     simp[hg] at hk';exact l4 hk (hg.trans (by rw[hk']))
    |succ i=>simpa using e2 i d (by simpa using hd)
  ·cases h
def gM (T:ay) (w:az):Bool:=
 if w.fOp=1 then w.ak.isEmpty&&(bg (aW T) w.aR&&bL (w.aR.take T.au.toNat) w.au==0)
 else if w.fOp=2 then (match dL (aW T) (T.au-1) w.ak with|some l=>bg l w.aR|none=>false)
 else w.ak.isEmpty&&w.aR.isEmpty
def wOK (T:ay) (w:az):Bool:=bg (v9 T) w.au&&gM T w
section
variable {s:af} {T:ay} {n:Nat}
theorem D6 {α:Type} (l:List α):((l.length:Int)==0)=l.isEmpty:=by cases l<;>simp;omega
theorem aia (w:az) (hT:idx s.ag w.aq=some T) (ht:bZ T) (hn:2000000<=n) (hl:w.ak.length<=1500000):F41 n s w=some (gM T w):=by
 have hc:=ht.aG;have k1:=ht.gx;have k2:=ht.cr;have hkl:=cR T;unfold F41 Tc gM;by_cases h1:w.fOp=1
 ·simp only[h1,beq_self_eq_true,if_true,D6,MC hT ht w.aR (by omega:1000<n),Option.bind_some]
  cases w.ak.isEmpty with
  |false=>simp
  |true=>
   simp only[if_true,Bool.true_and];cases hr:bg (aW T) w.aR with
   |false=>simp
   |true=>
    have hlen:=gR hr;simp only[if_true,ahN (n:=n) hT ht w.aR (by omega),Option.bind_some]
    rw[lC n _ _ (by simp;omega) (by simp;omega)]
    simp
 ·have e1:(w.fOp==1)=false:=by simpa using h1
  simp only[e1,Bool.false_eq_true,if_false,h1];by_cases h2:w.fOp=2
  ·simp only[h2,beq_self_eq_true,if_true,MA hT (by omega) (by omega:1000<n),Option.bind_some,hT]
   rw[bS (by omega) (by omega)]
   have:=X8 n (by omega) (aW T) (by omega) w (by omega) w.ak 0 n (T.au-1) [] rfl (by omega) (by omega) (by omega) (by simp;omega)
   simpa using this
  ·have e2:(w.fOp==2)=false:=by simpa using h2
   simp only[e2,Bool.false_eq_true,if_false,h2,D6];cases w.ak.isEmpty<;>simp
end
end
structure SOK (s:af):Prop where
 len:s.ag.length<=8
 tab:∀t T,idx s.ag t=some T->bZ T
def pc:Option az->az->Bool
 |none,_=>false
 |some p,w=> !decide (gS p.aq p.au w.aq w.au<0)
def fC (s:af):Option az->Wq3->Int
 |_,[]=>0
 |prev,w::ws=>
  match idx s.ag w.aq with
  |none=>1
  |some T=>if w.fOp<1\/3<w.fOp then 1 else if (!wOK T w)=true then 270 else if pc prev w=true then 270 else fC s (some w) ws
def wB (w:az):Prop:=w.ak.length<=1500000/\w.au.length<=1500000
theorem Ye (n0:Nat) (s:af) (hs:SOK s) (ws:Wq3) (hl:ws.length<4294967296) (hb:∀w∈ws,wB w):∀(x:Wq3) (i m:Nat),ws.drop i=x->x.length+2000000<m->yy (HW n0) m ws ws (ws.length:Int) (i:Int) s=some (fC s (if i=0 then none else ws[i-1]?) x)
 | [],i,m+1,hd,hm=>by
  have hq':ws.length<=i:=by simpa using hd
  have hq:¬((i:Int)<(ws.length:Int)):=by omega
  simp only[yy,HX,HW,hq,decide_false,Bool.false_eq_true,if_false];simp[fC]
 |w::x,i,m+1,hd,hm=>by
  obtain ⟨g1,g2,g3⟩:=aX hd;have hq:(i:Int)<(ws.length:Int):=by omega
  have hbw:=hb w (List.mem_of_getElem? g1);simp at hm;have ih:=Ye n0 s hs ws hl hb x (i+1) m g2 (by omega)
  rw[if_neg (by omega),show i+1-1=i by omega,g1] at ih
  simp only[yy,HX,hq,decide_true,if_true,aM,g1,Option.bind_some,bz g3 hl,ih,fC];by_cases h1:w.fOp<1
  ·have hor:w.fOp<1\/3<w.fOp:=.inl h1;cases hT:idx s.ag w.aq<;>simp[h1]
  ·by_cases h2:3<w.fOp
   ·cases hT:idx s.ag w.aq<;>simp[h1,h2]
   ·simp only[h1,h2,decide_false,Bool.false_eq_true,if_false,or_self];by_cases h3:w.aq<0
    ·have:idx s.ag w.aq=none:=by unfold idx;rw[if_neg (by omega)]
     simp[h3,this]
    ·by_cases h4:w.aq<(s.ag.length:Int)
     ·obtain ⟨T,hT⟩:∃T,idx s.ag w.aq=some T:=by
       unfold idx;rw[if_pos (by omega),List.getElem?_eq_getElem (by omega)];exact ⟨_,rfl⟩
      have ht:=hs.tab _ _ hT;have hc:=ht.aG;have hkl:=KF ht;have k2:=ht.cr;simp only[h3,h4,decide_false,decide_true,Bool.not_true,Bool.false_eq_true,if_false,hT,aib hT ht (by omega:1000<m),Option.bind_some,Yj m w.au (v9 T) (by omega) (by omega),aia w hT ht (by omega:2000000<=m) hbw.1,wOK]
      rcases Bool.eq_false_or_eq_true (bg (v9 T) w.au) with hv|hv
      rotate_left
      ·simp[hv]
      ·rcases Bool.eq_false_or_eq_true (gM T w) with hf|hf
       rotate_left
       ·simp[hv,hf]
       ·simp only[hv,hf,Bool.not_true,Bool.false_eq_true,if_false,Bool.and_self];by_cases h0:i=0
        ·subst h0;simp[pc]
        ·have h0':0<(i:Int):=by omega
         have hw:w64 ((i:Int)-1)=((i-1:Nat):Int):=by rw[bS (by omega) (by omega)];omega
         have hg:ws[i-1]? =some (ws[i-1]'(by omega)):=List.getElem?_eq_getElem _
         have hbp:=hb _ (List.mem_of_getElem? hg);generalize ws[i-1]=p at hg hbp;simp only[h0',decide_true,if_true,hw,aM,hg,Option.bind_some,h0,if_false,ahZ m p w (by have:=hbp.2;omega) (by have:=hbp.2;omega),pc]
         by_cases h5:gS p.aq p.au w.aq w.au<0
         ·simp[h5]
         ·simp[h5]
     ·have:idx s.ag w.aq=none:=O9 (by omega) h4
      simp[h3,h4,this]
 |_,_,0,_,hm=>by simp at hm
def mB (s:af) (e:Int) (ws:Wq3):Int:=if e=0 then (if 64<ws.length then 2 else fC s none ws) else e
theorem Ym (n:Nat) (s:af) (e:Int) (he:F38 n s=some e) (hs:e=0->SOK s) (ws:Wq3) (hb:∀w∈ws,wB w) (hn:2000100<=n):F12 n s ws=some (mB s e ws):=by
 unfold F12 Ty mB;rw[he,Option.bind_some];by_cases h0:e=0
 ·subst h0;simp only[bne_self_eq_false,Bool.false_eq_true,if_false,if_true];by_cases h1:64<ws.length
  ·have h1':(64:Int)<(ws.length:Int):=by omega
   simp only[h1,h1',decide_true,if_true]
  ·have h1':¬(64:Int)<(ws.length:Int):=by omega
   simp only[h1,h1',decide_false,Bool.false_eq_true,if_false];have:=Ye n s (hs rfl) ws (by omega) hb ws 0 n rfl (by omega)
   rw[if_pos rfl] at this;exact this
 ·have:(e !=0)=true:=by simpa using h0
  simp[this,h0]
def nmL (b:UInt8):Bool:=decide (97<=b.toNat)&&decide (b.toNat<=122)
def nmC (b:UInt8):Bool:=nmL b||((decide (48<=b.toNat)&&decide (b.toNat<=57))||decide (b.toNat=95))
def Qz:List UInt8->Bool
 | []=>false
 |b::l=>nmL b&&l.all nmC
def xx (s:ByteArray):Bool:=decide (s.size<=32)&&Qz s.data.toList
theorem B3 (s:ByteArray):s.data.toList.length=s.size:=by simp
theorem agK {s:ByteArray} {p:Nat} {b:UInt8} (h:s.data.toList[p]? =some b):∃hp:p<s.size,s[p]'hp=b:=by
 have h1:=(List.getElem?_eq_some_iff.1 h);obtain ⟨q1,q2⟩:=h1;have hp:p<s.size:=by simpa using q1
 have q3:s.data[p]=b:=by simpa using q2
 exact ⟨hp,q3⟩
theorem FQ (k:ByteArray->Nat->Option Bool) (m:Nat) (s:ByteArray) (p:Nat) (q:Nat) (c:Int) (l:Bool):xg k m (p:Int) c l s q=if l=true then k s q else if p=0 then some false else if c=95\/(48<=c/\c<=57) then k s q else some false:=by
 unfold xg;cases l with
 |true=>simp
 |false=>
  by_cases hp:p=0
  ·simp[hp]
  ·have hp':¬(p:Int)=0:=by omega
   by_cases h1:c=95
   ·simp[hp,h1]
   ·by_cases h2:c<48
    ·have:¬48<=c:=by omega
     simp[hp,h1,h2,this]
    ·by_cases h3:57<c
     ·have:¬c<=57:=by omega
      simp[hp,h1,h2,h3,this]
     ·have h2':48<=c:=by omega
      have h3':c<=57:=by omega
      simp[hp,h1,h2,h3,h2',h3']
theorem FN (n0:Nat) (m:Nat) (s:ByteArray) (p:Nat) (b:UInt8) (hb:s.data.toList[p]? =some b):m6 (rz n0) (m+1) s p=if nmL b=true then m6 (rz n0) m s (p+1) else if p=0 then some false else if nmC b=true then m6 (rz n0) m s (p+1) else some false:=by
 obtain ⟨hp,he⟩:=agK hb;simp only[m6,CK,hp,decide_true,if_true];rw[FQ,FQ];by_cases ha:b.toNat<128
 ·have hd:=decode_ascii s p hp (by rw[he];exact ha)
  rw[he] at hd;rw[hd];simp only[nmL,nmC];by_cases h1:97<=b.toNat
  ·have h1':¬((b.toNat:Int)<97):=by omega
   by_cases h2:b.toNat<=122
   ·have h2':¬(122<(b.toNat:Int)):=by omega
    simp[h1,h1',h2,h2']
   ·have h2':(122<(b.toNat:Int)):=by omega
    have e1:¬(b.toNat:Int)=95:=by omega
    have e2:¬(b.toNat:Int)<=57:=by omega
    have e3:¬b.toNat<=57:=by omega
    have e4:¬b.toNat=95:=by omega
    simp[h1,h1',h2,h2',e1,e2,e3,e4]
  ·have h1':((b.toNat:Int)<97):=by omega
   by_cases e1:b.toNat=95
   ·simp[h1,h1',e1]
   ·have e1':¬(b.toNat:Int)=95:=by omega
    by_cases e2:48<=b.toNat
    ·have e2':48<=(b.toNat:Int):=by omega
     by_cases e3:b.toNat<=57
     ·have e3':(b.toNat:Int)<=57:=by omega
      simp[h1,h1',e1,e1',e2,e2',e3,e3']
     ·have e3':¬(b.toNat:Int)<=57:=by omega
      simp[h1,h1',e1,e1',e2,e2',e3,e3']
    ·have e2':¬48<=(b.toNat:Int):=by omega
     simp[h1,h1',e1,e1',e2,e2']
 ·have hd:=(decode_high s p hp (by rw[he];omega)).1
  generalize (Utf8.decode s p)=d at hd;obtain ⟨c,q⟩:=d;simp only at hd;have a1:¬((c:Int)<97):=by omega
  have a2:122<(c:Int):=by omega
  have a3:¬((c:Int)=95\/(48<=(c:Int)/\(c:Int)<=57)):=by omega
  have b1:nmL b=false:=by simp[nmL];omega
  have b2:nmC b=false:=by simp[nmC,b1];omega
  simp[a1,a2,a3,b1,b2]
theorem Pm (n0:Nat) (s:ByteArray):∀(x:List UInt8) (p m:Nat),s.data.toList.drop p=x->0<p->x.length<m->m6 (rz n0) m s p=some (x.all nmC)
 | [],p,m+1,hd,hp,hm=>by
  have:s.data.toList.length<=p:=by simpa using hd
  have hq:¬p<s.size:=by rw[B3] at this;omega
  simp only[m6,CK,rz,hq,decide_false,Bool.false_eq_true,if_false];rfl
 |b::x,p,m+1,hd,hp,hm=>by
  obtain ⟨g1,g2,g3⟩:=aX hd;have ih:=Pm n0 s x (p+1) m g2 (by omega) (by simp at hm;omega)
  rw[FN n0 m s p b g1,if_neg (by omega:¬p=0),ih]
  simp only[List.all_cons];have:nmL b=true->nmC b=true:=fun h=>by simp[nmC,h]
  cases hl:nmL b with
  |true=>simp[this hl]
  |false=>cases hc:nmC b<;>simp
 |_,_,0,_,_,hm=>by simp at hm
theorem Pr (n:Nat) (s:ByteArray) (hn:100<n):MH n s=some (xx s):=by
 unfold MH M8 xx;by_cases h0:s.size=0
 ·have:s.data.toList= []:=by
   have:=B3 s;exact List.eq_nil_of_length_eq_zero (by omega)
  simp[h0,this,Qz]
 ·have e1:¬(s.size:Int)<1:=by omega
  by_cases h1:s.size<=32
  ·have e2:¬32<(s.size:Int):=by omega
   simp only[e1,e2,decide_false,Bool.false_eq_true,if_false,h1,decide_true,Bool.true_and];obtain ⟨m,rfl⟩:∃m,n=m+1:=⟨n-1,by omega⟩
   cases hx:s.data.toList with
   |nil=>have:=B3 s;rw[hx] at this;simp at this;omega
   |cons b l=>
    have hl:l.length<32:=by have:=B3 s;rw[hx] at this;simp at this;omega
    rw[FN (m+1) m s 0 b (by rw[hx];rfl)]
    simp only[if_true,Qz];cases hb:nmL b with
    |false=>simp
    |true=>
     simp only[if_true,Bool.true_and];exact Pm (m+1) s l 1 m (by rw[hx];rfl) (by omega) (by omega)
  ·have e2:32<(s.size:Int):=by omega
   simp only[e1,e2,decide_false,decide_true,Bool.false_eq_true,if_false,if_true,h1,Bool.false_and]
theorem Bg {β:Type} (d:β) (k:ByteArray) (v:β) (x:ByteArray):∀m:List (ByteArray×β),ga (gw m k v) x d=if x=k then v else ga m x d
 | []=>by simp[gw,ga]
 |p::m=>by
  simp only[gw];by_cases h:k=p.1
  ·simp only[h,if_true,ga];by_cases h2:x=p.1
   ·simp[h2]
   ·simp[h2]
  ·simp only[h,if_false,ga];by_cases h2:x=p.1
   ·have:¬x=k:=fun e=>h (e.symm.trans h2)
    simp[h2];intro e;exact absurd e.symm h
   ·simp only[h2,if_false];exact Bg d k v x m
def lZ (x:ByteArray):List ByteArray->Bool
 | []=>false
 |y::l=>decide (x=y)||lZ x l
theorem Kv (x:ByteArray):∀(a b:List ByteArray),lZ x (a++b)=(lZ x a||lZ x b)
 | [],b=>by simp[lZ]
 |y::a,b=>by simp[lZ,Kv x a b,Bool.or_assoc]
def se:List ByteArray->Wq4->Bool
 |_,[]=>true
 |seen,c::cs=>xx c.cJ&&(!lZ c.cJ seen&&(kOK c.aw&&se (seen++ [c.cJ]) cs))
def PR (seen:List ByteArray) (T:ay):Bool:=xx T.cJ&&(!lZ T.cJ seen&&(decide (1<=T.au)&&(decide (T.au<=(T.ak.length:Int))&&se [] T.ak)))
def lE:List ByteArray->Wq1->Bool
 |_,[]=>true
 |seen,T::Ts=>PR seen T&&lE (seen++ [T.cJ]) Ts
def AO (m:List (ByteArray×Bool)) (seen:List ByteArray):Prop:=∀x,ga m x false=lZ x seen
theorem AO.put {m:List (ByteArray×Bool)} {seen:List ByteArray} (h:AO m seen) (k:ByteArray):AO (gw m k true) (seen++ [k]):=fun x=>by
 rw[Bg,h x,Kv];by_cases hx:x=k
 ·simp[hx,lZ]
 ·simp[hx,lZ]
theorem Mh (k:Wq1->Int->Int->ByteArray->Int->Int->Wq4->Int->List (ByteArray×Bool)->ay->Option Bool) (cs:Wq4) (hl:cs.length<=8) (a1:Wq1) (a2 a3:Int) (a4:ByteArray) (a5 a6:Int) (a7:Wq4) (a8:Int) (a9:List (ByteArray×Bool)) (T:ay):∀(x:Wq4) (i m:Nat) (mp:List (ByteArray×Bool)) (seen:List ByteArray),cs.drop i=x->x.length+200<m->AO mp seen->
  yd k m a1 a2 a3 a4 a5 a6 a7 a8 cs (cs.length:Int) (i:Int) a9 mp T=if se seen x=true then k a1 a2 a3 a4 a5 a6 a7 a8 a9 T else some false
 | [],i,m+1,mp,seen,hd,hm,hs=>by
  have:cs.length<=i:=by simpa using hd
  have hq:¬((i:Int)<(cs.length:Int)):=by omega
  simp only[yd,G6,hq,decide_false,Bool.false_eq_true,if_false,se,if_true]
 |c::x,i,m+1,mp,seen,hd,hm,hs=>by
  obtain ⟨g1,g2,g3⟩:=aX hd;have hq:(i:Int)<(cs.length:Int):=by omega
  simp at hm;have ih:=Mh k cs hl a1 a2 a3 a4 a5 a6 a7 a8 a9 T x (i+1) m _ _ g2 (by omega) (hs.put c.cJ)
  simp only[yd,G6,hq,decide_true,if_true,aM,g1,Option.bind_some,Pr m c.cJ (by omega),hs c.cJ,bz g3 (by omega),ih,se]
  rcases Bool.eq_false_or_eq_true (xx c.cJ) with hv|hv<;>rcases Bool.eq_false_or_eq_true (lZ c.cJ seen) with h2|h2<;>by_cases h3:c.aw=3<;>by_cases h4:c.aw=4<;>by_cases h5:c.aw=5<;>simp[hv,h2,h3,h4,h5,kOK]
 |_,_,0,_,_,_,hm,_=>by simp at hm
theorem Mg (n0:Nat) (ts:Wq1) (hl:ts.length<=8) (hc:∀T∈ts,T.ak.length<=8):∀(x:Wq1) (i m:Nat) (mp:List (ByteArray×Bool)) (seen:List ByteArray),ts.drop i=x->x.length+1000<m->AO mp seen->
  vd (Cq n0) m ts (ts.length:Int) (i:Int) mp=some (lE seen x)
 | [],i,m+1,mp,seen,hd,hm,hs=>by
  have:ts.length<=i:=by simpa using hd
  have hq:¬((i:Int)<(ts.length:Int)):=by omega
  simp only[vd,G4,Cq,hq,decide_false,Bool.false_eq_true,if_false,lE]
 |T::x,i,m+1,mp,seen,hd,hm,hs=>by
  obtain ⟨g1,g2,g3⟩:=aX hd;have hq:(i:Int)<(ts.length:Int):=by omega
  simp at hm;have hT:=hc T (List.mem_of_getElem? g1);have ih:=Mg n0 ts hl hc x (i+1) m _ _ g2 (by omega) (hs.put T.cJ)
  have hcol:=Mh (G5 (vd (Cq n0) m) m) T.ak hT ts (ts.length:Int) (i:Int) T.cJ T.au T.au T.ak (T.ak.length:Int) (gw mp T.cJ true) T T.ak 0 m [] [] rfl (by omega) (fun x=>by simp[ga,lZ])
  rw[show ((0:Nat):Int)=0 from rfl] at hcol;simp only[vd,G4,hq,decide_true,if_true,aM,g1,Option.bind_some,Pr m T.cJ (by omega),hs T.cJ,hcol,G5,bz g3 (by omega),ih,lE,PR]
  have q1:decide (T.au<1)= !decide (1<=T.au):=by rw[<-decide_not];exact decide_eq_decide.2 (by omega)
  have q2:decide ((T.ak.length:Int)<T.au)= !decide (T.au<=(T.ak.length:Int)):=by rw[<-decide_not];exact decide_eq_decide.2 (by omega)
  rw[q1,q2];rcases Bool.eq_false_or_eq_true (xx T.cJ) with hv|hv<;>rcases Bool.eq_false_or_eq_true (lZ T.cJ seen) with h2|h2<;>rcases Bool.eq_false_or_eq_true (decide (1<=T.au)) with h3|h3<;>rcases Bool.eq_false_or_eq_true (decide (T.au<=(T.ak.length:Int))) with h4|h4<;>rcases Bool.eq_false_or_eq_true (se [] T.ak) with h5|h5<;>simp only[hv,h2,h3,h4,h5,Bool.not_true,Bool.not_false,Bool.false_eq_true,if_false,if_true,Bool.true_and,Bool.false_and]
 |_,_,0,_,_,_,hm,_=>by simp at hm
theorem ahQ (n:Nat) (s:af) (hl:s.ag.length<=8) (hc:∀T∈s.ag,T.ak.length<=8) (hn:2000<n):F76 n s=some (lE [] s.ag):=
 Mg n s.ag hl hc s.ag 0 n [] [] rfl (by omega) (fun x=>by simp[ga,lZ])
theorem LM:∀{cs:Wq4} {seen:List ByteArray},se seen cs=true->dY (cs.map (·.aw))=true
 | [],_,_=>rfl
 |c::cs,seen,h=>by
  simp only[se,Bool.and_eq_true] at h;simp only[List.map_cons,dY,List.all_cons,Bool.and_eq_true];exact ⟨h.2.2.1,LM h.2.2.2⟩
theorem ael {seen:List ByteArray} {T:ay} (hc:T.ak.length<=8) (h:PR seen T=true):bZ T:=by
 simp only[PR,Bool.and_eq_true,decide_eq_true_eq] at h;exact ⟨h.2.2.1,h.2.2.2.1,hc,LM h.2.2.2.2⟩
theorem Ij:∀{ts:Wq1} {seen:List ByteArray},(∀T∈ts,T.ak.length<=8)->lE seen ts=true->∀T∈ts,bZ T
 | [],_,_,_,T,hT=>by simp at hT
 |G::ts,seen,hc,h,T,hT=>by
  simp only[lE,Bool.and_eq_true] at h;rcases List.mem_cons.1 hT with rfl|hT
  ·exact ael (hc _ (by simp)) h.1
  ·exact Ij (fun T hT=>hc T (by simp[hT])) h.2 T hT
def p9 (tc:Wq4):Wq4->Wq0->Bool
 |_,[]=>true
 | [],_::_=>false
 |g::gs,c::cs=>match idx tc c with|none=>false|some x=>x.aw==g.aw&&p9 tc gs cs
def refB (s:af) (T:ay) (r:bU):Bool:=match idx s.ag r.aq with|none=>false|some G=>((r.ak.length:Int)==G.au)&&p9 T.ak G.ak r.ak
def xp (s:af) (T:ay):Wq7->Bool
 | []=>true
 |r::rs=>refB s T r&&xp s T rs
def allRefs (s:af):Wq1->Bool
 | []=>true
 |T::ts=>xp s T T.cf&&allRefs s ts
theorem Fp {α:Type} (xs:List α) (i:Int):(i<0/\idx xs i=none)\/(¬i<0/\¬i<(xs.length:Int)/\idx xs i=none)\/(¬i<0/\i<(xs.length:Int)/\∃x,idx xs i=some x):=by
 by_cases h:i<0
 ·exact .inl ⟨h,by unfold idx;rw[if_neg (by omega)]⟩
 ·by_cases h2:i<(xs.length:Int)
  ·refine .inr (.inr ⟨h,h2,xs[i.toNat]'(by omega),?_⟩)
   unfold idx;rw[if_pos (by omega),List.getElem?_eq_getElem (by omega)]
  ·exact .inr (.inl ⟨h,h2,O9 (by omega) h2⟩)
theorem Mf (k:Wq1->Int->Int->Wq7->Int->Int->Int->Wq1->Int->af->ay->bU->Option Bool) (T G:ay) (cs:Wq0) (hc:cs.length<=G.ak.length) (hg:G.ak.length<=8) (a1:Wq1) (a2 a3:Int) (a4:Wq7) (a5 a6 a7:Int) (a8:Wq1) (a9:Int) (s:af) (r:bU):∀(x:Wq0) (i m:Nat),cs.drop i=x->x.length<m->
  yc k m a1 a2 a3 a4 a5 a6 a7 a8 a9 cs (cs.length:Int) (i:Int) s T G r=if p9 T.ak (G.ak.drop i) x=true then k a1 a2 a3 a4 a5 a6 a7 a8 a9 s T r else some false
 | [],i,m+1,hd,hm=>by
  have:cs.length<=i:=by simpa using hd
  have hq:¬((i:Int)<(cs.length:Int)):=by omega
  simp only[yc,G3,hq,decide_false,Bool.false_eq_true,if_false,p9,if_true]
 |c::x,i,m+1,hd,hm=>by
  obtain ⟨g1,g2,g3⟩:=aX hd;have hq:(i:Int)<(cs.length:Int):=by omega
  have hlt:i<G.ak.length:=by omega
  have hgi:G.ak[i]? =some G.ak[i]:=List.getElem?_eq_getElem hlt;have hdr:G.ak.drop i=G.ak[i]::G.ak.drop (i+1):=List.drop_eq_getElem_cons hlt;generalize G.ak[i]=g at hgi hdr;have ih:=Mf k T G cs hc hg a1 a2 a3 a4 a5 a6 a7 a8 a9 s r x (i+1) m g2 (by simp at hm;omega)
  simp only[yc,G3,hq,decide_true,if_true,aM,g1,hgi,Option.bind_some,bz g3 (by omega),ih]
  rw[hdr];simp only[p9];rcases Fp T.ak c with ⟨h1,h2⟩|⟨h1,h3,h2⟩|⟨h1,h3,y,h2⟩
  ·simp only[h1,h2,decide_true,if_true,Bool.false_eq_true,if_false]
  ·simp only[h1,h2,h3,decide_false,Bool.not_false,if_true,Bool.false_eq_true,if_false]
  ·simp only[h1,h2,h3,decide_false,decide_true,Bool.not_true,Bool.false_eq_true,if_false,Option.bind_some];by_cases h4:y.aw=g.aw
   ·simp[h4]
   ·simp[h4]
 |_,_,0,_,hm=>by simp at hm
theorem Me (k:Wq1->Int->Int->af->Option Bool) (s:af) (hs:∀t G,idx s.ag t=some G->bZ G) (T:ay) (rs:Wq7) (hl:rs.length<=8) (a1:Wq1) (a2 a3:Int):∀(x:Wq7) (i m:Nat),rs.drop i=x->x.length+100<m->
  vb k m a1 a2 a3 rs (rs.length:Int) (i:Int) s T=if xp s T x=true then k a1 a2 a3 s else some false
 | [],i,m+1,hd,hm=>by
  have:rs.length<=i:=by simpa using hd
  have hq:¬((i:Int)<(rs.length:Int)):=by omega
  simp only[vb,G1,hq,decide_false,Bool.false_eq_true,if_false,xp,if_true]
 |r::x,i,m+1,hd,hm=>by
  obtain ⟨g1,g2,g3⟩:=aX hd;have hq:(i:Int)<(rs.length:Int):=by omega
  simp at hm;have ih:=Me k s hs T rs hl a1 a2 a3 x (i+1) m g2 (by omega)
  simp only[vb,G1,hq,decide_true,if_true,aM,g1,Option.bind_some,xp,refB];rcases Fp s.ag r.aq with ⟨h1,h2⟩|⟨h1,h3,h2⟩|⟨h1,h3,G,h2⟩
  ·simp only[h1,h2,decide_true,if_true,Bool.false_and,Bool.false_eq_true,if_false]
  ·simp only[h1,h2,h3,decide_false,Bool.not_false,if_true,Bool.false_and,Bool.false_eq_true,if_false]
  ·have hG:=hs _ _ h2;have k2:=hG.cr;have k3:=hG.aG;simp only[h1,h2,h3,decide_false,decide_true,Bool.not_true,Bool.false_eq_true,if_false,Option.bind_some];by_cases h4:(r.ak.length:Int)=G.au
   ·have e:((r.ak.length:Int) !=G.au)=false:=by simp[h4]
    have e':((r.ak.length:Int)==G.au)=true:=by simp[h4]
    have hin:=Mf (G2 (vb k m) m) T G r.ak (by omega) k3 a1 a2 a3 rs (rs.length:Int) (i:Int) r.aq s.ag (s.ag.length:Int) s r r.ak 0 m rfl (by omega)
    rw[show ((0:Nat):Int)=0 from rfl,List.drop_zero] at hin;simp only[e,e',Bool.false_eq_true,if_false,hin,G2,bz g3 (by omega),ih,Bool.true_and]
    rcases Bool.eq_false_or_eq_true (p9 T.ak G.ak r.ak) with hv|hv<;>simp only[hv,if_true,Bool.true_and,Bool.false_and,Bool.false_eq_true,if_false]
   ·have e:((r.ak.length:Int) !=G.au)=true:=by simpa using h4
    have e':((r.ak.length:Int)==G.au)=false:=by simpa using h4
    simp only[e,e',if_true,Bool.false_and,Bool.false_eq_true,if_false]
 |_,_,0,_,hm=>by simp at hm
theorem Mc (n0:Nat) (s:af) (hs:∀t G,idx s.ag t=some G->bZ G) (ts:Wq1) (hl:ts.length<=8) (hr:∀T∈ts,T.cf.length<=4):∀(x:Wq1) (i m:Nat),ts.drop i=x->x.length+200<m->
  u9 (Co n0) m ts (ts.length:Int) (i:Int) s=some (allRefs s x)
 | [],i,m+1,hd,hm=>by
  have:ts.length<=i:=by simpa using hd
  have hq:¬((i:Int)<(ts.length:Int)):=by omega
  simp only[u9,GZ,Co,hq,decide_false,Bool.false_eq_true,if_false,allRefs]
 |T::x,i,m+1,hd,hm=>by
  obtain ⟨g1,g2,g3⟩:=aX hd;have hq:(i:Int)<(ts.length:Int):=by omega
  simp at hm;have hT:=hr T (List.mem_of_getElem? g1);have ih:=Mc n0 s hs ts hl hr x (i+1) m g2 (by omega)
  have hin:=Me (G0 (u9 (Co n0) m) m) s hs T T.cf (by omega) ts (ts.length:Int) (i:Int) T.cf 0 m rfl (by omega)
  rw[show ((0:Nat):Int)=0 from rfl] at hin;simp only[u9,GZ,hq,decide_true,if_true,aM,g1,Option.bind_some,hin,G0,bz g3 (by omega),ih,allRefs]
  rcases Bool.eq_false_or_eq_true (xp s T T.cf) with hv|hv<;>simp only[hv,if_true,Bool.true_and,Bool.false_and,Bool.false_eq_true,if_false]
 |_,_,0,_,hm=>by simp at hm
theorem ahP (n:Nat) (s:af) (hs:∀t G,idx s.ag t=some G->bZ G) (hl:s.ag.length<=8) (hr:∀T∈s.ag,T.cf.length<=4) (hn:1000<n):F77 n s=some (allRefs s s.ag):=
 Mc n s hs s.ag hl hr s.ag 0 n rfl (by omega)
def q9 (ks:Wq0):Wq8->Int
 | []=>0
 |p::ps=>if nj ks [] p=0 then q9 ks ps else nj ks [] p
def Ae:Wq1->Int
 | []=>0
 |T::ts=>if q9 (aW T) T.dS=0 then Ae ts else q9 (aW T) T.dS
theorem Mn (k:Wq1->Int->Int->af->Option Int) (ks:Wq0) (hk:ks.length<=8) (s:af) (ps:Wq8) (hl:ps.length<=4) (hp:∀p∈ps,szP p<=1500000) (a1:Wq1) (a2 a3:Int):∀(x:Wq8) (i m:Nat),ps.drop i=x->x.length+1500000<m->m<4294967296->
  yn k m ks a1 a2 a3 ps (ps.length:Int) (i:Int) s=if q9 ks x=0 then k a1 a2 a3 s else some (q9 ks x)
 | [],i,m+1,hd,hm,hm'=>by
  have:ps.length<=i:=by simpa using hd
  have hq:¬((i:Int)<(ps.length:Int)):=by omega
  simp only[yn,Hz,hq,decide_false,Bool.false_eq_true,if_false,q9,if_true]
 |p::x,i,m+1,hd,hm,hm'=>by
  obtain ⟨g1,g2,g3⟩:=aX hd;have hq:(i:Int)<(ps.length:Int):=by omega
  simp at hm;have ih:=Mn k ks hk s ps hl hp a1 a2 a3 x (i+1) m g2 (by omega) (by omega)
  have hpp:=hp p (List.mem_of_getElem? g1);simp only[yn,Hz,hq,decide_true,if_true,aM,g1,Option.bind_some,ahO m ks [] p (by omega) (by simp;omega) (by omega) (by omega),bz g3 (by omega),ih,q9]
  by_cases h:nj ks [] p=0
  ·simp only[h,bne_self_eq_false,Bool.false_eq_true,if_false,if_true]
  ·have:(nj ks [] p !=0)=true:=by simpa using h
   simp only[h,this,if_true,if_false]
 |_,_,0,_,hm,_=>by simp at hm
def sI (T:ay):Bool:=decide (T.ak.length<=8)&&(decide (T.cf.length<=4)&&decide (T.dS.length<=4))
theorem uk {T:ay} (h:sI T=true):T.ak.length<=8/\T.cf.length<=4/\T.dS.length<=4:=by simpa[sI] using h
def szT (T:ay):Prop:=∀p∈T.dS,szP p<=1500000
theorem Mm (n0:Nat) (s:af) (hl:s.ag.length<=8) (hb:∀T∈s.ag,sI T=true) (hz:∀T∈s.ag,szT T):∀(x:Wq1) (i m:Nat),s.ag.drop i=x->x.length+1500010<m->m<4294967296->
  ve (Cz n0) m s.ag (s.ag.length:Int) (i:Int) s=some (Ae x)
 | [],i,m+1,hd,hm,hm'=>by
  have:s.ag.length<=i:=by simpa using hd
  have hq:¬((i:Int)<(s.ag.length:Int)):=by omega
  simp only[ve,Hx,Cz,hq,decide_false,Bool.false_eq_true,if_false,Ae]
 |T::x,i,m+1,hd,hm,hm'=>by
  obtain ⟨g1,g2,g3⟩:=aX hd;have hq:(i:Int)<(s.ag.length:Int):=by omega
  simp at hm;have jV:=List.mem_of_getElem? g1;obtain ⟨b1,b2,b3⟩:=uk (hb T jV);have hT:idx s.ag (i:Int)=some T:=by rw[aM];exact g1
  have hkl:=cR T;have ih:=Mm n0 s hl hb hz x (i+1) m g2 (by omega) (by omega)
  have hin:=Mn (Hy (ve (Cz n0) m) m) (aW T) (by omega) s T.dS b3 (hz T jV) s.ag (s.ag.length:Int) (i:Int) T.dS 0 m rfl (by omega) (by omega)
  rw[show ((0:Nat):Int)=0 from rfl] at hin;simp only[ve,Hx,hq,decide_true,if_true,hT,Option.bind_some,MA hT (by omega) (by omega:1000<m),hin,Hy,bz g3 (by omega),ih,Ae]
  by_cases h:q9 (aW T) T.dS=0
  ·simp only[h,if_true]
  ·simp only[h,if_false]
 |_,_,0,_,hm,_=>by simp at hm
theorem Mo (k:af->Option Int) (s:af) (ts:Wq1) (hl:ts.length<=8):∀(x:Wq1) (i m:Nat),ts.drop i=x->x.length<m->yo k m ts (ts.length:Int) (i:Int) s=if x.all sI=true then k s else some 2
 | [],i,m+1,hd,hm=>by
  have:ts.length<=i:=by simpa using hd
  have hq:¬((i:Int)<(ts.length:Int)):=by omega
  simp only[yo,HA,hq,decide_false,Bool.false_eq_true,if_false,List.all_nil,if_true]
 |T::x,i,m+1,hd,hm=>by
  obtain ⟨g1,g2,g3⟩:=aX hd;have hq:(i:Int)<(ts.length:Int):=by omega
  have ih:=Mo k s ts hl x (i+1) m g2 (by simp at hm;omega)
  simp only[yo,HA,hq,decide_true,if_true,aM,g1,Option.bind_some,bz g3 (by omega),ih,List.all_cons,sI]
  by_cases h1:T.ak.length<=8
  ·have e1:¬(8:Int)<(T.ak.length:Int):=by omega
   by_cases h2:T.cf.length<=4
   ·have e2:¬(4:Int)<(T.cf.length:Int):=by omega
    by_cases h3:T.dS.length<=4
    ·have e3:¬(4:Int)<(T.dS.length:Int):=by omega
     simp only[h1,h2,h3,e1,e2,e3,decide_true,decide_false,Bool.false_eq_true,if_false,Bool.and_self,Bool.true_and]
    ·have e3:(4:Int)<(T.dS.length:Int):=by omega
     simp only[h1,h2,h3,e1,e2,e3,decide_true,decide_false,Bool.false_eq_true,if_false,if_true,Bool.and_false,Bool.false_and]
   ·have e2:(4:Int)<(T.cf.length:Int):=by omega
    simp only[h1,h2,e1,e2,decide_true,decide_false,Bool.false_eq_true,if_false,if_true,Bool.and_false,Bool.false_and]
  ·have e1:(8:Int)<(T.ak.length:Int):=by omega
   simp only[h1,e1,decide_true,decide_false,Bool.false_eq_true,if_false,if_true,Bool.false_and]
 |_,_,0,_,hm=>by simp at hm
def DA (s:af):Int:=
 if 8<s.ag.length then 2
 else if s.ag.all sI=true then
  (if s.bQ<0 then 70 else if 1000<s.bQ then 70
   else if lE [] s.ag=true then (if allRefs s s.ag=true then Ae s.ag else 70) else 70)
 else 2
theorem N1 {s:af} (hb:∀T∈s.ag,sI T=true) (h:lE [] s.ag=true):∀t G,idx s.ag t=some G->bZ G:=fun t G hG=>
 Ij (fun T hT=>(uk (hb T hT)).1) h G (List.mem_of_getElem? (mK hG).2.2)
theorem YI {s:af} (h:DA s=0):SOK s:=by
 unfold DA at h;split at h
 ·cases h
 ·rename_i h8;split at h
  ·rename_i hb;rw[List.all_eq_true] at hb;split at h
   ·cases h
   ·split at h
    ·cases h
    ·split at h
     ·rename_i ht;exact ⟨by omega,N1 hb ht⟩
     ·cases h
  ·cases h
theorem aic (n:Nat) (s:af) (hz:∀T∈s.ag,szT T) (hn:1600000<n) (hn':n<4294967296):F38 n s=some (DA s):=by
 unfold F38 Tg DA;by_cases h8:8<s.ag.length
 ·have:(8:Int)<(s.ag.length:Int):=by omega
  simp only[h8,this,decide_true,if_true]
 ·have h8':¬(8:Int)<(s.ag.length:Int):=by omega
  have h0:=Mo (Hw n) s s.ag (by omega) s.ag 0 n rfl (by omega)
  rw[show ((0:Nat):Int)=0 from rfl] at h0;simp only[h8,h8',decide_false,Bool.false_eq_true,if_false,h0];by_cases hb:s.ag.all sI=true
  ·simp only[hb,if_true,Hw];have hb':=List.all_eq_true.1 hb;by_cases v1:s.bQ<0
   ·simp only[v1,decide_true,if_true]
   ·by_cases v2:1000<s.bQ
    ·simp only[v1,v2,decide_true,decide_false,Bool.false_eq_true,if_false,if_true]
    ·simp only[v1,v2,decide_false,Bool.false_eq_true,if_false,ahQ n s (by omega) (fun T hT=>(uk (hb' T hT)).1) (by omega),Option.bind_some]
     by_cases ht:lE [] s.ag=true
     ·simp only[ht,Bool.not_true,Bool.false_eq_true,if_false,if_true,ahP n s (N1 hb' ht) (by omega) (fun T hT=>(uk (hb' T hT)).2.1) (by omega),Option.bind_some]
      by_cases hr:allRefs s s.ag=true
      ·have h3:=Mm n s (by omega) hb' hz s.ag 0 n rfl (by omega) hn'
       rw[show ((0:Nat):Int)=0 from rfl] at h3;simp only[hr,Bool.not_true,Bool.false_eq_true,if_false,if_true,h3]
      ·simp only[hr,Bool.not_eq_true] at hr ⊢;simp[hr]
     ·have ht':lE [] s.ag=false:=by simpa using ht
      simp[ht']
  ·simp only[hb,if_false,Bool.false_eq_true]
theorem sf:∀{a b c:List UInt8},Op.bytesLess a b=true->Op.bytesLess b c=true->Op.bytesLess a c=true
 |_,[],_,h,_=>by cases ‹List UInt8› <;>simp[Op.bytesLess] at h
 |_,_::_,[],_,h=>by simp[Op.bytesLess] at h
 | [],_::_,_::_,_,_=>by simp[Op.bytesLess]
 |x::a,y::b,z::c,h1,h2=>by
  rw[EE] at h1 h2 ⊢;simp only[Bool.or_eq_true,decide_eq_true_eq,Bool.and_eq_true,beq_iff_eq] at h1 h2 ⊢;rcases h1 with h1|⟨rfl,h1⟩<;>rcases h2 with h2|⟨rfl,h2⟩
  ·exact .inl (UInt8.lt_trans h1 h2)
  ·exact .inl h1
  ·exact .inl h2
  ·exact .inr ⟨rfl,sf h1 h2⟩
theorem Nl {a b:aH}:gu a b= -1↔a.aw<b.aw\/(a.aw=b.aw/\(a.bM<b.bM\/(a.bM=b.bM/\Op.bytesLess a.bt.toList b.bt.toList=true))):=by
 unfold gu;split
 ·rename_i h;simp[h]
 ·split
  ·rename_i h1 h;constructor
   ·intro h;omega
   ·intro h;omega
  ·have e:a.aw=b.aw:=by omega
   split
   ·rename_i h;simp[e,h]
   ·split
    ·constructor
     ·intro h;omega
     ·intro h;omega
    ·have e2:a.bM=b.bM:=by omega
     split
     ·rename_i h;simp[e,e2,h]
     ·rename_i h;split
      ·constructor
       ·intro h;omega
       ·rintro (h'|⟨_,h'|⟨_,h'⟩⟩)
        ·omega
        ·omega
        ·exact absurd h' h
      ·constructor
       ·intro h;omega
       ·rintro (h'|⟨_,h'|⟨_,h'⟩⟩)
        ·omega
        ·omega
        ·exact absurd h' h
theorem PH {a b c:aH} (h1:gu a b= -1) (h2:gu b c= -1):gu a c= -1:=by
 rw[Nl] at*;rcases h1 with h1|⟨e1,h1⟩<;>rcases h2 with h2|⟨e2,h2⟩
 ·left;omega
 ·left;omega
 ·left;omega
 ·right;refine ⟨by omega,?_⟩
  rcases h1 with h1|⟨e3,h1⟩<;>rcases h2 with h2|⟨e4,h2⟩
  ·left;omega
  ·left;omega
  ·left;omega
  ·exact .inr ⟨by omega,sf h1 h2⟩
theorem CX {a b:aH} (h:gu a b=0):a=b:=by
 unfold gu at h;split at h
 ·cases h
 ·split at h
  ·cases h
  ·split at h
   ·cases h
   ·split at h
    ·cases h
    ·split at h
     ·cases h
     ·split at h
      ·rename_i h5;obtain ⟨x,y,z⟩:=a;obtain ⟨x',y',z'⟩:=b;simp only at*;rw[show x=x' by omega,show y=y' by omega,h5]
      ·cases h
theorem iO:∀{x y:Wq2},bL x y=0->x=y
 | [],[],_=>rfl
 | [],_::_,h=>by simp[bL] at h
 |_::_,[],h=>by simp[bL] at h
 |a::x,b::y,h=>by
  simp only[bL] at h;split at h
  ·rename_i h0;rw[CX h0,iO h]
  ·exact absurd h (by assumption)
theorem sE {x y:Wq2}:bL x y=0↔x=y:=⟨iO,fun h=>h ▸ jb x⟩
theorem AU:∀{x y z:Wq2},bL x y= -1->bL y z= -1->bL x z= -1
 | [],[],_,h,_=>by simp[bL] at h
 | [],_::_,[],_,h=>by simp[bL] at h
 | [],_::_,_::_,_,_=>by simp[bL]
 |_::_,[],_,h,_=>by simp[bL] at h
 |_::_,_::_,[],_,h=>by simp[bL] at h
 |a::x,b::y,c::z,h1,h2=>by
  simp only[bL] at h1 h2 ⊢;split at h1
  ·rename_i e1;have e1:=CX e1;subst e1;split at h2
   ·rename_i e2;rw[if_pos e2];exact AU h1 h2
   ·rename_i e2;rw[if_neg e2];exact h2
  ·split at h2
   ·rename_i e2;have e2:=CX e2;subst e2;rw[if_neg (by omega)];exact h1
   ·have:=PH h1 h2;rw[if_neg (by omega)];exact this
abbrev kOf (T:ay) (r:Wq2):Wq2:=r.take T.au.toNat
def lt (a b:Wq2):Prop:=bL a b= -1
instance (a b:Wq2):Decidable (lt a b):=inferInstanceAs (Decidable (_=_))
theorem lt_irrefl (a:Wq2):¬lt a a:=fun h=>by have:=jb a;unfold lt at h;omega
theorem lt_trans {a b c:Wq2} (h1:lt a b) (h2:lt b c):lt a c:=AU h1 h2
theorem lt_asymm {a b:Wq2} (h:lt a b):¬lt b a:=fun h'=>lt_irrefl a (lt_trans h h')
theorem tq (a b:Wq2):lt a b\/a=b\/lt b a:=by
 rcases pb a b with h|h|h
 ·exact .inl h
 ·exact .inr (.inl (iO h))
 ·exact .inr (.inr (by show bL b a= -1;rw[ua a b,h]))
theorem eQ {a b:Wq2}:bL a b<0↔lt a b:=by
 unfold lt;rcases pb a b with h|h|h<;>omega
def Ord (T:ay) (rows:Wq9):Prop:=rows.Pairwise fun a b=>lt (kOf T a) (kOf T b)
def cc (T:ay) (k:Wq2) (N rows:Wq9):Wq9:=rows.filter (fun r=>decide (lt (kOf T r) k))++N++rows.filter (fun r=>decide (lt k (kOf T r)))
theorem lY {T:ay} {k:Wq2} {N rows:Wq9} {r:Wq2}:r∈cc T k N rows↔(r∈rows/\kOf T r≠k)\/r∈N:=by
 unfold cc;simp only[List.mem_append,List.mem_filter,decide_eq_true_eq];constructor
 ·rintro ((⟨h1,h2⟩|h)|⟨h1,h2⟩)
  ·exact .inl ⟨h1,fun e=>lt_irrefl _ (e ▸ h2)⟩
  ·exact .inr h
  ·exact .inl ⟨h1,fun e=>lt_irrefl _ (e ▸ h2)⟩
 ·rintro (⟨h1,h2⟩|h)
  ·rcases tq (kOf T r) k with h|h|h
   ·exact .inl (.inl ⟨h1,h⟩)
   ·exact absurd h h2
   ·exact .inr ⟨h1,h⟩
  ·exact .inl (.inr h)
theorem ub {T:ay} {k:Wq2} {N rows:Wq9} (h:Ord T rows) (hN:N= []\/∃r,N= [r]/\kOf T r=k):Ord T (cc T k N rows):=by
 unfold Ord cc at*;have hN1:∀r∈N,kOf T r=k:=by
  rcases hN with rfl|⟨r,rfl,e⟩
  ·simp
  ·simpa using e
 rw[List.pairwise_append,List.pairwise_append];refine ⟨⟨h.filter _,?_,fun a ha b hb=> ?_⟩,h.filter _,fun a ha b hb=> ?_⟩
 ·rcases hN with rfl|⟨r,rfl,e⟩<;>simp
 ·rw[hN1 b hb];simpa using (List.mem_filter.1 ha).2
 ·have hb:lt k (kOf T b):=by simpa using (List.mem_filter.1 hb).2
  rcases List.mem_append.1 ha with ha|ha
  ·exact lt_trans (by simpa using (List.mem_filter.1 ha).2) hb
  ·rw[hN1 a ha];exact hb
theorem filter_all {α:Type} {p:α->Bool} {l:List α} (h:∀x∈l,p x=true):l.filter p=l:=List.filter_eq_self.2 h
theorem filter_none {α:Type} {p:α->Bool} {l:List α} (h:∀x∈l,p x=false):l.filter p= []:=List.filter_eq_nil_iff.2 fun x hx=>by rw[h x hx];simp
theorem JY {T:ay} {k:Wq2} {N A B:Wq9} (hA:∀r∈A,lt (kOf T r) k) (hB:∀r∈B,lt k (kOf T r)):cc T k N (A++B)=A++N++B:=by
 unfold cc;rw[List.filter_append,List.filter_append,filter_all (fun x hx=>by simpa using hA x hx),filter_none (fun x hx=>by simpa using lt_asymm (hB x hx)),filter_none (l:=A) (fun x hx=>by simpa using lt_asymm (hA x hx)),filter_all (l:=B) (fun x hx=>by simpa using hB x hx)]
 simp
theorem rI {T:ay} {k q:Wq2} {N A B:Wq9} (hA:∀r∈A,lt (kOf T r) k) (hq:kOf T q=k) (hB:∀r∈B,lt k (kOf T r)):cc T k N (A++q::B)=A++N++B:=by
 unfold cc;have h1:decide (lt (kOf T q) k)=false:=by rw[hq];simpa using lt_irrefl k
 have h2:decide (lt k (kOf T q))=false:=by rw[hq];simpa using lt_irrefl k
 rw[List.filter_append,List.filter_append,List.filter_cons,List.filter_cons,h1,h2,filter_all (fun x hx=>by simpa using hA x hx),filter_none (fun x hx=>by simpa using lt_asymm (hB x hx)),filter_none (l:=A) (fun x hx=>by simpa using lt_asymm (hA x hx)),filter_all (l:=B) (fun x hx=>by simpa using hB x hx)]
 simp
def eM (id : Int) (r1 r2 r3 : Wq7) (ch : Wq8) : Wq1 :=
  [⟨ByteArray.mk #[112, 114, 111, 106, 101, 99, 116, 115], [⟨ByteArray.mk #[105, 100], 4⟩, ⟨ByteArray.mk #[111, 119, 110, 101, 114], 4⟩], 1, [], []⟩,
   ⟨ByteArray.mk #[116, 97, 115, 107, 115], [⟨ByteArray.mk #[105, 100], id⟩, ⟨ByteArray.mk #[112, 114, 111, 106, 101, 99, 116], 4⟩, ⟨ByteArray.mk #[116, 105, 116, 108, 101], 5⟩, ⟨ByteArray.mk #[100, 111, 110, 101], 3⟩], 1, r1, ch⟩,
   ⟨ByteArray.mk #[109, 101, 109, 98, 101, 114, 115], [⟨ByteArray.mk #[112, 114, 111, 106, 101, 99, 116], 4⟩, ⟨ByteArray.mk #[112, 101, 114, 115, 111, 110], 4⟩], 2, r2, []⟩,
   ⟨ByteArray.mk #[97, 114, 99, 104, 105, 118, 101, 100], [⟨ByteArray.mk #[116, 97, 115, 107], id⟩], 1, r3, []⟩]
structure My (v id:Int) (k:Nat) (r1 r2 r3:Wq7) (ch:Wq8):Prop where
 v0:0<=v
 v1:v<=2
 hid:id=4\/id=5
 hk:k=2\/k=3\/k=4
 h1:r1= []\/r1= [⟨[1],0⟩]
 h2:r2= []\/r2= [⟨[0],0⟩]
 h3:r3= []\/r3= [⟨[0],1⟩]
 hc:ch.length<=1/\q9 [id,4,5,3] ch=0/\∀p∈ch,szP p<=119
def nL (s:af):Prop:=∃v id k r1 r2 r3 ch,My v id k r1 r2 r3 ch/\s=⟨v,(eM id r1 r2 r3 ch).take k⟩
theorem nL.chk {s:af} (h:nL s):DA s=0:=by
 obtain ⟨v,id,k,r1,r2,r3,ch,⟨v0,v1,hid,hk,h1,h2,h3,hc0,hc,_⟩,rfl⟩:=h;have e1:¬8<((eM id r1 r2 r3 ch).take k).length:=by rw[List.length_take];simp[eM];omega
 have e2:((eM id r1 r2 r3 ch).take k).all sI=true:=by
  have hr1:r1.length<=4:=by rcases h1 with rfl|rfl<;>simp
  have hr2:r2.length<=4:=by rcases h2 with rfl|rfl<;>simp
  have hr3:r3.length<=4:=by rcases h3 with rfl|rfl<;>simp
  have hch:ch.length<=4:=by omega
  rcases hk with rfl|rfl|rfl<;>simp[eM,sI,hr1,hr2,hr3,hch]
 have e3:lE [] ((eM id r1 r2 r3 ch).take k)=true:=by
  rcases hid with rfl|rfl<;>rcases hk with rfl|rfl|rfl<;>kernel_rfl
 have e4:allRefs ⟨v,(eM id r1 r2 r3 ch).take k⟩ ((eM id r1 r2 r3 ch).take k)=true:=by
  rcases hid with rfl|rfl<;>rcases hk with rfl|rfl|rfl<;>rcases h1 with rfl|rfl<;>rcases h2 with rfl|rfl<;>rcases h3 with rfl|rfl<;>kernel_rfl
 have e5:Ae ((eM id r1 r2 r3 ch).take k)=0:=by
  rcases hk with rfl|rfl|rfl<;>simp[eM,Ae,q9,aW,hc]
 unfold DA;simp only[e1,e2,e3,e4,e5,if_false,if_true,show ¬v<0 by omega,show ¬1000<v by omega]
theorem nL.ok {s:af} (h:nL s):SOK s:=YI h.chk
theorem nL.sz {s:af} (h:nL s):∀T∈s.ag,szT T:=by
 obtain ⟨v,id,k,r1,r2,r3,ch,⟨_,_,_,_,_,_,_,_,_,hz⟩,rfl⟩:=h;intro T hT p hp;have hT:=List.mem_of_mem_take hT;simp only[eM,List.mem_cons,List.not_mem_nil,or_false] at hT;rcases hT with rfl|rfl|rfl|rfl
 ·simp at hp
 ·have:=hz p hp;omega
 ·simp at hp
 ·simp at hp
theorem nL.pos {s:af} (h:nL s):2<=s.ag.length:=by
 obtain ⟨v,id,k,r1,r2,r3,ch,⟨_,_,_,hk,_⟩,rfl⟩:=h;rw[List.length_take];simp[eM];omega
theorem ES (n:Nat) (hn:2000<=n) (hn':n<4294967296) (c:aj) (hc:aZ c) (z:af) (v id:Int) (k:Nat) (r1 r2 r3:Wq7) (h:My v id k r1 r2 r3 []) (ts:Wq1) (hts:ts=(eM id r1 r2 r3 []).take k) (b5:af) (hb5:b5.bQ=v):
  Ok (Al n c z b5 ts) fun r=>aZ r.2/\nL r.1:=by
 unfold Al;refine Ok.bind (jj n c 3 hc) fun b hb=> ?_
 refine Ok.ite (fun _=> ?_) fun _=>Ok.pure ⟨hb,v,id,k,r1,r2,r3,[],h,by rw[hb5,hts]⟩
 have hT:idx (af.mk b5.bQ ts).ag 1=some ⟨ByteArray.mk #[116,97,115,107,115],[⟨ByteArray.mk #[105,100],id⟩,⟨ByteArray.mk #[112,114,111,106,101,99,116],4⟩,⟨ByteArray.mk #[116,105,116,108,101],5⟩,⟨ByteArray.mk #[100,111,110,101],3⟩],1,r1,[]⟩:=by
  rw[hts];rcases h.hk with rfl|rfl|rfl<;>rfl
 rw[MD hT (by simp) (by omega),Option.bind_some]
 have hks:dY [id,4,5,3]=true:=by rcases h.hid with rfl|rfl<;>rfl
 refine Ok.bind (aih [id,4,5,3] [] hks rfl (by simp) (by simp) 1 n b.2 hb (by omega) hn' (by omega) (by omega)) fun p ⟨hp,p0,pz⟩=> ?_
 have e1:bnd ts.length 1=some 1:=by rw[hts];rcases h.hk with rfl|rfl|rfl<;>rfl
 have e2:ts[0+1]? =some ⟨ByteArray.mk #[116,97,115,107,115],[⟨ByteArray.mk #[105,100],id⟩,⟨ByteArray.mk #[112,114,111,106,101,99,116],4⟩,⟨ByteArray.mk #[116,105,116,108,101],5⟩,⟨ByteArray.mk #[100,111,110,101],3⟩],1,r1,[]⟩:=by
  rw[hts];rcases h.hk with rfl|rfl|rfl<;>rfl
 rw[e1,Option.bind_some,e2,Option.bind_some];have e3:setAt ts (0+1) ⟨ByteArray.mk #[116,97,115,107,115],[⟨ByteArray.mk #[105,100],id⟩,⟨ByteArray.mk #[112,114,111,106,101,99,116],4⟩,⟨ByteArray.mk #[116,105,116,108,101],5⟩,⟨ByteArray.mk #[100,111,110,101],3⟩],1,r1,[p.1]⟩=some ((eM id r1 r2 r3 [p.1]).take k):=by
  rw[hts];rcases h.hk with rfl|rfl|rfl<;>rfl
 rw[e3,Option.bind_some];exact Ok.pure ⟨hp,v,id,k,r1,r2,r3,[p.1],⟨h.v0,h.v1,h.hid,h.hk,h.h1,h.h2,h.h3,by simp,by simp[q9,p0],by simpa using pz⟩,by rw[hb5]⟩
theorem yF (n:Nat) (hn:2000<=n) (hn':n<4294967296) (c:aj) (hc:aZ c) (z:af) (v id:Int) (k:Nat) (r1 r2:Wq7) (h:My v id k r1 r2 [] []) (ts:Wq1) (hts:ts=(eM id r1 r2 [] []).take k) (b5:af) (hb5:b5.bQ=v):
  Ok (xc n (k:Int) c z b5 ts) fun r=>aZ r.2/\nL r.1:=by
 unfold xc;refine Ok.ite (fun hk=> ?_) fun _=>ES n hn hn' c hc _ v id k r1 r2 [] h ts hts _ hb5
 have hk:k=4:=by have:=h.hk;simp at hk;omega
 subst hk;refine Ok.bind (jj n c 3 hc) fun b hb=> ?_
 refine Ok.ite (fun _=> ?_) fun _=>ES n hn hn' b.2 hb _ v id 4 r1 r2 [] h ts hts _ hb5
 subst hts;show Ok (Al n b.2 ⟨0,[]⟩ ⟨b5.bQ,(eM id r1 r2 [⟨[0],1⟩] []).take 4⟩ ((eM id r1 r2 [⟨[0],1⟩] []).take 4)) _;exact ES n hn hn' b.2 hb _ v id 4 r1 r2 [⟨[0],1⟩] {h with h3:=.inr rfl} _ rfl _ hb5
theorem Py (n:Nat) (hn:2000<=n) (hn':n<4294967296) (c:aj) (hc:aZ c) (z:af) (v id:Int) (k:Nat) (r1:Wq7) (h:My v id k r1 [] [] []) (ts:Wq1) (hts:ts=(eM id r1 [] [] []).take k) (b5:af) (hb5:b5.bQ=v):
  Ok (Ak n (k:Int) c z b5 ts) fun r=>aZ r.2/\nL r.1:=by
 unfold Ak;refine Ok.ite (fun hk=> ?_) fun _=>yF n hn hn' c hc _ v id k r1 [] h ts hts _ hb5
 refine Ok.bind (jj n c 3 hc) fun b hb=> ?_
 refine Ok.ite (fun _=> ?_) fun _=>yF n hn hn' b.2 hb _ v id k r1 [] h ts hts _ hb5
 subst hts;have hk:k=3\/k=4:=by have:=h.hk;simp at hk;omega
 rcases hk with rfl|rfl
 ·show Ok (xc n (3:Nat) b.2 ⟨0,[]⟩ ⟨b5.bQ,(eM id r1 [⟨[0],0⟩] [] []).take 3⟩ ((eM id r1 [⟨[0],0⟩] [] []).take 3)) _;exact yF n hn hn' b.2 hb _ v id 3 r1 [⟨[0],0⟩] {h with h2:=.inr rfl} _ rfl _ hb5
 ·show Ok (xc n (4:Nat) b.2 ⟨0,[]⟩ ⟨b5.bQ,(eM id r1 [⟨[0],0⟩] [] []).take 4⟩ ((eM id r1 [⟨[0],0⟩] [] []).take 4)) _;exact yF n hn hn' b.2 hb _ v id 4 r1 [⟨[0],0⟩] {h with h2:=.inr rfl} _ rfl _ hb5
theorem Px (n:Nat) (hn:2000<=n) (hn':n<4294967296) (c:aj) (hc:aZ c) (z:af) (id:Int) (hid:id=4\/id=5) (k:Nat) (hk:k=2\/k=3\/k=4):
  Ok (MN n (k:Int) id c z) fun r=>aZ r.2/\nL r.1:=by
 unfold MN;refine Ok.bind (gB n c 3 hc) fun v ⟨hv,v0,v1,_⟩=> ?_
 have v1:=v1 (by omega)
 simp only[F30,Tn,Option.bind_some];have h:∀r1,(r1= []\/r1= [⟨[1],0⟩])->My v.1 id k r1 [] [] []:=fun r1 h1=>⟨v0,by omega,hid,hk,h1,.inl rfl,.inl rfl,by simp,rfl,by simp⟩
 have e0:gA 4 (k:Int)=some k:=by unfold gA;rw[if_pos (by omega)];rfl
 rw[e0,Option.bind_some];refine Ok.bind (jj n v.2 2 hv) fun b hb=> ?_
 refine Ok.ite (fun _=> ?_) fun _=> ?_
 rotate_left
 ·show Ok (Ak n (k:Int) b.2 ⟨0,[]⟩ ⟨v.1,(eM id [] [] [] []).take k⟩ ((eM id [] [] [] []).take k)) _;exact Py n hn hn' b.2 hb _ v.1 id k [] (h [] (.inl rfl)) _ rfl _ rfl
 have e1:bnd k 1=some 1:=by rcases hk with rfl|rfl|rfl<;>rfl
 rw[e1,Option.bind_some];show Ok (Ak n (k:Int) b.2 ⟨0,[]⟩ ⟨v.1,(eM id [⟨[1],0⟩] [] [] []).take k⟩ ((eM id [⟨[1],0⟩] [] [] []).take k)) _;exact Py n hn hn' b.2 hb _ v.1 id k [⟨[1],0⟩] (h _ (.inr rfl)) _ rfl _ rfl
theorem alV (n:Nat) (hn:2000<=n) (hn':n<4294967296) (c:aj) (hc:aZ c):Ok (F9 n c) fun r=>aZ r.2/\nL r.1:=by
 unfold F9 aaK;refine Ok.bind (gB n c 3 hc) fun v ⟨hv,v0,v1,_⟩=> ?_
 have v1:=v1 (by omega)
 have e:w64 (2+v.1)=((2+v.1.toNat:Nat):Int):=by rw[bS (by omega) (by omega)];omega
 rw[e];refine Ok.bind (jj n v.2 5 hv) fun b hb=> ?_
 exact Ok.ite (fun _=>Px n hn hn' b.2 hb _ 5 (.inr rfl) _ (by omega)) fun _=>Px n hn hn' b.2 hb _ 4 (.inl rfl) _ (by omega)
theorem E7:∀{ks:Wq0} {r:Wq2} (j:Nat),bg ks r=true->bg (ks.take j) (r.take j)=true
 |_,_,0,_=>by simp[bg]
 | [],[],j+1,_=>rfl
 |k::ks,v::r,j+1,h=>by
  simp only[bg,Bool.and_eq_true] at h;simp only[List.take_succ_cons,bg,Bool.and_eq_true];exact ⟨h.1,E7 j h.2⟩
 | [],_::_,_+1,h=>by simp[bg] at h
 |_::_,[],_+1,h=>by simp[bg] at h
theorem JO:∀{ks:Wq0} {r:Wq2} {i:Nat} {v:aH},bg ks r=true->r[i]? =some v->∃k,ks[i]? =some k/\v.aw=k/\fV v=true
 |k::ks,w::r,0,v,h,hv=>by
  simp only[bg,Bool.and_eq_true,beq_iff_eq] at h;simp at hv;subst hv;exact ⟨k,rfl,h.1.2,h.1.1⟩
 |k::ks,w::r,i+1,v,h,hv=>by
  simp only[bg,Bool.and_eq_true] at h;simpa using JO h.2 (by simpa using hv)
 | [],[],_,_,_,hv=>by simp at hv
 | [],_::_,_,_,h,_=>by simp[bg] at h
 |_::_,[],_,_,_,hv=>by simp at hv
def Bn:Int->Wq0->Int
 |l,[]=>l
 |_,c::cs=>Bn c cs
theorem Bm:∀(l:Int) (cs:Wq0) (c:Int),Bn l (cs++ [c])=c
 |_,[],_=>rfl
 |_,d::cs,c=>Bm d cs c
theorem BY (ks:Wq0):∀{last:Int} {cs l:Wq0} {c k:Int},dL ks last cs=some l->Bn last cs<c->0<=c->ks[c.toNat]? =some k->dL ks last (cs++ [c])=some (l++ [k])
 |last,[],l,c,k,h,h1,h2,hk=>by
  simp[dL] at h;subst h;have hlt:=(List.getElem?_eq_some_iff.1 hk).1;have:last<c/\c<(ks.length:Int):=⟨h1,by omega⟩
  simp[dL,this,hk]
 |last,d::cs,l,c,k,h,h1,h2,hk=>by
  simp only[dL] at h;split at h
  ·rename_i hd;cases h3:dL ks d cs with
   |none=>rw[h3] at h;cases h
   |some l'=>
    rw[h3] at h;simp at h;subst h;have:=BY ks h3 h1 h2 hk;simp only[List.cons_append,dL,hd,and_self,if_true,this];simp
  ·cases h
def la (s:af) (w:az):Prop:=∃T,idx s.ag w.aq=some T/\¬(w.fOp<1\/3<w.fOp)/\wOK T w=true
theorem jK {s:af} {prev:Option az} {w:az} {ws:Wq3}:fC s prev (w::ws)=0↔la s w/\pc prev w=false/\fC s (some w) ws=0:=by
 constructor
 ·intro h;simp only[fC] at h;cases hT:idx s.ag w.aq with
  |none=>simp[hT] at h
  |some T=>
   simp only[hT] at h;split at h
   ·cases h
   ·rename_i h1;split at h
    ·cases h
    ·rename_i h2;split at h
     ·cases h
     ·rename_i h3;exact ⟨⟨T,hT,h1,by simpa using h2⟩,by simpa using h3,h⟩
 ·rintro ⟨⟨T,hT,h1,h2⟩,h3,h4⟩;simp only[fC,hT,h1,h2,h3,h4,if_false,Bool.not_true,Bool.false_eq_true]
def Bk:Option az->Wq3->Option az
 |p,[]=>p
 |_,x::a=>Bk (some x) a
theorem ET {s:af} {w:az} {b:Wq3} (hw:la s w) (hb:∀y,b.head? =some y->pc (some w) y=false):∀{a:Wq3} {prev:Option az},fC s prev (a++b)=0->pc (Bk prev a) w=false->fC s prev (a++w::b)=0
 | [],prev,h,hl=>by
  rw[List.nil_append,jK];refine ⟨hw,hl,?_⟩;cases b with
  |nil=>rfl
  |cons y b=>
   obtain ⟨h1,_,h3⟩:=jK.1 h;exact jK.2 ⟨h1,hb y rfl,h3⟩
 |x::a,prev,h,hl=>by
  obtain ⟨h1,h2,h3⟩:=jK.1 h;exact jK.2 ⟨h1,h2,ET hw hb h3 hl⟩
theorem vt {s:af}:∀{ws:Wq3} {prev:Option az},fC s prev ws=0->∀w∈ws,la s w
 | [],_,_,w,hw=>by cases hw
 |x::ws,prev,h,w,hw=>by
  obtain ⟨h1,_,h3⟩:=jK.1 h;rcases List.mem_cons.1 hw with rfl|hw
  ·exact h1
  ·exact vt h3 w hw
theorem Fi:∀{a:Wq3} {p:Option az},Bk p a=if a= [] then p else a[a.length-1]?
 | [],p=>rfl
 | [x],p=>by simp[Bk]
 |x::y::a,p=>by
  have:=Fi (a:=y::a) (p:=some x);simp only[Bk] at this ⊢;simpa using this
theorem zU {s:af} (hs:SOK s) {w:az} (h:la s w):w.au.length<=8:=by
 obtain ⟨T,hT,_,h2⟩:=h;have ht:=hs.tab _ _ hT;have:=ht.aG;have:=ht.cr;have:=KF ht;simp only[wOK,Bool.and_eq_true] at h2;have:=gR h2.1;omega
theorem wq {s:af} (hs:SOK s) {w:az} (h:la s w):w.ak.length<=100:=by
 obtain ⟨T,hT,h1,h2⟩:=h;have ht:=hs.tab _ _ hT;have hc:=ht.aG;have k1:=ht.gx;simp only[wOK,gM,Bool.and_eq_true] at h2;have h2:=h2.2;split at h2
 ·simp at h2;simp[h2.1]
 ·split at h2
  ·cases hcl:dL (aW T) (T.au-1) w.ak with
   |none=>rw[hcl] at h2;cases h2
   |some l=>
    have hb:∀{cs:Wq0} {last:Int} {l:Wq0}, -1<=last->dL (aW T) last cs=some l->(cs.length:Int)+last<=8\/cs= []:=by
     intro cs;induction cs with
     |nil=>intro last l _ _;exact .inr rfl
     |cons c cs ih=>
      intro last l hl h;simp only[dL] at h;split at h
      ·rename_i hd;cases h3:dL (aW T) c cs with
       |none=>rw[h3] at h;cases h
       |some l'=>
        have hkl:=cR T;rcases ih (by omega) h3 with h4|rfl
        ·left;simp;omega
        ·left;simp;omega
      ·cases h
    rcases hb (by omega) hcl with h|h
    ·omega
    ·simp[h]
  ·simp at h2;simp[h2.1]
theorem X5 (n0:Nat) (s:af) (t:Nat) (T:ay) (hT:s.ag[t]? =some T) (ht:bZ T) (key:Wq2) (rows:Wq9) (hl:rows.length<=100) (hr:∀r∈rows,r.length=T.ak.length):∀(x:Wq9) (i m:Nat),rows.drop i=x->x.length+100<m->
  Ok (ye (G7 n0) m (t:Int) key rows (rows.length:Int) (i:Int) s) fun r=>r= -1\/(0<=r/\r<(rows.length:Int))
 | [],i,m+1,hd,hm=>by
  have:rows.length<=i:=by simpa using hd
  have hq:¬((i:Int)<(rows.length:Int)):=by omega
  simp only[ye,G8,G7,hq,decide_false,Bool.false_eq_true,if_false];exact Ok.pure (.inl rfl)
 |r::x,i,m+1,hd,hm=>by
  obtain ⟨g1,g2,g3⟩:=aX hd;have hq:(i:Int)<(rows.length:Int):=by omega
  have hTi:idx s.ag (t:Int)=some T:=by rw[aM];exact hT
  have hc:=ht.aG;have hk2:=ht.cr;simp at hm;simp only[ye,G8,hq,decide_true,if_true,aM,g1,Option.bind_some,Cj (n:=m) hTi ht r (hr r (List.mem_of_getElem? g1)),Ck m (r.take T.au.toNat) key (by simp;omega) (by simp;omega),bz g3 (by omega)]
  refine Ok.ite (fun _=>Ok.pure (.inr ⟨by omega,hq⟩)) fun _=> ?_
  exact X5 n0 s t T hT ht key rows hl hr x (i+1) m g2 (by omega)
 |_,_,0,_,hm=>by simp at hm
theorem aie (n:Nat) (hn:1000<n) (s:af) (t:Nat) (T:ay) (hT:s.ag[t]? =some T) (ht:bZ T) (key:Wq2) (st:ah) (rows:Wq9) (du:st.ag[t]? =some rows) (hl:rows.length<=100) (hr:∀r∈rows,r.length=T.ak.length):Ok (F35 n s st (t:Int) key) fun _=>True:=by
 have h1:t<s.ag.length:=(List.getElem?_eq_some_iff.1 hT).1;have h2:t<st.ag.length:=(List.getElem?_eq_some_iff.1 du).1;have e1:¬(t:Int)<0:=by omega
 have e2:(t:Int)<(s.ag.length:Int):=by omega
 have e3:(t:Int)<(st.ag.length:Int):=by omega
 have hc:=ht.aG;unfold F35 Tj F75 SR;simp only[e1,e2,e3,decide_false,decide_true,Bool.not_true,Bool.false_eq_true,if_false,aM,du,Option.bind_some];refine Ok.bind (X5 n s t T hT ht key rows hl hr rows 0 n rfl (by omega)) fun q hq=> ?_
 refine Ok.ite (fun _=>Ok.pure trivial) fun hq'=> ?_
 simp at hq';have hq:0<=q/\q<(rows.length:Int):=hq.resolve_left (by omega)
 have hg:idx rows q=some (rows[q.toNat]'(by omega)):=by unfold idx;rw[if_pos hq.1];exact List.getElem?_eq_getElem _
 rw[hg,Option.bind_some,Ci _ (by rw[hr _ (List.getElem_mem _)];omega)]
 exact Ok.pure trivial
abbrev KW:=Int->aj->af->ah->Wq3->Option (Wq3×aj)
structure Few (w:az) (N:Nat):Prop where
 key:w.au.length<=N
 col:w.ak.length<=N
 cel:w.aR.length<=N
theorem Few.wB {w:az} {N:Nat} (h:Few w N) (hN:N<=1000):wB w:=⟨by have:=h.col;omega,by have:=h.key;omega⟩
theorem ZU {s:af} (hs:SOK s) {w:az} (h:la s w):Few w 100:=by
 refine ⟨by have:=zU hs h;omega,wq hs h,?_⟩
 have hcols:=wq hs h;obtain ⟨T,hT,h1,h2⟩:=h;have ht:=hs.tab _ _ hT;have hc:=ht.aG;have k1:=ht.gx;have hkl:=cR T;simp only[wOK,gM,Bool.and_eq_true] at h2;have h2:=h2.2;split at h2
 ·simp at h2;have:=gR h2.2.1;omega
 ·split at h2
  ·cases hcl:dL (aW T) (T.au-1) w.ak with
   |none=>rw[hcl] at h2;cases h2
   |some l=>
    rw[hcl] at h2;have:=gR h2;have:=(uR ht.ks (by omega) hcl).1
    omega
  ·simp at h2;simp[h2.2]
section
theorem dD {T:ay} {r:Wq2} (h:bg (aW T) r=true):r.length=T.ak.length:=by rw[gR h,cR]
def behind (T:ay):Option Wq2->Wq2->Bool
 |none,_=>true
 |some q,r=>decide (bL (q.take T.au.toNat) (r.take T.au.toNat)<0)
def kQ (T:ay):Option Wq2->Wq9->Bool
 |_,[]=>true
 |p,r::rs=>bg (aW T) r&&(behind T p r&&kQ T (some r) rs)
def lG:Wq1->aF->Bool
 |T::Ts,rs::rss=>kQ T none rs&&lG Ts rss
 |_,_=>true
def total:aF->Nat
 | []=>0
 |rs::rss=>rs.length+total rss
variable {s:af} {t n:Nat} {T:ay}
theorem lB (hT:idx s.ag t=some T) (ht:bZ T) (r:Wq2) (hr:r.length=T.ak.length):F71 n s t r=some (r.take T.au.toNat):=by
 obtain ⟨h0,h1,_⟩:=mK hT;have:=ht.aG;have k1:=ht.gx;have k2:=ht.cr;have e1:¬(t:Int)<0:=by omega
 have e2:(t:Int)<(s.ag.length:Int):=by omega
 have e3:¬(r.length:Int)<T.au:=by omega
 have e4:0<T.au:=by omega
 simp only[F71,SX,e1,e2,decide_false,decide_true,Bool.not_true,Bool.false_eq_true,if_false,hT,Option.bind_some,e3,e4,if_true];rw[wP (by omega) (by omega),Option.bind_some]
theorem Mq (hT:idx s.ag (t:Int)=some T) (ht:bZ T) (rows:Wq9) (hl:rows.length<=2000000) (k:Int->aF->Int->Int->af->Option Int) (a:aF) (a1 a2:Int):
  ∀(x:Wq9) (i m:Nat),rows.drop i=x->x.length+1100<m->(i=0\/∃q,rows[i-1]? =some q/\q.length=T.ak.length)->
   pN k m 1 (t:Int) rows a a1 a2 rows (rows.length:Int) (i:Int) s=if kQ T (if i=0 then none else rows[i-1]?) x then k 1 a a1 a2 s else some 80
 | [],i,m+1,hd,hm,_=>by
  have hq':rows.length<=i:=by simpa using hd
  have hq:¬((i:Int)<(rows.length:Int)):=by omega
  simp only[pN,yN,hq,decide_false,Bool.false_eq_true,if_false,kQ,if_true]
 |r::x,i,m+1,hd,hm,hp=>by
  obtain ⟨g1,g2,g3⟩:=aX hd;have hq:(i:Int)<(rows.length:Int):=by omega
  simp at hm;simp only[pN,yN,hq,decide_true,if_true,aM,g1,Option.bind_some,MC hT ht r (by omega:1000<m),kQ]
  rcases Bool.eq_false_or_eq_true (bg (aW T) r) with hr|hr
  rotate_left
  ·simp[hr]
  ·have hc:=dD hr;have h8:=ht.aG;have ih:=Mq hT ht rows hl k a a1 a2 x (i+1) m g2 (by omega) (.inr ⟨r,by rw[Nat.add_sub_cancel];exact g1,hc⟩)
   rw[if_neg (by omega:¬i+1=0),Nat.add_sub_cancel,g1] at ih
   simp only[hr,Bool.not_true,Bool.false_eq_true,if_false,Bool.true_and,bz g3 (by omega:rows.length<4294967296),ih]
   by_cases h0:i=0
   ·subst h0;simp[behind]
   ·obtain ⟨q,hg,hql⟩:=hp.resolve_left h0;have h0':0<(i:Int):=by omega
    have hw:w64 ((i:Int)-1)=((i-1:Nat):Int):=by rw[bS (by omega) (by omega)];omega
    simp only[h0',decide_true,if_true,hw,aM,hg,Option.bind_some,h0,if_false,lB hT ht q hql,lB hT ht r hc,lC m (q.take T.au.toNat) (r.take T.au.toNat) (by simp;omega) (by simp;omega),behind]
    by_cases h5:bL (q.take T.au.toNat) (r.take T.au.toNat)<0
    ·simp[h5]
    ·simp[h5]
 |_,_,0,_,hm,_=>by simp at hm
theorem jE {x:aF} {rs:Wq9} (h:rs∈x):rs.length<=total x:=by
 induction x with
 |nil=>simp at h
 |cons y x ih=>
  simp only[total];rcases List.mem_cons.1 h with rfl|h
  ·omega
  ·have:=ih h;omega
theorem Mp (hs:SOK s) (n0:Nat) (ts:aF) (hlen:ts.length=s.ag.length) (hl:total ts<=512):
  ∀(x:aF) (i m:Nat),ts.drop i=x->x.length+2000<m->
   m5 (sw n0) m 1 ts (ts.length:Int) (i:Int) s=some (if lG (s.ag.drop i) x then 0 else 80)
 | [],i,m+1,hd,hm=>by
  have hq':ts.length<=i:=by simpa using hd
  have hq:¬((i:Int)<(ts.length:Int)):=by omega
  simp only[m5,yL,sw,hq,decide_false,Bool.false_eq_true,if_false];cases s.ag.drop i<;>simp[lG]
 |rs::x,i,m+1,hd,hm=>by
  obtain ⟨g1,g2,g3⟩:=aX hd;have hq:(i:Int)<(ts.length:Int):=by omega
  have h8:=hs.len;have hrs:=jE (List.mem_of_getElem? g1);simp at hm;have hi:i<s.ag.length:=by omega
  have hT:idx s.ag (i:Int)=some (s.ag[i]):=by rw[aM];exact List.getElem?_eq_getElem _
  have ih:=Mp hs n0 ts hlen hl x (i+1) m g2 (by omega)
  simp only[m5,yL,hq,decide_true,if_true,aM,g1,Option.bind_some];have e:=Mq hT (hs.tab _ _ hT) rs (by omega) (yM (m5 (sw n0) m) m) ts (ts.length:Int) (i:Int) rs 0 m rfl (by omega) (.inl rfl)
  rw[if_pos rfl,show ((0:Nat):Int)=0 from rfl] at e;rw[e,List.drop_eq_getElem_cons hi];simp only[yM,bz g3 (by omega:ts.length<4294967296),ih,lG]
  rcases Bool.eq_false_or_eq_true (kQ s.ag[i] none rs) with hb|hb<;>simp[hb]
 |_,_,0,_,hm=>by simp at hm
theorem w5 (k:Int->Option Int) (ts:aF) (hl:ts.length+total ts<=2000000):∀(x:aF) (i m a:Nat),ts.drop i=x->x.length<m->a+total x<=2000000->yk k m (a:Int) ts (ts.length:Int) (i:Int)=k ((a+total x:Nat):Int)
 | [],i,m+1,a,hd,hm,ha=>by
  have hq':ts.length<=i:=by simpa using hd
  have hq:¬((i:Int)<(ts.length:Int)):=by omega
  simp only[yk,Ho,hq,decide_false,Bool.false_eq_true,if_false,total,Nat.add_zero]
 |rs::x,i,m+1,a,hd,hm,ha=>by
  obtain ⟨g1,g2,g3⟩:=aX hd;have hq:(i:Int)<(ts.length:Int):=by omega
  simp at hm;simp only[total] at ha;have hw:w64 ((a:Int)+(rs.length:Int))=((a+rs.length:Nat):Int):=by rw[bS (by omega) (by omega)];omega
  simp only[yk,Ho,hq,decide_true,if_true,aM,g1,Option.bind_some,bz g3 (by omega:ts.length<4294967296),hw]
  rw[w5 k ts hl x (i+1) m (a+rs.length) g2 (by omega) (by omega)]
  simp only[total,Nat.add_assoc]
 |_,_,0,_,_,hm,_=>by simp at hm
def nP (s:af) (e:Int) (ts:aF):Int:=
 if e=0 then (if 512<total ts then 2 else if ts.length=s.ag.length then (if lG s.ag ts then 0 else 80) else 80) else e
theorem Yk (n:Nat) (s:af) (e:Int) (he:F38 n s=some e) (hs:e=0->SOK s) (st:ah) (hl:st.ag.length+total st.ag<=2000000) (hn:2000100<=n):F28 n s 1 st=some (nP s e st.ag):=by
 unfold F28 HF F69 Hc nP;rw[he,Option.bind_some];by_cases h0:e=0
 ·subst h0;have h57:=w5 (sv n) st.ag hl st.ag 0 n 0 rfl (by omega) (by omega)
  simp only[bne_self_eq_false,Bool.false_eq_true,if_false,if_true,Option.bind_some,F57,yI,show ((0:Nat):Int)=0 from rfl,Nat.zero_add] at h57 ⊢;rw[h57];simp only[sv,Option.bind_some];by_cases h1:512<total st.ag
  ·have h1':(512:Int)<(total st.ag:Int):=by omega
   simp only[h1,h1',decide_true,if_true]
  ·have h1':¬(512:Int)<(total st.ag:Int):=by omega
   simp only[h1,h1',decide_false,Bool.false_eq_true,if_false];by_cases h2:st.ag.length=s.ag.length
   ·have h2':((st.ag.length:Int) !=(s.ag.length:Int))=false:=by simp[h2]
    rw[h2',if_pos h2,if_neg (by simp)]
    have h8:=(hs rfl).len;have:=Mp (hs rfl) n st.ag h2 (by omega) st.ag 0 n rfl (by omega)
    rw[List.drop_zero,show ((0:Nat):Int)=0 from rfl] at this;exact this
   ·have h2':((st.ag.length:Int) !=(s.ag.length:Int))=true:=by simp;omega
    simp only[h2',if_true,h2,if_false]
 ·have:(e !=0)=true:=by simpa using h0
  simp[this,h0]
end
section
def cE (T:ay) (key:Wq2) (rows:Wq9):Option Wq2:=rows.find? fun r=>bL (r.take T.au.toNat) key==0
def wo:Option Wq2->Wq2×Bool
 |some r=>(r,true)
 |none=>([],false)
def Fit (s:af) (ts:aF):Prop:=ts.length=s.ag.length/\∀(t:Nat) T rows,s.ag[t]? =some T->ts[t]? =some rows->rows.length<=512/\∀r∈rows,bg (aW T) r=true
theorem E4 {T:ay}:∀{rs:Wq9} {p:Option Wq2},kQ T p rs=true->∀r∈rs,bg (aW T) r=true
 |r::rs,p,h,y,hy=>by
  simp only[kQ,Bool.and_eq_true] at h;rcases List.mem_cons.1 hy with rfl|hy
  ·exact h.1
  ·exact E4 h.2.2 y hy
theorem EX:∀{Ts:Wq1} {rss:aF} {t:Nat} {T:ay} {rows:Wq9},lG Ts rss=true->Ts[t]? =some T->rss[t]? =some rows->kQ T none rows=true
 | [],_,_,_,_,_,h,_=>by simp at h
 |_::_,[],_,_,_,_,_,h=>by simp at h
 |U::Ts,rs::rss,0,T,rows,h,h1,h2=>by
  simp only[lG,Bool.and_eq_true] at h;simp at h1 h2;subst h1;subst h2;exact h.1
 |U::Ts,rs::rss,t+1,T,rows,h,h1,h2=>by
  simp only[lG,Bool.and_eq_true] at h;exact EX h.2 (by simpa using h1) (by simpa using h2)
theorem TG {s:af} {ts:aF} (h:nP s 0 ts=0):Fit s ts:=by
 unfold nP at h;rw[if_pos rfl] at h;split at h
 ·cases h
 ·rename_i h1;split at h
  ·rename_i h2;split at h
   ·rename_i h3;refine ⟨h2,fun t T rows hT hr=>⟨?_,E4 (EX h3 hT hr)⟩⟩
    have:=jE (List.mem_of_getElem? hr);omega
   ·cases h
  ·cases h
variable {s:af} {t n:Nat} {T:ay}
theorem X7 (n0:Nat) (hT:idx s.ag (t:Int)=some T) (ht:bZ T) (key:Wq2) (rows:Wq9) (hl:rows.length<=512) (hr:∀r∈rows,bg (aW T) r=true):∀(x:Wq9) (i m:Nat),rows.drop i=x->x.length+1100<m->
  yj (Hm n0) m (t:Int) key rows (rows.length:Int) (i:Int) s=some (wo (cE T key x))
 | [],i,m+1,hd,hm=>by
  have hq':rows.length<=i:=by simpa using hd
  have hq:¬((i:Int)<(rows.length:Int)):=by omega
  simp only[yj,Hn,Hm,hq,decide_false,Bool.false_eq_true,if_false,cE,List.find?_nil,wo]
 |r::x,i,m+1,hd,hm=>by
  obtain ⟨g1,g2,g3⟩:=aX hd;have hq:(i:Int)<(rows.length:Int):=by omega
  have hc:=dD (hr r (List.mem_of_getElem? g1));have h8:=ht.aG;simp at hm;simp only[yj,Hn,hq,decide_true,if_true,aM,g1,Option.bind_some,lB hT ht r hc,lC m (r.take T.au.toNat) key (by simp;omega) (by simp;omega),bz g3 (by omega:rows.length<4294967296),cE,List.find?_cons]
  cases h:bL (r.take T.au.toNat) key==0 with
  |true=>simp[wo]
  |false=>
   simp only[Bool.false_eq_true,if_false];exact X7 n0 hT ht key rows hl hr x (i+1) m g2 (by omega)
 |_,_,0,_,hm=>by simp at hm
theorem oK (n:Nat) (r:Wq2) (h:r.length<=1000000):F62 n r=some r:=by
 unfold F62 S1;rw[cV _ _ (by simpa using h)];rfl
theorem Ch (n:Nat) (r:Wq2) (h:r.length<=1000000):F56 n r=some r:=by
 unfold F56 S8;rw[cV _ _ (by simpa using h)];rfl
theorem jm {key:Wq2} {rows:Wq9} {r:Wq2} (h:cE T key rows=some r):r∈rows:=List.mem_of_find?_eq_some h
theorem aii (hT:s.ag[t]? =some T) (ht:bZ T) (st:ah) (rows:Wq9) (du:st.ag[t]? =some rows) (hl:rows.length<=512) (hr:∀r∈rows,bg (aW T) r=true) (key:Wq2) (hn:2000<n):F21 n s st (t:Int) key=some (wo (cE T key rows)):=by
 have h1:t<s.ag.length:=(List.getElem?_eq_some_iff.1 hT).1;have h2:t<st.ag.length:=(List.getElem?_eq_some_iff.1 du).1;have e1:¬(t:Int)<0:=by omega
 have e2:(t:Int)<(s.ag.length:Int):=by omega
 have e3:(t:Int)<(st.ag.length:Int):=by omega
 have hTi:idx s.ag (t:Int)=some T:=by rw[aM];exact hT
 unfold F21 Tv F60 S3;have h:=X7 n hTi ht key rows hl hr rows 0 n rfl (by omega)
 rw[show ((0:Nat):Int)=0 from rfl] at h;simp only[e1,e2,e3,decide_false,decide_true,Bool.not_true,Bool.false_eq_true,if_false,aM,du,Option.bind_some,h];cases hg:cE T key rows with
 |none=>simp only[wo];rw[Ch _ _ (by simp)];rfl
 |some r=>
  have hc:=dD (hr r (jm hg));have h8:=ht.aG;simp only[wo];rw[Ch _ _ (by omega)];rfl
def cH:Wq2->Wq0->Wq2->Wq2
 |r,c::cs,v::vs=>cH (r.set c.toNat v) cs vs
 |r,_,_=>r
theorem Ic:∀(r:Wq2) (cs:Wq0) (vs:Wq2),(cH r cs vs).length=r.length
 |r,[],vs=>by simp[cH]
 |r,c::cs,[]=>by simp[cH]
 |r,c::cs,v::vs=>by simp only[cH];rw[Ic];simp
theorem Mk (n0:Nat) (w:az) (hl:w.ak.length<4294967296) (hc:w.aR.length=w.ak.length):∀(x:Wq0) (i m:Nat) (b:Wq2),w.ak.drop i=x->x.length<m->(∀c∈x,0<=c/\c.toNat<b.length)->
  yh (Hi n0) m w.ak (w.ak.length:Int) (i:Int) w b=some (cH b x (w.aR.drop i))
 | [],i,m+1,b,hd,hm,_=>by
  have hq':w.ak.length<=i:=by simpa using hd
  have hq:¬((i:Int)<(w.ak.length:Int)):=by omega
  simp only[yh,Hj,Hi,hq,decide_false,Bool.false_eq_true,if_false,cH]
 |c::x,i,m+1,b,hd,hm,hb=>by
  obtain ⟨g1,g2,g3⟩:=aX hd;have hq:(i:Int)<(w.ak.length:Int):=by omega
  have hi:i<w.aR.length:=by omega
  have hv:w.aR[i]? =some w.aR[i]:=List.getElem?_eq_getElem _;obtain ⟨c1,c2⟩:=hb c (by simp)
  have b1:bnd b.length c=some c.toNat:=by unfold bnd;rw[if_pos ⟨c1,c2⟩]
  have b2:b[0+c.toNat]? =some (b[c.toNat]):=by rw[Nat.zero_add];exact List.getElem?_eq_getElem _
  have b3:setAt b (0+c.toNat) w.aR[i]=some (b.set c.toNat w.aR[i]):=by rw[Nat.zero_add];unfold setAt;rw[if_pos c2]
  simp at hm;simp only[yh,Hj,hq,decide_true,if_true,aM,g1,hv,Option.bind_some,b1,b2,b3,bz g3 hl];rw[Mk n0 w hl hc x (i+1) m _ g2 (by omega) (fun d hd=>by rw[List.length_set];exact hb d (List.mem_cons_of_mem _ hd)),List.drop_eq_getElem_cons hi]
  simp only[cH]
 |_,_,0,_,_,hm,_=>by simp at hm
theorem Lk (hs:SOK s) {w:az} (hT:idx s.ag w.aq=some T) (h:wOK T w=true) (h2:w.fOp=2):w.ak.length<=100/\w.aR.length=w.ak.length/\∀c∈w.ak,0<=c/\c.toNat<T.ak.length:=by
 have ht:=hs.tab _ _ hT;have k1:=ht.gx;have hlen:=wq hs (w:=w) ⟨T,hT,by omega,h⟩
 simp only[wOK,gM,Bool.and_eq_true] at h;have h:=h.2;rw[if_neg (by omega),if_pos h2] at h
 cases hcl:dL (aW T) (T.au-1) w.ak with
 |none=>rw[hcl] at h;cases h
 |some l=>
  rw[hcl] at h;obtain ⟨a1,a2⟩:=uR ht.ks (by omega) hcl
  have h3:=gR h;refine ⟨hlen,by omega,fun c hc=> ?_⟩
  obtain ⟨i,hi,rfl⟩:=List.mem_iff_getElem.1 hc;have:=a2 i _ (List.getElem?_eq_getElem hi);rw[cR] at this;exact ⟨this.1,this.2.1⟩
theorem ahS (hs:SOK s) {w:az} (hT:idx s.ag w.aq=some T) (h:wOK T w=true) (h2:w.fOp=2) (r:Wq2) (hr:bg (aW T) r=true) (hn:1000<n):F65 n r w=some (cH r w.ak w.aR):=by
 obtain ⟨a1,a2,a3⟩:=Lk hs hT h h2;have hc:=dD hr;have h8:=(hs.tab _ _ hT).aG;unfold F65 Hh;rw[oK _ _ (by omega),Option.bind_some]
 exact Mk n w (by omega) a2 w.ak 0 n r rfl (by omega) (fun c hc'=>by rw[hc];exact a3 c hc')
end
end Go.Proofs.YtmealahmjddpcaaGreatDoor
end
