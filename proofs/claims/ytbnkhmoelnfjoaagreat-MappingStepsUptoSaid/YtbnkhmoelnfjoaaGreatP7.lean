/- Part. -/
import Derived.Test.YtbnkhmoelnfjoaaGreatP6
import Derived.Test.YtbnkhmoelnfjoaaGreatP4
set_option linter.all false
set_option maxRecDepth 100000
open Option renaming some->V,none->G
open Bool renaming true->M,false->I
open Go.Proofs.YtbnkhmoelnfjoaaGreat.ae renaming mk->ad2
open Go.Proofs.YtbnkhmoelnfjoaaGreat.ai renaming mk->ad3
open Decidable renaming decide->iL
open Go.Proofs.YtbnkhmoelnfjoaaGreat.aJ renaming mk->ad4
open ByteArray renaming mk->Bk,empty->A'
open Go.Op renaming bytesLess->N'
open Int renaming reduceBEq->ac1
open Go.IntKind renaming wrap->Y'
open List renaming replicate->V'
noncomputable section
namespace Go.Proofs.YtbnkhmoelnfjoaaGreat
open Go.bM
variable (A:Nat) (B:Int) (D:aE) (E:Int) (F:ai) (f7:bw) (H:Int) (ge:bt) (O:aS) (K:gf) (Y:aE) (L:Nat) (al:bX) (S:Int) (f8:aS) (ac:ai) (am:bL) (ao:ae) (ap:Int->Int) (aq:aP) (ad:Int) (aA:aj->aP->Z aP) (az:aP->aj->Z aP) (W:aj) (aa aB:bI) (af:Nat) (ab:bt) (aI:aP->aj->Z (aP×aP)) (aK:bK) (aQ:dL) (aT:bl) (aU:aP)
variable {c e:Int} {x:bt} {J:Type} {p:aj} {l:gf} {o:bI} {cols:aP} {f:Int->Int} {i:Nat} {q:Int->Bool} {rs:bK} {v:aS} {sv:Bool}
def my (r2 r3:bL) (ch:br):bw:=
 [⟨Bk #[112,114,111,106,101,99,116,115],[⟨Bk #[105,100],4⟩,⟨Bk #[111,119,110,101,114],4⟩],1,[],[]⟩,
  ⟨Bk #[116,97,115,107,115],[⟨Bk #[105,100],B⟩,⟨Bk #[112,114,111,106,101,99,116],4⟩,⟨Bk #[116,105,116,108,101],5⟩,⟨Bk #[100,111,110,101],3⟩],1,am,ch⟩,
  ⟨Bk #[109,101,109,98,101,114,115],[⟨Bk #[112,114,111,106,101,99,116],4⟩,⟨Bk #[112,101,114,115,111,110],4⟩],2,r2,[]⟩,
  ⟨Bk #[97,114,99,104,105,118,101,100],[⟨Bk #[116,97,115,107],B⟩],1,r3,[]⟩]
structure ahZ (v id:Int) (k:Nat) (r1 r2 r3:bL) (ch:br):Prop where
 v0:0<=v
 v1:v<=2
 ji:id=4\/id=5
 hk:k=2\/k=3\/k=4
 h1:r1= []\/r1= [⟨[1],0⟩]
 h2:r2= []\/r2= [⟨[0],0⟩]
 h3:r3= []\/r3= [⟨[0],1⟩]
 hc:ch.length<=1/\tM [id,4,5,3] ch=0/\∀p∈ch,fY p<=119
def M3 (s:ae):Prop:=∃v id k r1 r2 r3 ch,ahZ v id k r1 r2 r3 ch/\s=⟨v,(my id r1 r2 r3 ch).take k⟩
def M3.kj {s:ae} (h:M3 s):fL s=0:=by
 obtain ⟨v,id,k,r1,r2,r3,ch,⟨v0,v1,ji,hk,h1,h2,h3,hc0,hc,_⟩,rfl⟩:=h;have e1:¬8<((my id r1 r2 r3 ch).take k).length:=by rw[dz];simp[my];omega
 have e2:((my id r1 r2 r3 ch).take k).all wI=M:=by
  have hr1:r1.length<=4:=by rcases h1 with rfl|rfl<;>simp
  have hr2:r2.length<=4:=by rcases h2 with rfl|rfl<;>simp
  have hr3:r3.length<=4:=by rcases h3 with rfl|rfl<;>simp
  have qE:ch.length<=4:=by omega
  rcases hk with rfl|rfl|rfl<;>simp[my,wI,hr1,hr2,hr3,qE]
 have e3:r8 [] ((my id r1 r2 r3 ch).take k)=M:=by
  rcases ji with rfl|rfl<;>rcases hk with rfl|rfl|rfl<;>kernel_rfl
 have e4:allRefs ⟨v,(my id r1 r2 r3 ch).take k⟩ ((my id r1 r2 r3 ch).take k)=M:=by
  rcases ji with rfl|rfl<;>rcases hk with rfl|rfl|rfl<;>rcases h1 with rfl|rfl<;>rcases h2 with rfl|rfl<;>rcases h3 with rfl|rfl<;>kernel_rfl
 have e5:Cb ((my id r1 r2 r3 ch).take k)=0:=by
  rcases hk with rfl|rfl|rfl<;>simp[my,Cb,tM,eh,hc]
 unfold fL;simp only[e1,e2,e3,e4,e5,au,aw,show ¬v<0 by omega,show ¬1000<v by omega]
def RB (hn:2000<=A) (fw:A<4294967296) (c:aN) (hc:cV c) (z:ae) (v id:Int) (k:Nat) (r1 r2 r3:bL) (h:ahZ v id k r1 r2 r3 []) (ts:bw) (mH:ts=(my id r1 r2 r3 []).take k) (b5:ae) (Mp:b5.ay=v):
  Ok (KG A c z b5 ts) λr=>cV r.2/\M3 r.1:=by
 unfold KG;refine Ok.bind (sX A c 3 hc) λb hb=> ?_
 refine Ok.ite (λ_=> ?_) λ_=>Ok.pure ⟨hb,v,id,k,r1,r2,r3,[],h,by rw[Mp,mH]⟩
 have hT:idx (ad2 b5.ay ts).ah 1=V ⟨Bk #[116,97,115,107,115],[⟨Bk #[105,100],id⟩,⟨Bk #[112,114,111,106,101,99,116],4⟩,⟨Bk #[116,105,116,108,101],5⟩,⟨Bk #[100,111,110,101],3⟩],1,r1,[]⟩:=by
  rw[mH];rcases h.hk with rfl|rfl|rfl<;>rfl
 rw[TS hT (by simp) (by omega),ak]
 have Bw:nS [id,4,5,3]=M:=by rcases h.ji with rfl|rfl<;>rfl
 refine Ok.bind (aOB [id,4,5,3] [] Bw rfl (by simp) (by simp) 1 A b.2 hb (by omega) fw (by omega) (by omega)) λp ⟨hp,p0,pz⟩=> ?_
 have e1:dX ts.length 1=V 1:=by rw[mH];rcases h.hk with rfl|rfl|rfl<;>rfl
 have e2:ts[0+1]? =V ⟨Bk #[116,97,115,107,115],[⟨Bk #[105,100],id⟩,⟨Bk #[112,114,111,106,101,99,116],4⟩,⟨Bk #[116,105,116,108,101],5⟩,⟨Bk #[100,111,110,101],3⟩],1,r1,[]⟩:=by
  rw[mH];rcases h.hk with rfl|rfl|rfl<;>rfl
 rw[e1,ak,e2,ak];have e3:setAt ts (0+1) ⟨Bk #[116,97,115,107,115],[⟨Bk #[105,100],id⟩,⟨Bk #[112,114,111,106,101,99,116],4⟩,⟨Bk #[116,105,116,108,101],5⟩,⟨Bk #[100,111,110,101],3⟩],1,r1,[p.1]⟩=V ((my id r1 r2 r3 [p.1]).take k):=by
  rw[mH];rcases h.hk with rfl|rfl|rfl<;>rfl
 rw[e3,ak];exact Ok.pure ⟨hp,v,id,k,r1,r2,r3,[p.1],⟨h.v0,h.v1,h.ji,h.hk,h.h1,h.h2,h.h3,by simp,by simp[tM,p0],by simpa using pz⟩,by rw[Mp]⟩
def KF (hn:2000<=A) (fw:A<4294967296) (c:aN) (hc:cV c) (z:ae) (v id:Int) (k:Nat) (r1 r2:bL) (h:ahZ v id k r1 r2 [] []) (ts:bw) (mH:ts=(my id r1 r2 [] []).take k) (b5:ae) (Mp:b5.ay=v):
  Ok (F7 A (k:Int) c z b5 ts) λr=>cV r.2/\M3 r.1:=by
 unfold F7;refine Ok.ite (λhk=> ?_) λ_=>RB A hn fw c hc _ v id k r1 r2 [] h ts mH _ Mp
 have hk:k=4:=by have:=h.hk;simp at hk;omega
 subst hk;refine Ok.bind (sX A c 3 hc) λb hb=> ?_
 refine Ok.ite (λ_=> ?_) λ_=>RB A hn fw b.2 hb _ v id 4 r1 r2 [] h ts mH _ Mp
 subst mH;show Ok (KG A b.2 ⟨0,[]⟩ ⟨b5.ay,(my id r1 r2 [⟨[0],1⟩] []).take 4⟩ ((my id r1 r2 [⟨[0],1⟩] []).take 4)) _;exact RB A hn fw b.2 hb _ v id 4 r1 r2 [⟨[0],1⟩] {h with h3:=.inr rfl} _ rfl _ Mp
def aiR (hn:2000<=A) (fw:A<4294967296) (c:aN) (hc:cV c) (z:ae) (v id:Int) (k:Nat) (r1:bL) (h:ahZ v id k r1 [] [] []) (ts:bw) (mH:ts=(my id r1 [] [] []).take k) (b5:ae) (Mp:b5.ay=v):
  Ok (KD A (k:Int) c z b5 ts) λr=>cV r.2/\M3 r.1:=by
 unfold KD;refine Ok.ite (λhk=> ?_) λ_=>KF A hn fw c hc _ v id k r1 [] h ts mH _ Mp
 refine Ok.bind (sX A c 3 hc) λb hb=> ?_
 refine Ok.ite (λ_=> ?_) λ_=>KF A hn fw b.2 hb _ v id k r1 [] h ts mH _ Mp
 subst mH;have hk:k=3\/k=4:=by have:=h.hk;simp at hk;omega
 rcases hk with rfl|rfl
 ·show Ok (F7 A (3:Nat) b.2 ⟨0,[]⟩ ⟨b5.ay,(my id r1 [⟨[0],0⟩] [] []).take 3⟩ ((my id r1 [⟨[0],0⟩] [] []).take 3)) _;exact KF A hn fw b.2 hb _ v id 3 r1 [⟨[0],0⟩] {h with h2:=.inr rfl} _ rfl _ Mp
 ·show Ok (F7 A (4:Nat) b.2 ⟨0,[]⟩ ⟨b5.ay,(my id r1 [⟨[0],0⟩] [] []).take 4⟩ ((my id r1 [⟨[0],0⟩] [] []).take 4)) _;exact KF A hn fw b.2 hb _ v id 4 r1 [⟨[0],0⟩] {h with h2:=.inr rfl} _ rfl _ Mp
def aiQ (hn:2000<=A) (fw:A<4294967296) (c:aN) (hc:cV c) (z:ae) (id:Int) (ji:id=4\/id=5) (k:Nat) (hk:k=2\/k=3\/k=4):
  Ok (Uf A (k:Int) id c z) λr=>cV r.2/\M3 r.1:=by
 unfold Uf;refine Ok.bind (jT A c 3 hc) λv ⟨hv,v0,v1,_⟩=> ?_
 have v1:=v1 (by omega)
 simp only[EV,asO,ak];have h:∀r1,(r1= []\/r1= [⟨[1],0⟩])->ahZ v.1 id k r1 [] [] []:=λr1 h1=>⟨v0,by omega,ji,hk,h1,.inl rfl,.inl rfl,by simp,rfl,by simp⟩
 have e0:rR 4 (k:Int)=V k:=by unfold rR;rw[aG (by omega)];rfl
 rw[e0,ak];refine Ok.bind (sX A v.2 2 hv) λb hb=> ?_
 refine Ok.ite (λ_=> ?_) λ_=> ?_
 rotate_left
 ·show Ok (KD A (k:Int) b.2 ⟨0,[]⟩ ⟨v.1,(my id [] [] [] []).take k⟩ ((my id [] [] [] []).take k)) _;exact aiR A hn fw b.2 hb _ v.1 id k [] (h [] (.inl rfl)) _ rfl _ rfl
 have e1:dX k 1=V 1:=by rcases hk with rfl|rfl|rfl<;>rfl
 rw[e1,ak];show Ok (KD A (k:Int) b.2 ⟨0,[]⟩ ⟨v.1,(my id [⟨[1],0⟩] [] [] []).take k⟩ ((my id [⟨[1],0⟩] [] [] []).take k)) _;exact aiR A hn fw b.2 hb _ v.1 id k [⟨[1],0⟩] (h _ (.inr rfl)) _ rfl _ rfl
def aON (hn:2000<=A) (fw:A<4294967296) (c:aN) (hc:cV c):Ok (F38 A c) λr=>cV r.2/\M3 r.1:=by
 unfold F38 atw;refine Ok.bind (jT A c 3 hc) λv ⟨hv,v0,v1,_⟩=> ?_
 have v1:=v1 (by omega)
 have e:aW (2+v.1)=((2+v.1.toNat:Nat):Int):=by rw[cU (by omega) (by omega)];omega
 rw[e];refine Ok.bind (sX A v.2 5 hv) λb hb=> ?_
 exact Ok.ite (λ_=>aiQ A hn fw b.2 hb _ 5 (.inr rfl) _ (by omega)) λ_=>aiQ A hn fw b.2 hb _ 4 (.inl rfl) _ (by omega)
def FJ:∀{a b c:List UInt8},N' a b=M->N' b c=M->N' a c=M
 |_,[],_,h,_=>by cases ‹List UInt8› <;>simp[N'] at h
 |_,_::_,[],_,h=>by simp[N'] at h
 | [],_::_,_::_,_,_=>by simp[N']
 |x::a,y::b,z::c,h1,h2=>by
  rw[YI] at h1 h2 ⊢;simp only[sx,jA,bG,sq] at h1 h2 ⊢;rcases h1 with h1|⟨rfl,h1⟩<;>rcases h2 with h2|⟨rfl,h2⟩
  ·exact .inl (UInt8.lt_trans h1 h2)
  ·exact .inl h1
  ·exact .inl h2
  ·exact .inr ⟨rfl,FJ h1 h2⟩
def akn {a b:aS}:lY a b= -1↔a.aD<b.aD\/(a.aD=b.aD/\(a.dh<b.dh\/(a.dh=b.dh/\N' a.cG.toList b.cG.toList=M))):=by
 unfold lY;split
 ·rename_i h;simp[h]
 ·split
  ·rename_i h1 h;constructor
   ·intro h;omega
   ·intro h;omega
  ·have e:a.aD=b.aD:=by omega
   split
   ·rename_i h;simp[e,h]
   ·split
    ·constructor
     ·intro h;omega
     ·intro h;omega
    ·have e2:a.dh=b.dh:=by omega
     split
     ·rename_i h;simp[e,e2,h]
     ·rename_i h;split
      ·constructor
       ·intro h;omega
       ·rintro (h'|⟨_,h'|⟨_,h'⟩⟩)
        ·omega
        ·omega
        ·exact absurd h' h
      ·constructor
       ·intro h;omega
       ·rintro (h'|⟨_,h'|⟨_,h'⟩⟩)
        ·omega
        ·omega
        ·exact absurd h' h
def aoz {a b c:aS} (h1:lY a b= -1) (h2:lY b c= -1):lY a c= -1:=by
 rw[akn] at*;rcases h1 with h1|⟨e1,h1⟩<;>rcases h2 with h2|⟨e2,h2⟩
 ·left;omega
 ·left;omega
 ·left;omega
 ·right;refine ⟨by omega,?_⟩
  rcases h1 with h1|⟨e3,h1⟩<;>rcases h2 with h2|⟨e4,h2⟩
  ·left;omega
  ·left;omega
  ·left;omega
  ·exact .inr ⟨by omega,FJ h1 h2⟩
def Hg {a b:aS} (h:lY a b=0):a=b:=by
 unfold lY at h;split at h
 ·cases h
 ·split at h
  ·cases h
  ·split at h
   ·cases h
   ·split at h
    ·cases h
    ·split at h
     ·cases h
     ·split at h
      ·rename_i h5;obtain ⟨x,y,z⟩:=a;obtain ⟨x',y',z'⟩:=b;simp only at*;rw[show x=x' by omega,show y=y' by omega,h5]
      ·cases h
def uE:∀{x y:bt},dW x y=0->x=y
 | [],[],_=>rfl
 | [],_::_,h=>by simp[dW] at h
 |_::_,[],h=>by simp[dW] at h
 |a::x,b::y,h=>by
  simp only[dW] at h;split at h
  ·rename_i h0;rw[Hg h0,uE h]
  ·exact absurd h (by assumption)
def uD {y:bt}:dW x y=0↔x=y:=⟨uE,λh=>h ▸ te x⟩
def St:∀{x y z:bt},dW x y= -1->dW y z= -1->dW x z= -1
 | [],[],_,h,_=>by simp[dW] at h
 | [],_::_,[],_,h=>by simp[dW] at h
 | [],_::_,_::_,_,_=>by simp[dW]
 |_::_,[],_,h,_=>by simp[dW] at h
 |_::_,_::_,[],_,h=>by simp[dW] at h
 |a::x,b::y,c::z,h1,h2=>by
  simp only[dW] at h1 h2 ⊢;split at h1
  ·rename_i e1;have e1:=Hg e1;subst e1;split at h2
   ·rename_i e2;rw[aG e2];exact St h1 h2
   ·rename_i e2;rw[aC e2];exact h2
  ·split at h2
   ·rename_i e2;have e2:=Hg e2;subst e2;rw[aC (by omega)];exact h1
   ·have:=aoz h1 h2;rw[aC (by omega)];exact this
abbrev fC (T:ai) (r:bt):bt:=r.take T.aH.toNat
def lt:Prop:=dW ge ab= -1
instance (a b:bt):Decidable (lt a b):=inferInstanceAs (Decidable (_=_))
def lt_irrefl:¬lt ge ge:=λh=>by have:=te ge;unfold lt at h;omega
def lt_trans {a b c:bt} (h1:lt a b) (h2:lt b c):lt a c:=St h1 h2
def lt_asymm {a b:bt} (h:lt a b):¬lt b a:=λh'=>lt_irrefl a (lt_trans h h')
def LV:lt ge ab\/ge=ab\/lt ab ge:=by
 rcases Jo ge ab with h|h|h
 ·exact .inl h
 ·exact .inr (.inl (uE h))
 ·exact .inr (.inr (by show dW ab ge= -1;rw[xu ge ab,h]))
def zZ {a b:bt}:dW a b<0↔lt a b:=by
 unfold lt;rcases Jo a b with h|h|h<;>omega
def Ord:Prop:=aK.Pairwise λa b=>lt (fC F a) (fC F b)
def tw (rows:bK):bK:=rows.filter (λr=>iL (lt (fC F r) ge))++aK++rows.filter (λr=>iL (lt ge (fC F r)))
def Ab {T:ai} {k:bt} {N rows:bK} {r:bt}:r∈tw T k N rows↔(r∈rows/\fC T r≠k)\/r∈N:=by
 unfold tw;simp only[eV,nI,jA];constructor
 ·rintro ((⟨h1,h2⟩|h)|⟨h1,h2⟩)
  ·exact .inl ⟨h1,λe=>lt_irrefl _ (e ▸ h2)⟩
  ·exact .inr h
  ·exact .inl ⟨h1,λe=>lt_irrefl _ (e ▸ h2)⟩
 ·rintro (⟨h1,h2⟩|h)
  ·rcases LV (fC T r) k with h|h|h
   ·exact .inl (.inl ⟨h1,h⟩)
   ·exact absurd h h2
   ·exact .inr ⟨h1,h⟩
  ·exact .inl (.inr h)
def afe {T:ai} {k:bt} {N rows:bK} (h:Ord T rows) (hN:N= []\/∃r,N= [r]/\fC T r=k):Ord T (tw T k N rows):=by
 unfold Ord tw at*;have hN1:∀r∈N,fC T r=k:=by
  rcases hN with rfl|⟨r,rfl,e⟩
  ·simp
  ·simpa using e
 rw[NO,NO];refine ⟨⟨h.filter _,?_,λa ha b hb=> ?_⟩,h.filter _,λa ha b hb=> ?_⟩
 ·rcases hN with rfl|⟨r,rfl,e⟩<;>simp
 ·rw[hN1 b hb];simpa using (nI.1 ha).2
 ·have hb:lt k (fC T b):=by simpa using (nI.1 hb).2
  rcases eV.1 ha with ha|ha
  ·exact lt_trans (by simpa using (nI.1 ha).2) hb
  ·rw[hN1 a ha];exact hb
def filter_all {p:J->Bool} {l:List J} (h:∀x∈l,p x=M):l.filter p=l:=yy.2 h
def filter_none {p:J->Bool} {l:List J} (h:∀x∈l,p x=I):l.filter p= []:=su.2 λx hx=>by rw[h x hx];simp
def fS:Int:=if E<0 then (if B<H then H-1 else H) else if H=B then E else if B<E/\B<H/\H<=E then H-1 else if E<B/\E<=H/\H<B then H+1 else H
def PE (h1: -9223372036854775808<=B) (h2:B<=9223372036854775807) (h3: -9223372036854775808<=E) (h4:E<=9223372036854775807):Kt A B E H=V (fS E H B):=by
 have w1:E<B->aW (B-1)=B-1:=λh=>cU (by omega) (by omega)
 have w2:B<E->aW (B+1)=B+1:=λh=>cU (by omega) (by omega)
 unfold Kt akd vR fS;by_cases c1:H<0
 ·by_cases c2:E<B<;>simp[c1,c2,w1]
 ·by_cases c2:B=E
  ·subst c2;simp[c1]
  ·by_cases c3:E<B
   ·have n1:¬B<E:=by omega
    by_cases c4:H<B
    ·have n2:¬B<=H:=by omega
     by_cases c5:E<H<;>by_cases c6:H<E<;>by_cases c7:B<H<;>simp[c1,c2,c3,c4,n1,n2,c5,c6,c7]
    ·have c4':B<=H:=by omega
     have c5:E<H:=by omega
     simp[c1,c2,c3,c4,c4',c5,w1]
   ·have c3':B<E:=by omega
    by_cases c4:B<H
    ·have n2:¬H<=B:=by omega
     by_cases c5:E<H<;>by_cases c6:H<E<;>simp[c1,c2,c3,c4,n2,c5,c6]
    ·have c4':H<=B:=by omega
     have c6:H<E:=by omega
     have c5:¬E<H:=by omega
     simp[c1,c2,c3,c4,c4',c5,c6,c3',w2]
def kN:bI:=if aa.aD==1 then ⟨aa.aD,ap aa.dj,aa.bj⟩ else aa
mutual
def mR (f:Int->Int):aj->aj
 |⟨op,c,l,r,args⟩=>⟨op,c,kN f l,kN f r,jI f args⟩
def jI (f:Int->Int):br->br
 | []=> []
 |x::xs=>mR f x::jI f xs
end
def LR (f:Int->Int):∀xs:br,(jI f xs).length=xs.length
 | []=>by simp[jI]
 |x::xs=>by simp[jI,LR f xs]
def LQ (f:Int->Int):∀xs:br,jI f xs=xs.map (mR f)
 | []=>by simp[jI]
 |x::xs=>by simp[jI,LQ f xs]
mutual
def amC (f:Int->Int):∀p:aj,fY (mR f p)=fY p
 |⟨op,c,l,r,args⟩=>by simp only[mR,fY,afE f args]
def afE (f:Int->Int):∀xs:br,lJ (jI f xs)=lJ xs
 | []=>by simp[jI]
 |x::xs=>by simp only[jI,lJ,amC f x,afE f xs]
end
def BX:Bool:=aa.aD !=1||(iL (0<=aa.dj)&&iL (aa.dj<B))
mutual
def pS (N:Int):aj->Bool
 |⟨op,c,l,r,args⟩=>(if op==3 then BX N l&&BX N r else l.aD !=1&&r.aD !=1)&&LL N args
def LL (N:Int):br->Bool
 | []=>M
 |x::xs=>pS N x&&LL N xs
end
def Yc {N:Int}:∀{xs:br} {x:aj},LL N xs=M->x∈xs->pS N x=M
 |y::ys,x,h,hx=>by
  simp only[LL,bG] at h;rcases da.1 hx with rfl|hx
  ·exact h.1
  ·exact Yc h.2 hx
def SF (h:CC o=M):o.aD=0:=by
 simp[CC] at h;exact h.1
def P7 {l r:bI} (h:lL c l r=M):l.aD=0/\r.aD=0:=by
 simp only[lL,bG] at h;exact ⟨SF h.1.2,SF h.2⟩
def afz {params:aP} (h:lS cols params o≠0):BX cols.length o=M:=by
 unfold BX;by_cases h1:o.aD=1
 ·have h:kAt cols o≠0:=by
   unfold lS at h;simpa[h1] using h
  unfold kAt at h;split at h
  ·rename_i hh;simp[h1,hh.1,hh.2.1]
  ·exact absurd rfl h
 ·simp[h1]
mutual
def aDm {cols params:aP}:∀{p:aj},pV cols params p=M->pS cols.length p=M
 |⟨op,c,l,r,args⟩,h=>by
  unfold pV at h;unfold pS;by_cases h1:op=1\/op=2
  ·have cQ:(op==3)=I:=by rcases h1 with rfl|rfl<;>rfl
   have hb:(op==1||op==2)=M:=by rcases h1 with rfl|rfl<;>rfl
   rw[hb] at h;simp only[aw,bG] at h;let ⟨k1,k2⟩:=P7 h.1;have ha:args= []:=by simpa using h.2
   rw[cQ,ha];simp[k1,k2,LL]
  ·have hb:(op==1||op==2)=I:=by
    rw[acI];simp;omega
   rw[hb] at h;simp only[ax,au] at h;by_cases h3:op=3
   ·subst h3;simp at h;have ha:args= []:=h.1.1.1.1;rw[ha];have k1:=afz (cols:=cols) (params:=params) (o:=l) h.1.2;have k2:=afz (cols:=cols) (params:=params) (o:=r) (by rw[<-h.2];exact h.1.2)
    simp[k1,k2,LL]
   ·have cQ:(op==3)=I:=by simpa using h3
    rw[cQ] at h ⊢;simp only[ax,au] at h ⊢;have key:lL c l r=M/\rj cols params args=M:=by
     split at h
     ·simpa using h
     ·split at h
      ·simp only[bG] at h;exact h.2
      ·cases h
    let ⟨k1,k2⟩:=P7 key.1;rw[ama key.2,k1,k2];rfl
def ama {cols params:aP}:∀{xs:br},rj cols params xs=M->LL cols.length xs=M
 | [],_=>by simp[LL]
 |x::xs,h=>by
  simp only[rj,bG] at h;simp only[LL,aDm h.1,ama h.2,pT]
end
def yg (h:o.aD≠1):kN f o=o:=by
 unfold kN;rw[aC (by simpa using h)]
def aof:∀(n:Nat) (p:aj),fY p<=n->fY p<1000000->Ks n p=V p
 |0,⟨_,_,_,_,_⟩,h,_=>by simp[fY] at h
 |n+1,⟨op,c,l,r,args⟩,h,hb=>by
  simp only[fY] at h hb;have hlen:=qR args;have loop:∀(k3:aj->aj->br->Z aj) (xs:br) (i k:Nat) (b4 b5:aj),args.drop i=xs->xs.length<k->
    ∃BG BF,BF.bf=b5.bf/\BF.fA=b5.fA/\BF.cO=b5.cO/\BF.cj=b5.cj/\Ir (Ks n) k3 k args (args.length:Int) (i:Int) b4 b5 (args.take i)=k3 BG BF args:=by
   intro k3 xs;induction xs with
   |nil=>
    intro i k b4 b5 hd hk;let ⟨hi,hq⟩:=eA hd
    cases k with
    |zero=>simp at hk
    |succ k=>exact ⟨aj.mk b4.bf b4.fA b4.cO b4.cj [],aj.mk b5.bf b5.fA b5.cO b5.cj args,rfl,rfl,rfl,rfl,by simp[Ir,U5,hq,jz hi]⟩
   |cons x xs ih=>
    intro i k b4 b5 hd hk;let ⟨g1,g2,g3,hq⟩:=dK hd
    cases k with
    |zero=>simp at hk
    |succ k=>
     have hx:x∈args:=bQ g1;have hs:=uy hx;have ht:args.take i++ [x]=args.take (i+1):=by rw[pU,g1];rfl
     let ⟨BG,BF,e1,e2,e3,e4,e5⟩:=ih (i+1) k (aj.mk b4.bf b4.fA b4.cO b4.cj []) (aj.mk b5.bf b5.fA b5.cO b5.cj (args.take (i+1))) g2 (by simp at hk;omega)
     refine ⟨BG,BF,e1,e2,e3,e4,?_⟩;simp only[Ir,U5,hq,aO,aw,bB,g1,ak,aof n x (by omega) (by omega),dx (args.take i) [x] (by simp;omega),ht,bT g3 (by omega:args.length<4294967296),e5]
  have fin:∀(b2 b4 b5:aj),b2.fArgs=args->Ns (Ks n) n b2 b4 b5=V ⟨b5.bf,b5.fA,b5.cO,b5.cj,args⟩:=by
   intro b2 b4 b5 ha;let ⟨BG,BF,e1,e2,e3,e4,e5⟩:=loop (U4 (Ks n) n) args 0 n rV (aj.mk b5.bf b5.fA b5.cO b5.cj []) rfl (by omega)
   unfold Ns;rw[ha];refine e5.trans ?_;unfold U4;rw[e1,e2,e3,e4]
  have f3:∀(b2 b4 b5:aj),b2.fArgs=args->Nr (Ks n) n b2 b4 b5=V ⟨b5.bf,b5.fA,b5.cO,b5.cj,args⟩:=by
   intro b2 b4 b5 ha;unfold Nr;split
   ·rw[show ∀c,aiz n c=V c from λ_=>rfl,ak]
    exact fin b2 _ _ ha
   ·exact fin b2 _ _ ha
  unfold Ks ajK;split
  ·rw[show ∀c,aiz n c=V c from λ_=>rfl,ak]
   exact f3 ⟨op,c,l,r,args⟩ _ _ rfl
  ·exact f3 ⟨op,c,l,r,args⟩ _ _ rfl
def kW:Int:=
 if D.bf=2 then (if E<0 then E else if E=D.aY then -1 else if D.aY<E then E-1 else E)
 else if D.bf=3 then (if E<0 then E else if E=D.aY then D.kr else if D.aY<E/\E<=D.kr then E-1 else if D.kr<=E/\E<D.aY then E+1 else E)
 else E
def mU:Prop:= -9223372036854775808<=B/\B<=9223372036854775807
def aod (hi:mU B) (ha:mU E):ass A B E H=V (if B=E then H else if E<B/\B<=H then B-1 else if H<=B/\B<E then B+1 else B):=by
 let ⟨h1,h2⟩:=hi;let ⟨h3,h4⟩:=ha;have w1:E<B->aW (B-1)=B-1:=λh=>cU (by omega) (by omega)
 have w2:B<E->aW (B+1)=B+1:=λh=>cU (by omega) (by omega)
 unfold ass ajy I0;by_cases c2:B=E
 ·subst c2;simp
 ·by_cases c3:E<B
  ·have n1:¬B<E:=by omega
   by_cases c4:H<B
   ·have n2:¬B<=H:=by omega
    by_cases c7:B<H<;>simp[c2,c3,c4,n1,n2,c7]
   ·have c4':B<=H:=by omega
    simp[c2,c3,c4,c4',w1]
  ·have c3':B<E:=by omega
   by_cases c4:B<H
   ·have n2:¬H<=B:=by omega
    simp[c2,c3,c4,n2]
   ·have c4':H<=B:=by omega
    simp[c2,c3,c4,c4',c3',w2]
def anO (g:aJ) (gu:g.fm.bf=2\/g.fm.bf=3) (hc:mU B) (ha:mU g.fm.aY):Rs A B g=V (kW g.fm B):=by
 let ⟨h1,h2⟩:=hc;let ⟨h3,h4⟩:=ha;unfold Rs aiV Y4 VG kW;rcases gu with h|h
 ·have n7:¬g.fm.bf=7:=by omega
  by_cases c1:B<0
  ·simp[h,c1]
  ·by_cases c2:B=g.fm.aY
   ·simp[h,c1,c2];have:0<=g.fm.aY:=by omega
    simp[this];intro;omega
   ·by_cases c3:g.fm.aY<B
    ·simp[h,c1,c2,c3,cU (x:=B-1) (by omega) (by omega)]
    ·simp[h,c1,c2,c3]
 ·by_cases c1:B<0
  ·simp[h,c1]
  ·have:=aod A B g.fm.aY g.fm.kr ⟨h1,h2⟩ ⟨h3,h4⟩;simp only[h,this,c1,ak,iz,aR,gq,aw,au,show ((3:Int)==7)=I from rfl,show ((3:Int)==2)=I from rfl,show ¬(3:Int)=2 by omega,ax]
def aiE (N:Int) (hN:N<=1000) (g:aJ) (gu:g.fm.bf=2\/g.fm.bf=3) (ha:mU g.fm.aY):∀(n:Nat) (p:aj),fY p<=n->fY p<1000000->pS N p=M->CV n p g=V (mR (kW g.fm) p)
 |0,⟨_,_,_,_,_⟩,h,_,_=>by simp[fY] at h
 |n+1,⟨op,c,l,r,args⟩,h,hb,hp=>by
  simp only[fY] at h hb;have hlen:=qR args;have hml:=LR (kW g.fm) args;simp only[pS,bG] at hp;let ⟨rZ,hp2⟩:=hp;have hF:∀o:bI,(if op==3 then BX N o=M else o.aD≠1)->o.aD=1->Rs n o.dj g=V (kW g.fm o.dj):=λo ho hk=>by
   split at ho
   ·simp[BX,hk] at ho;exact anO n _ g gu ⟨by omega,by omega⟩ ha
   ·exact absurd hk ho
  have hl:(if op==3 then BX N l=M else l.aD≠1):=by
   split at rZ
   ·rename_i q;simp only[bG] at rZ;rw[aG q];exact rZ.1
   ·rename_i q;simp at rZ;rw[aC q];exact rZ.1
  have hr:(if op==3 then BX N r=M else r.aD≠1):=by
   split at rZ
   ·rename_i q;simp only[bG] at rZ;rw[aG q];exact rZ.2
   ·rename_i q;simp at rZ;rw[aC q];exact rZ.2
  have loop:∀(k3:aJ->aj->aj->br->Z aj) (xs:br) (i k:Nat) (b4 b5:aj),args.drop i=xs->xs.length<k->
    ∃BG BF,BF.bf=b5.bf/\BF.fA=b5.fA/\BF.cO=b5.cO/\BF.cj=b5.cj/\Dn (CV n) k3 k args (args.length:Int) (i:Int) g b4 b5 ((jI (kW g.fm) args).take i)=k3 g BG BF (jI (kW g.fm) args):=by
   intro k3 xs;induction xs with
   |nil=>
    intro i k b4 b5 hd hk;let ⟨hi,hq⟩:=eA hd
    cases k with
    |zero=>simp at hk
    |succ k=>exact ⟨aj.mk b4.bf b4.fA b4.cO b4.cj [],aj.mk b5.bf b5.fA b5.cO b5.cj (jI (kW g.fm) args),rfl,rfl,rfl,rfl,by simp[Dn,PZ,hq,jz (show (jI (kW g.fm) args).length<=i by omega)]⟩
   |cons x xs ih=>
    intro i k b4 b5 hd hk;let ⟨g1,g2,g3,hq⟩:=dK hd
    cases k with
    |zero=>simp at hk
    |succ k=>
     have hx:x∈args:=bQ g1;have hs:=uy hx;have ht:(jI (kW g.fm) args).take i++ [mR (kW g.fm) x]=(jI (kW g.fm) args).take (i+1):=by
      rw[pU,LQ,nQ,g1];rfl
     let ⟨BG,BF,e1,e2,e3,e4,e5⟩:=ih (i+1) k (aj.mk b4.bf b4.fA b4.cO b4.cj []) (aj.mk b5.bf b5.fA b5.cO b5.cj ((jI (kW g.fm) args).take (i+1))) g2 (by simp at hk;omega)
     refine ⟨BG,BF,e1,e2,e3,e4,?_⟩;simp only[Dn,PZ,hq,aO,aw,bB,g1,ak,aiE N hN g gu ha n x (by omega) (by omega) (Yc hp2 hx),dx ((jI (kW g.fm) args).take i) [mR (kW g.fm) x] (by simp;omega),ht,bT g3 (by omega:args.length<4294967296),e5]
  have fin:∀(b2 b4 b5:aj),b2.fArgs=args->I5 (CV n) n g b2 b4 b5=V ⟨b5.bf,b5.fA,b5.cO,b5.cj,jI (kW g.fm) args⟩:=by
   intro b2 b4 b5 ha;let ⟨BG,BF,e1,e2,e3,e4,e5⟩:=loop (PY (CV n) n) args 0 n rV (aj.mk b5.bf b5.fA b5.cO b5.cj []) rfl (by omega)
   unfold I5;rw[ha];refine e5.trans ?_;unfold PY;rw[e1,e2,e3,e4]
  have f3:∀(b2 b4 b5:aj),b2.fArgs=args->b5.cj=r->I4 (CV n) n g b2 b4 b5=V ⟨b5.bf,b5.fA,b5.cO,kN (kW g.fm) r,jI (kW g.fm) args⟩:=by
   intro b2 b4 b5 ha hr5;unfold I4 kN;rw[hr5];split
   ·rename_i hk;rw[hF r hr (by simpa using hk),ak]
    exact fin b2 _ _ ha
   ·rw[<-hr5];exact fin b2 _ _ ha
  unfold CV Zb;simp only[mR];split
  ·rename_i hk;rw[hF l hl (by simpa using hk),ak,f3 ⟨op,c,l,r,args⟩ _ _ rfl rfl]
   unfold kN;rw[aG hk]
  ·rename_i hk;rw[f3 ⟨op,c,l,r,args⟩ _ _ rfl rfl,yg (o:=l) (by simpa using hk)]
def anU (N:Int) (hN:N<=1000) (a b:Int) (ha:mU a):∀(n:Nat) (p:aj),fY p<=n->fY p<1000000->pS N p=M->GO n p a b=V (mR (fS a b) p)
 |0,⟨_,_,_,_,_⟩,h,_,_=>by simp[fY] at h
 |n+1,⟨op,c,l,r,args⟩,h,hb,hp=>by
  simp only[fY] at h hb;have hlen:=qR args;have hml:=LR (fS a b) args;simp only[pS,bG] at hp;let ⟨rZ,hp2⟩:=hp;have loop:∀(k3:aj->aj->br->Z aj) (xs:br) (i k:Nat) (b3 b6:aj),args.drop i=xs->xs.length<k->
    ∃b6',Ih (GO n) k3 k a b args (args.length:Int) (i:Int) b3 b6 ((jI (fS a b) args).take i)=k3 b3 b6' (jI (fS a b) args):=by
   intro k3 xs;induction xs with
   |nil=>
    intro i k b3 b6 hd hk;let ⟨hi,hq⟩:=eA hd
    cases k with
    |zero=>simp at hk
    |succ k=>exact ⟨aj.mk b6.bf b6.fA b6.cO b6.cj [],by simp[Ih,UI,hq,jz (show (jI (fS a b) args).length<=i by omega)]⟩
   |cons x xs ih=>
    intro i k b3 b6 hd hk;let ⟨g1,g2,g3,hq⟩:=dK hd
    cases k with
    |zero=>simp at hk
    |succ k=>
     have hx:x∈args:=bQ g1;have hs:=uy hx;have ht:(jI (fS a b) args).take i++ [mR (fS a b) x]=(jI (fS a b) args).take (i+1):=by
      rw[pU,LQ,nQ,g1];rfl
     let ⟨b6',e5⟩:=ih (i+1) k b3 (aj.mk b6.bf b6.fA b6.cO b6.cj []) g2 (by simp at hk;omega)
     refine ⟨b6',?_⟩;simp only[Ih,UI,hq,aO,aw,bB,g1,ak,anU N hN a b ha n x (by omega) (by omega) (Yc hp2 hx),dx ((jI (fS a b) args).take i) [mR (fS a b) x] (by simp;omega),ht,bT g3 (by omega:args.length<4294967296),e5]
  have fin:∀(b3 b6:aj),b3.fArgs=args->EY (GO n) n a b b3 b6=V ⟨b3.bf,b3.fA,b3.cO,b3.cj,jI (fS a b) args⟩:=by
   intro b3 b6 hb3;let ⟨b6',e5⟩:=loop (ajj (GO n) n) args 0 n b3 rV rfl (by omega)
   unfold EY;rw[hb3];exact e5
  unfold GO aji;simp only[mR];by_cases h3:op=3
  ·subst h3;simp only[iz,aw,bG] at rZ ⊢;have hF:∀o:bI,BX N o=M->o.aD=1->Kt n o.dj a b=V (fS a b o.dj):=λo ho hk=>by
    simp[BX,hk] at ho;exact PE n _ a b (by omega) (by omega) ha.1 ha.2
   have f0:∀(b3 b6:aj),b3.fArgs=args->b3.cj=r->Nk (GO n) (EY (GO n) n) n a b b3 b6=V ⟨b3.bf,b3.fA,b3.cO,kN (fS a b) r,jI (fS a b) args⟩:=by
    intro b3 b6 hb3 hr5;unfold Nk kN;rw[hr5];split
    ·rename_i hk;rw[hF r rZ.2 (by simpa using hk),ak]
     exact fin _ _ hb3
    ·rw[<-hr5];exact fin b3 _ hb3
   split
   ·rename_i hk;rw[hF l rZ.1 (by simpa using hk),ak,f0 _ _ rfl rfl]
    unfold kN;rw[aG hk]
   ·rename_i hk;rw[f0 _ _ rfl rfl,yg (o:=l) (by simpa using hk)]
  ·have cQ:(op==3)=I:=by simpa using h3
   rw[cQ] at rZ ⊢;simp at rZ;simp only[ax,au];rw[fin _ _ rfl,yg rZ.1,yg rZ.2]
def fI {n:Nat} (h:i<n):dX n (i:Int)=V i:=by
 unfold dX;rw[aG ⟨by omega,by omega⟩];rfl
def dD {xs:List J} (x:J) (h:i<xs.length):setAt xs i x=V (xs.set i x):=by
 unfold setAt;rw[aG h]
def fM {J:Type} (f:J->J) (l:List J) (j:Nat):List J:=(l.take j).map f++l.drop j
def lC (f:J->J) (l:List J) (j:Nat):(fM f l j).length=l.length:=by
 simp[fM];omega
def yH (f:J->J) (l:List J):fM f l 0=l:=by simp[fM]
def tC (f:J->J) (l:List J) {j:Nat} (h:l.length<=j):fM f l j=l.map f:=by
 simp[fM,jz h,p7 h]
def mP (f:J->J) {l:List J} {j:Nat} {x:J} (h:l[j]? =V x):(fM f l j)[j]? =V x:=by
 have hl:=(bO.1 h).1;unfold fM;rw[nF (by simp;omega),mL,dz,fo (by omega),qX,fp]
 exact h
def tz (f:J->J) {l:List J} {j:Nat} {x:J} (h:l[j]? =V x):(fM f l j).set j (f x)=fM f l (j+1):=by
 have hl:=(bO.1 h).1;unfold fM;rw[vW _ _ (by simp;omega),mL,dz,fo (by omega),qX,pU,h,sr hl,List.set_cons_zero]
 have:l[j]=x:=by rw[cZ hl] at h;exact kR h
 simp
def ga:bl:=⟨aT.ag.map ap,aT.av⟩
def uK (T:ai):ai:=⟨T.aM,T.ag,T.aH,T.ar.map (ga ap),T.aL.map (mR ap)⟩
structure AU (r:bl):Prop where
 len:r.ag.length<=1000
 rng:∀c∈r.ag,mU c
structure TOK (N:Int) (T:ai):Prop where
 cols:T.ag.length<=1000
 refs:T.ar.length<=1000
 ref:∀r∈T.ar,AU r
 Ca:T.aL.length<=1000
 kj:∀p∈T.aL,pS N p=M/\fY p<=1000
def td {l:List J} {x:J} (h:l[i]? =V x):l.take i++ [x]=l.take (i+1):=by rw[pU,h];rfl
def aaa (k:ai->ai->cY->bL->Z ai) (rs:bL) (hl:rs.length<=1000) (hr:∀r∈rs,AU r) (b6:cY):∀(x:bL) (i m:Nat) (b1 b2:ai),rs.drop i=x->x.length<m->
  Iy k m rs (rs.length:Int) (i:Int) b1 b2 b6 (rs.take i)=k (ad3 b1.aM b6 b1.aH b1.ar b1.aL) (ad3 b2.aM [] b2.aH [] []) b6 rs
 | [],i,m+1,b1,b2,hd,hm=>by
  let ⟨hi,hq⟩:=eA hd
  simp only[Iy,Vo,hq,aR,ax,au,jz hi]
 |r::x,i,m+1,b1,b2,hd,hm=>by
  let ⟨g1,g2,g3,hq⟩:=dK hd
  have lA:=hr r (bQ g1);have ih:=aaa k rs hl hr b6 x (i+1) m (ad3 b1.aM b6 b1.aH b1.ar b1.aL) (ad3 b2.aM [] b2.aH [] []) g2 (by simp at hm;omega)
  have e1:(rs.take i).length=i:=by simp;omega
  simp only[Iy,Vo,hq,aO,aw,bB,g1,ak,dx [] r.ag (by have:=lA.len;simp;omega),jy,dx (rs.take i) [r] (by simp;omega),td g1,bT g3 (by omega)]
  rw[e1,dD _ (by simp;omega),ak]
  have e2:(rs.take (i+1)).set i r=rs.take (i+1):=by
   rw[<-td g1,vW _ _ (by omega)]
   simp[e1]
  rw[e2];exact ih
 |_,_,0,_,_,_,hm=>by simp at hm
def Y1 (hT:F.ag.length<=1000/\F.ar.length<=1000/\F.aL.length<=1000) (hr:∀r∈F.ar,AU r) (hn:2000<A):aiC A F=V F:=by
 unfold aiC ajQ;rw[dx _ _ (by simp;omega),ak,jy]
 refine (aaa (Vn A) F.ar hT.2.1 hr F.ag F.ar 0 A _ _ rfl (by omega)).trans ?_
 unfold Vn;rw[dx _ _ (by simp;omega)]
 rfl
def ahu (k:ai->ai->ai->cY->bL->Z ai) (rs:bL) (hl:rs.length<=1000) (hr:∀r∈rs,AU r) (b1:ai) (cx:cY):∀(x:bL) (i m:Nat) (b2 b3:ai),rs.drop i=x->x.length<m->
  O4 k m rs (rs.length:Int) (i:Int) b1 b2 b3 cx (rs.take i)=k b1 (ad3 b2.aM [] b2.aH [] []) (ad3 b3.aM cx b3.aH rs []) cx rs
 | [],i,m+1,b2,b3,hd,hm=>by
  let ⟨hi,hq⟩:=eA hd
  simp only[O4,abl,hq,aR,ax,au,jz hi]
 |r::x,i,m+1,b2,b3,hd,hm=>by
  let ⟨g1,g2,g3,hq⟩:=dK hd
  have lA:=hr r (bQ g1);have ih:=ahu k rs hl hr b1 cx x (i+1) m (ad3 b2.aM [] b2.aH [] []) (ad3 b3.aM cx b3.aH (rs.take (i+1)) []) g2 (by simp at hm;omega)
  have e1:(rs.take i).length=i:=by simp;omega
  simp only[O4,abl,hq,aO,aw,bB,g1,ak,dx [] r.ag (by have:=lA.len;simp;omega),jy,dx (rs.take i) [r] (by simp;omega),td g1,bT g3 (by omega)]
  rw[e1,dD _ (by simp;omega),ak]
  have e2:(rs.take (i+1)).set i r=rs.take (i+1):=by
   rw[<-td g1,vW _ _ (by omega)]
   simp[e1]
  rw[e2];exact ih
 |_,_,0,_,_,_,hm=>by simp at hm
def aht (k:ai->ai->cY->br->bL->Z ai) (ps:br) (hl:ps.length<=1000) (hp:∀p∈ps,fY p<=1000) (cx:cY) (rs:bL):∀(x:br) (i m:Nat) (b2 b3:ai),ps.drop i=x->x.length+1000<m->
  O3 k m ps (ps.length:Int) (i:Int) b2 b3 cx (ps.take i) rs=k (ad3 b2.aM [] b2.aH [] []) (ad3 b3.aM cx b3.aH rs ps) cx ps rs
 | [],i,m+1,b2,b3,hd,hm=>by
  let ⟨hi,hq⟩:=eA hd
  simp only[O3,abk,hq,aR,ax,au,jz hi]
 |p::x,i,m+1,b2,b3,hd,hm=>by
  let ⟨g1,g2,g3,hq⟩:=dK hd
  have Bt:=hp p (bQ g1);simp at hm;have ih:=aht k ps hl hp cx rs x (i+1) m (ad3 b2.aM [] b2.aH [] []) (ad3 b3.aM cx b3.aH rs (ps.take (i+1))) g2 (by omega)
  simp only[O3,abk,hq,aO,aw,bB,g1,ak,aof m p (by omega) (by omega),dx (ps.take i) [p] (by simp;omega),td g1,bT g3 (by omega)]
  exact ih
 |_,_,0,_,_,_,hm=>by simp at hm
def ayJ (hT:F.ag.length<=1000/\F.ar.length<=1000/\F.aL.length<=1000) (hr:∀r∈F.ar,AU r) (hp:∀p∈F.aL,fY p<=1000) (hn:4000<A):F96 A F=V F:=by
 unfold F96 asK;rw[dx _ _ (by simp;omega),ak,jy]
 refine (ahu (abj A) F.ar hT.2.1 hr F F.ag F.ar 0 A _ _ rfl (by omega)).trans ?_
 unfold abj;refine (aht (asL A) F.aL hT.2.2 hp F.ag F.ar F.aL 0 A _ _ rfl (by omega)).trans ?_
 rfl
structure GP (T:ai):Prop where
 len:T.ag.length<=1000/\T.ar.length<=1000/\T.aL.length<=1000
 ref:∀r∈T.ar,AU r
 kj:∀p∈T.aL,fY p<=1000
def ahH (k:ae->ae->bw->Z ae) (ts:bw) (hl:ts.length<=1000) (ht:∀T∈ts,GP T):∀(x:bw) (i m:Nat) (b2 b3:ae),ts.drop i=x->x.length+4000<m->
  Pn k m ts (ts.length:Int) (i:Int) b2 b3 (ts.take i)=k (ad2 b2.ay []) (ad2 b3.ay ts) ts
 | [],i,m+1,b2,b3,hd,hm=>by
  let ⟨hi,hq⟩:=eA hd
  simp only[Pn,aca,hq,aR,ax,au,jz hi]
 |T::x,i,m+1,b2,b3,hd,hm=>by
  let ⟨g1,g2,g3,hq⟩:=dK hd
  have hT:=ht T (bQ g1);simp at hm;have ih:=ahH k ts hl ht x (i+1) m (ad2 b2.ay []) (ad2 b3.ay (ts.take (i+1))) g2 (by omega)
  have e1:(ts.take i).length=i:=by simp;omega
  simp only[Pn,aca,hq,aO,aw,bB,g1,ak,ayJ m T hT.len hT.ref hT.kj (by omega),dx (ts.take i) [T] (by simp;omega),td g1,bT g3 (by omega)]
  rw[e1,dD _ (by simp;omega),ak]
  have e2:(ts.take (i+1)).set i T=ts.take (i+1):=by
   rw[<-td g1,vW _ _ (by omega)]
   simp[e1]
  rw[e2];exact ih
 |_,_,0,_,_,_,hm=>by simp at hm
def ayO (hl:ao.ah.length<=1000) (ht:∀T∈ao.ah,GP T) (hn:6000<A):F41 A ao=V ao:=by
 unfold F41 att;exact ahH (atu A) ao.ah hl ht ao.ah 0 A _ _ rfl (by omega)
def Z5 (k:Int->Int->Int->Int->cY->br->ai->ai->bL->Z (ai×cY×bL×br)) (a b:Int) (ha:mU a) (cols:aP) (hl:cols.length<=1000) (hc:∀c∈cols,mU c) (t13 t14:Int) (cs:cY) (ch:br) (refs:bL) (ri:Nat):∀(x:aP) (j m:Nat) (b3 b6:ai) (b8 rr:bl),cols.drop j=x->x.length<m->
  Iv k m a b t13 t14 (cols.length:Int) (j:Int) cs ch b3 b6 b8 (fM (fS a b) cols j) refs rr ri=((setAt refs ri (bl.mk (cols.map (fS a b)) rr.av)).bind λz2=>k a b t13 t14 cs ch (ad3 b3.aM cs b3.aH z2 ch) (ad3 b6.aM [] b6.aH [] []) z2)
 | [],j,m+1,b3,b6,b8,rr,hd,hm=>by
  let ⟨hi,hq⟩:=eA hd
  simp only[Iv,Ve,hq,aR,ax,au,tC _ _ hi]
 |c::x,j,m+1,b3,b6,b8,rr,hd,hm=>by
  let ⟨g1,g2,g3,hq⟩:=dK hd
  have nL:=hc c (bQ g1);have ih:=Z5 k a b ha cols hl hc t13 t14 cs ch refs ri x (j+1) m (ad3 b3.aM cs b3.aH refs ch) (ad3 b6.aM [] b6.aH [] []) (bl.mk (fM (fS a b) cols (j+1)) b8.av) (bl.mk [] rr.av) g2 (by simp at hm;omega)
  have hb:dX (fM (fS a b) cols j).length (j:Int)=V j:=fI (by rw[lC];exact g3)
  simp only[Iv,Ve,hq,aO,aw,hb,ak,cg,mP _ g1,PE m c a b nL.1 nL.2 ha.1 ha.2,dD _ (show j<(fM (fS a b) cols j).length by rw[lC];exact g3),tz _ g1,bT g3 (by omega)]
  exact ih
 |_,_,0,_,_,_,_,_,hm=>by simp at hm
def Z4 (k:Int->Int->cY->br->ai->ai->bL->Z (ai×cY×bL×br)) (a b:Int) (ha:mU a) (rs:bL) (hl:rs.length<=1000) (hr:∀r∈rs,AU r) (cs:cY) (ch:br):∀(x:bL) (i m:Nat) (b3 b6:ai),rs.drop i=x->x.length+1000<m->
  EM k m a b (rs.length:Int) (i:Int) cs ch b3 b6 (fM (ga (fS a b)) rs i)=k a b cs ch (ad3 b3.aM cs b3.aH (rs.map (ga (fS a b))) ch) (ad3 b6.aM [] b6.aH [] []) (rs.map (ga (fS a b)))
 | [],i,m+1,b3,b6,hd,hm=>by
  let ⟨hi,hq⟩:=eA hd
  simp only[EM,Vc,hq,aR,ax,au,tC _ _ hi]
 |r::x,i,m+1,b3,b6,hd,hm=>by
  let ⟨g1,g2,g3,hq⟩:=dK hd
  have lA:=hr r (bQ g1);simp at hm;have ih:=Z4 k a b ha rs hl hr cs ch x (i+1) m (ad3 b3.aM cs b3.aH (fM (ga (fS a b)) rs (i+1)) ch) (ad3 b6.aM [] b6.aH [] []) g2 (by omega)
  have hb:dX (fM (ga (fS a b)) rs i).length (i:Int)=V i:=fI (by rw[lC];exact g3)
  have inner:=Z5 (Vd (EM k m) m) a b ha r.ag lA.len lA.rng (rs.length:Int) (i:Int) cs ch (fM (ga (fS a b)) rs i) i r.ag 0 m (ad3 b3.aM cs b3.aH (fM (ga (fS a b)) rs i) ch) (ad3 b6.aM [] b6.aH [] []) r (bl.mk [] r.av) rfl (by have:=lA.len;omega)
  rw[yH,dD _ (show i<(fM (ga (fS a b)) rs i).length by rw[lC];exact g3),ak] at inner
  have e:(fM (ga (fS a b)) rs i).set i (bl.mk (r.ag.map (fS a b)) r.av)=fM (ga (fS a b)) rs (i+1):=tz (ga (fS a b)) g1;rw[show (bl.mk ([]:aP) r.av).av=r.av from rfl,e] at inner;simp only[EM,Vc,hq,aO,aw,hb,ak,cg,mP _ g1];refine inner.trans ?_;simp only[Vd,bT g3 (by omega:rs.length<4294967296)]
  exact ih
 |_,_,0,_,_,_,hm=>by simp at hm
def Z3 (k:cY->br->ai->ai->bL->Z (ai×cY×bL×br)) (N:Int) (hN:N<=1000) (a b:Int) (ha:mU a) (ps:br) (hl:ps.length<=1000) (hp:∀p∈ps,pS N p=M/\fY p<=1000) (cs:cY) (refs:bL):∀(x:br) (i m:Nat) (b3 b6:ai),ps.drop i=x->x.length+1000<m->
  Iu k m a b (ps.length:Int) (i:Int) cs (fM (mR (fS a b)) ps i) b3 b6 refs=k cs (ps.map (mR (fS a b))) (ad3 b3.aM cs b3.aH refs (ps.map (mR (fS a b)))) (ad3 b6.aM [] b6.aH [] []) refs
 | [],i,m+1,b3,b6,hd,hm=>by
  let ⟨hi,hq⟩:=eA hd
  simp only[Iu,Vb,hq,aR,ax,au,tC _ _ hi]
 |p::x,i,m+1,b3,b6,hd,hm=>by
  let ⟨g1,g2,g3,hq⟩:=dK hd
  have Bt:=hp p (bQ g1);simp at hm;have ih:=Z3 k N hN a b ha ps hl hp cs refs x (i+1) m (ad3 b3.aM cs b3.aH refs (fM (mR (fS a b)) ps (i+1))) (ad3 b6.aM [] b6.aH [] []) g2 (by omega)
  have hb:dX (fM (mR (fS a b)) ps i).length (i:Int)=V i:=fI (by rw[lC];exact g3)
  simp only[Iu,Vb,hq,aO,aw,hb,ak,cg,mP _ g1,anU N hN a b ha m p (by omega) (by omega) Bt.1,dD _ (show i<(fM (mR (fS a b)) ps i).length by rw[lC];exact g3),tz _ g1,bT g3 (by omega)]
  exact ih
 |_,_,0,_,_,_,hm=>by simp at hm
def PB (hN:H<=1000) (hT:TOK H F) (a b:Int) (ha:mU a) (hn:3000<A):aiA A F a b=V (uK (fS a b) F,F.ag,F.ar.map (ga (fS a b)),F.aL.map (mR (fS a b))):=by
 unfold aiA ajM;have h1:=Z4 (Va A) a b ha F.ar hT.refs hT.ref F.ag F.aL F.ar 0 A F (ad3 A' [] 0 [] []) rfl (by have:=hT.refs;omega)
 rw[yH] at h1;refine h1.trans ?_;unfold Va;have h2:=Z3 (ajN A) H hN a b ha F.aL hT.Ca hT.kj F.ag (F.ar.map (ga (fS a b))) F.aL 0 A (ad3 F.aM F.ag F.aH (F.ar.map (ga (fS a b))) F.aL) (ad3 A' [] 0 [] []) rfl (by have:=hT.Ca;omega)
 rw[yH] at h2;exact h2
def ZT (k:Nat->Int->Int->aJ->bw->ai->bL->Z aJ) (m0:aE) (gu:m0.bf=2\/m0.bf=3) (ha:mU m0.aY) (cols:aP) (hl:cols.length<=1000) (hc:∀c∈cols,mU c) (kP:Nat) (t17 t18:Int) (ts:bw) (refs:bL) (ri:Nat):∀(x:aP) (j m:Nat) (v:Int) (tt:bw) (b5 rr:bl) (tr:ai),cols.drop j=x->x.length<m->
  Ic k m kP t17 t18 (cols.length:Int) (j:Int) (ad4 (ad2 v tt) m0) b5 (fM (kW m0) cols j) ts tr refs rr ri=((setAt refs ri (bl.mk (cols.map (kW m0)) rr.av)).bind λz2=>k kP t17 t18 (ad4 (ad2 v ts) m0) ts (ad3 tr.aM tr.ag tr.aH [] tr.aL) z2)
 | [],j,m+1,v,tt,b5,rr,tr,hd,hm=>by
  let ⟨hi,hq⟩:=eA hd
  simp only[Ic,UB,hq,aR,ax,au,tC _ _ hi]
 |c::x,j,m+1,v,tt,b5,rr,tr,hd,hm=>by
  let ⟨g1,g2,g3,hq⟩:=dK hd
  have nL:=hc c (bQ g1);have ih:=ZT k m0 gu ha cols hl hc kP t17 t18 ts refs ri x (j+1) m v ts (bl.mk (fM (kW m0) cols (j+1)) b5.av) (bl.mk [] rr.av) (ad3 tr.aM tr.ag tr.aH [] tr.aL) g2 (by simp at hm;omega)
  have hb:dX (fM (kW m0) cols j).length (j:Int)=V j:=fI (by rw[lC];exact g3)
  have e1:=anO m c (ad4 (ad2 v ts) m0) gu nL ha;simp only[Ic,UB,hq,aO,aw,hb,ak,cg,mP _ g1,e1,dD _ (show j<(fM (kW m0) cols j).length by rw[lC];exact g3),tz _ g1,bT g3 (by omega)]
  exact ih
 |_,_,0,_,_,_,_,_,_,hm=>by simp at hm
def ZS (k:Nat->aJ->bw->Z aJ) (m0:aE) (gu:m0.bf=2\/m0.bf=3) (ha:mU m0.aY) (rs:bL) (hl:rs.length<=1000) (hr:∀r∈rs,AU r) (kP:Nat) (ts:bw):∀(x:bL) (i m:Nat) (v:Int) (tt:bw) (tr:ai),rs.drop i=x->x.length+1000<m->
  EG k m kP (rs.length:Int) (i:Int) (ad4 (ad2 v tt) m0) ts tr (fM (ga (kW m0)) rs i)=((setAt ts kP (ad3 tr.aM tr.ag tr.aH (rs.map (ga (kW m0))) tr.aL)).bind λz=>k kP (ad4 (ad2 v z) m0) z)
 | [],i,m+1,v,tt,tr,hd,hm=>by
  let ⟨hi,hq⟩:=eA hd
  simp only[EG,Uz,hq,aR,ax,au,tC _ _ hi]
 |r::x,i,m+1,v,tt,tr,hd,hm=>by
  let ⟨g1,g2,g3,hq⟩:=dK hd
  have lA:=hr r (bQ g1);simp at hm;have ih:=ZS k m0 gu ha rs hl hr kP ts x (i+1) m v ts (ad3 tr.aM tr.ag tr.aH [] tr.aL) g2 (by omega)
  have hb:dX (fM (ga (kW m0)) rs i).length (i:Int)=V i:=fI (by rw[lC];exact g3)
  have inner:=ZT (UA (EG k m) m) m0 gu ha r.ag lA.len lA.rng kP (rs.length:Int) (i:Int) ts (fM (ga (kW m0)) rs i) i r.ag 0 m v ts r (bl.mk [] r.av) (ad3 tr.aM tr.ag tr.aH [] tr.aL) rfl (by have:=lA.len;omega)
  rw[yH,dD _ (show i<(fM (ga (kW m0)) rs i).length by rw[lC];exact g3),ak] at inner
  have e:(fM (ga (kW m0)) rs i).set i (bl.mk (r.ag.map (kW m0)) r.av)=fM (ga (kW m0)) rs (i+1):=tz (ga (kW m0)) g1;rw[show (bl.mk ([]:aP) r.av).av=r.av from rfl,e] at inner;simp only[EG,Uz,hq,aO,aw,hb,ak,cg,mP _ g1];refine inner.trans ?_;simp only[UA,bT g3 (by omega:rs.length<4294967296)]
  exact ih
 |_,_,0,_,_,_,_,hm=>by simp at hm
def ZR (N:Int) (hN:N<=1000) (m0:aE) (gu:m0.bf=2\/m0.bf=3) (ha:mU m0.aY) (ps:br) (hl:ps.length<=1000) (hp:∀p∈ps,pS N p=M/\fY p<=1000) (kP:Nat) (ts:bw):∀(x:br) (i m:Nat) (v:Int) (tt:bw) (tr:ai),ps.drop i=x->x.length+1000<m->
  Ib m kP (ps.length:Int) (i:Int) (ad4 (ad2 v tt) m0) (fM (mR (kW m0)) ps i) ts tr=((setAt ts kP (ad3 tr.aM tr.ag tr.aH tr.ar (ps.map (mR (kW m0))))).bind λz=>V (ad4 (ad2 v z) m0))
 | [],i,m+1,v,tt,tr,hd,hm=>by
  let ⟨hi,hq⟩:=eA hd
  simp only[Ib,Uy,hq,aR,ax,au,tC _ _ hi]
 |p::x,i,m+1,v,tt,tr,hd,hm=>by
  let ⟨g1,g2,g3,hq⟩:=dK hd
  have Bt:=hp p (bQ g1);simp at hm;have ih:=ZR N hN m0 gu ha ps hl hp kP ts x (i+1) m v ts (ad3 tr.aM tr.ag tr.aH tr.ar []) g2 (by omega)
  have hb:dX (fM (mR (kW m0)) ps i).length (i:Int)=V i:=fI (by rw[lC];exact g3)
  have e1:=aiE N hN (ad4 (ad2 v ts) m0) gu ha m p (by omega) (by omega) Bt.1
  simp only[Ib,Uy,hq,aO,aw,hb,ak,cg,mP _ g1,e1,dD _ (show i<(fM (mR (kW m0)) ps i).length by rw[lC];exact g3),tz _ g1,bT g3 (by omega)]
  exact ih
 |_,_,0,_,_,_,_,hm=>by simp at hm
def anS (hj:Y.av=(L:Int)) (hT:f7[L]? =V ac) (gu:Y.bf=2\/Y.bf=3) (ha:mU Y.aY) (N:Int) (hN:N<=1000) (ht:TOK N ac) (hn:3000<A):
  aif A (ad4 (ad2 B f7) Y)=V (ad4 (ad2 B (f7.set L (uK (kW Y) ac))) Y):=by
 have hl:=(bO.1 hT).1;have e1:EW A (ad4 (ad2 B f7) Y)=V L:=by
  unfold EW UH;simp only[hj,fI hl,ak,cg]
 unfold aif aje;rw[e1,ak];simp only[hT,ak];have h1:=ZS (Ux A) Y gu ha ac.ar ht.refs ht.ref L f7 ac.ar 0 A B f7 (ad3 ac.aM ac.ag ac.aH [] ac.aL) rfl (by have:=ht.refs;omega)
 rw[yH,dD _ hl,ak] at h1;refine h1.trans ?_;unfold Ux;rw[nf hl,ak];have HN:L<(f7.set L (ad3 ac.aM ac.ag ac.aH (ac.ar.map (ga (kW Y))) ac.aL)).length:=by simpa using hl
 have h2:=ZR N hN Y gu ha ac.aL ht.Ca ht.kj L (f7.set L (ad3 ac.aM ac.ag ac.aH (ac.ar.map (ga (kW Y))) ac.aL)) ac.aL 0 A B (f7.set L (ad3 ac.aM ac.ag ac.aH (ac.ar.map (ga (kW Y))) ac.aL)) (ad3 ac.aM ac.ag ac.aH (ac.ar.map (ga (kW Y))) []) rfl (by have:=ht.Ca;omega)
 rw[yH,dD _ HN,ak,vX] at h2;exact h2
def qN:Bool:=aa.aD==1&&aa.dj==B
mutual
def qm (x:Int):aj->Bool
 |⟨op,_,l,r,args⟩=>(op==3&&(qN x l||qN x r))||rF x args
def rF (x:Int):br->Bool
 | []=>I
 |p::ps=>qm x p||rF x ps
end
def lr (l:aP) (q:Int->Bool) (sz:Nat) (r:aP):Prop:=(∀x,0<=x->(x∈r↔x∈l\/q x=M))/\r.length<=l.length+sz
def lr.refl {q:Int->Bool} (h:∀x,0<=x->q x=I) (sz:Nat):lr aq q sz aq:=⟨λx hx=>by simp[h x hx],by omega⟩
def lr.trans {a b c:aP} {q q':Int->Bool} {s s':Nat} (h:lr a q s b) (k:lr b q' s' c):lr a (λx=>q x||q' x) (s+s') c:=
 ⟨λx hx=>by rw[k.1 x hx,h.1 x hx];simp[or_assoc],by have:=h.2;have:=k.2;omega⟩
def lr.mono {a b:aP} {q':Int->Bool} {s s':Nat} (h:lr a q s b) (hq:∀x,q x=q' x) (hs:s<=s'):lr a q' s' b:=
 ⟨λx hx=>by rw[h.1 x hx,hq],by have:=h.2;omega⟩
def aKj {xs:List J} {j:Nat} (h:j<=xs.length):cut xs G (V (j:Int))=V (xs.take j):=by
 unfold cut;simp[h]
def Rf {xs:List J} {j:Nat} (h:j<=xs.length):cut xs (V (j:Int)) G=V (xs.drop j):=by
 unfold cut;simp[h]
def ZQ (k:aP->Int->Int->Z aP) (l:aP) (c:Int) (hl:l.length<=900000):∀(x:aP) (i m:Nat),l.drop i=x->x.length<m->i<=l.length->∃j:Nat,j<=l.length/\EF k m l c (i:Int)=k l c (j:Int)
 | [],i,m+1,hd,hm,hi=>by
  let ⟨this,hq⟩:=eA hd
  exact ⟨i,hi,by simp only[EF,Nh,hq,aR,ax,au]⟩
 |y::x,i,m+1,hd,hm,hi=>by
  let ⟨g1,g2,g3,hq⟩:=dK hd
  by_cases h:y<c
  ·let ⟨j,h1,h2⟩:=ZQ k l c hl x (i+1) m g2 (by simp at hm;omega) (by omega)
   refine ⟨j,h1,?_⟩;simp only[EF,Nh,hq,aO,aw,bB,g1,ak,h,bT g3 (by omega),h2]
  ·exact ⟨i,hi,by simp only[EF,Nh,hq,aO,aw,bB,g1,ak,h,aR,ax,au]⟩
 |_,_,0,_,hm,_=>by simp at hm
def aIA (n:Nat) (l:aP) (c:Int) (hl:l.length<=900000) (hn:l.length<n):Ok (ash n l c) λr=>(∀x,x∈r↔x∈l\/x=c)/\r.length<=l.length+1:=by
 let ⟨j,h1,h2⟩:=ZQ (Uq n) l c hl l 0 n rfl (by omega) (by omega)
 have hB:Ok (Ng n l c (j:Int)) λr=>(∀x,x∈r↔x∈l\/x=c)/\r.length<=l.length+1:=by
  unfold Ng;rw[aKj h1,ak,dx _ _ (by simp;omega),ak,dx _ _ (by simp;omega),ak,Rf h1,ak,dx _ _ (by simp;omega),ak]
  refine Ok.pure ⟨λx=> ?_,by simp;omega⟩
  have e:x∈l↔x∈l.take j\/x∈l.drop j:=by
   conv=>lhs;rw[<-C4 j l]
   exact eV
  rw[e];simp only[jy,eV,gL];constructor
  ·rintro ((h|h)|h)
   ·exact .inl (.inl h)
   ·exact .inr h
   ·exact .inl (.inr h)
  ·rintro ((h|h)|h)
   ·exact .inl (.inl h)
   ·exact .inr h
   ·exact .inl (.inr h)
 unfold ash aiU;rw[show (0:Int)=((0:Nat):Int) from rfl,h2];unfold Uq;by_cases hq:(j:Int)<(l.length:Int)
 ·have hj:j<l.length:=by omega
  simp only[hq,aO,aw,bB,cZ hj,ak];by_cases he:l[j]=c
  ·simp only[he,iz,aw];refine Ok.pure ⟨λx=>⟨.inl,λh=> ?_⟩,by omega⟩
   rcases h with h|rfl
   ·exact h
   ·rw[<-he];exact p6 hj
  ·have:(l[j]==c)=I:=by simpa using he
   simp only[this,ax,au];exact hB
 ·simp only[hq,aR,ax,au];exact hB
def Ql (os:vf) (t:Nat) (o:bI) (ho:os[t]? =V o) (h2:os.length=2) (m:Nat) (l:aP) (hl:l.length<=800000) (hm:l.length+2<m):
  ∃l',lr l (λx=>qN x o) 1 l'/\xf aA az (m+1) l (t:Int) W os=xf aA az m l' ((t+1:Nat):Int) W os:=by
 have ht:=(bO.1 ho).1;have hq:(t:Int)<2:=by omega
 have hb:dX os.length (t:Int)=V t:=fI ht;have hw:aW ((t:Int)+1)=((t+1:Nat):Int):=bT ht (by omega)
 by_cases hk:o.aD=1
 ·by_cases hi:o.dj<0
  ·refine ⟨l,lr.refl l (λx hx=> ?_) 1,?_⟩
   ·simp[qN,hk];omega
   ·simp only[xf,IX,hq,aO,aw,hb,ak,cg,ho,hk,iz,hi,dd,ax,au,hw]
  ·let ⟨r,e,h1,h3⟩:=aIA m l o.dj (by omega) (by omega)
   refine ⟨r,⟨λx hx=> ?_,h3⟩,?_⟩
   ·rw[h1];simp[qN,hk];constructor
    ·rintro (h|h)
     ·exact .inl h
     ·exact .inr h.symm
    ·rintro (h|h)
     ·exact .inl h
     ·exact .inr h.symm
   ·simp only[xf,IX,hq,aO,aw,hb,ak,cg,ho,hk,iz,hi,aR,gq,e,hw]
 ·have hkf:(o.aD==1)=I:=by simpa using hk
  refine ⟨l,lr.refl l (λx hx=>by simp[qN,hk]) 1,?_⟩
  simp only[xf,IX,hq,aO,aw,hb,ak,cg,ho,hkf,ax,au,hw]
def ayB (hl:aU.length<=700000) (hm:aU.length+10<af):
  ∃l',lr aU (λx=>qN x aa||qN x aB) 2 l'/\xf aA az af aU 0 W [aa,aB]=az l' W:=by
 obtain ⟨af,rfl⟩:∃q,af=q+3:=⟨af-3,by omega⟩
 let ⟨l1,c1,e1⟩:=Ql aA az W [aa,aB] 0 aa rfl rfl (af+2) aU (by omega) (by omega)
 have h1:=c1.2;let ⟨l2,c2,e2⟩:=Ql aA az W [aa,aB] 1 aB rfl rfl (af+1) l1 (by omega) (by omega)
 refine ⟨l2,c1.trans c2,?_⟩;refine e1.trans (e2.trans ?_);simp only[xf,IX,show ¬(((1+1:Nat):Int)<2) by omega,aR,ax,au]
def anQ:∀(n:Nat) (p:aj) (l:aP),l.length+2*fY p+20<=n->l.length+2*fY p<=500000->Ok (GN n p l) (lr l (λx=>qm x p) (2*fY p))
 |0,_,_,h,_=>by omega
 |n+1,⟨op,c,a,b,args⟩,l,h,hb=>by
  simp only[fY] at h hb ⊢;have hlen:=qR args;have loop:∀(xs:br) (i k:Nat) (l1:aP),args.drop i=xs->xs.length<k->l1.length+2*lJ xs+20<=n->l1.length+2*lJ xs<=500000->
    Ok (Ia (GN n) (Uu (GN n) n) k l1 (args.length:Int) (i:Int) ⟨op,c,a,b,args⟩) (lr l1 (λx=>rF x xs) (2*lJ xs)):=by
   intro xs;induction xs with
   |nil=>
    intro i k l1 hd hk h1 h2;let ⟨this,hq⟩:=eA hd
    cases k with
    |zero=>simp at hk
    |succ k=>
     simp only[Ia,Uv,hq,aR,ax,au,Uu];exact Ok.pure (lr.refl _ (λx _=>by simp[rF]) _)
   |cons x xs ih=>
    intro i k l1 hd hk h1 h2;let ⟨g1,g2,g3,hq⟩:=dK hd
    simp only[lJ] at h1 h2;cases k with
    |zero=>simp at hk
    |succ k=>
     simp only[Ia,Uv,hq,aO,aw,bB,g1,ak];refine Ok.bind (anQ n x l1 (by omega) (by omega)) λl2 c2=> ?_
     have HN:=c2.2;rw[bT g3 (by omega:args.length<4294967296)]
     refine (ih (i+1) k l2 g2 (by simp at hk;omega) (by omega) (by omega)).mono λr c3=> ?_
     exact (c2.trans c3).mono (λy=>by simp[rF]) (by simp only[lJ];omega)
  have tail:∀l1:aP,l1.length+2*lJ args+20<=n->l1.length+2*lJ args<=500000->Ok (IW (GN n) n l1 ⟨op,c,a,b,args⟩) (lr l1 (λx=>rF x args) (2*lJ args)):=λl1 h1 h2=>by
   unfold IW;exact loop args 0 n l1 rfl (by omega) h1 h2
  unfold GN aiY;by_cases h3:op=3
  ·subst h3;simp only[iz,aw];let ⟨l1,c1,e1⟩:=ayB (GN n) (IW (GN n) n) ⟨3,c,a,b,args⟩ a b n l (by omega) (by omega)
   have hl1:=c1.2;rw[e1];refine (tail l1 (by omega) (by omega)).mono λr c2=> ?_
   exact (c1.trans c2).mono (λy=>by simp[qm]) (by omega)
  ·have cQ:(op==3)=I:=by simpa using h3
   simp only[cQ,ax,au];refine (tail l (by omega) (by omega)).mono λr c2=> ?_
   exact c2.mono (λy=>by simp[qm,cQ]) (by omega)
def aID (h:2*fY W+20<=A) (hb:2*fY W<=500000):Ok (asn A W) (lr [] (λx=>qm x W) (2*fY W)):=by
 unfold asn ajk;exact Ok.bind (anQ A W [] (by simpa using h) (by simpa using hb)) λr hr=>Ok.pure hr
def Qm (k:lF->Int->aP->aj->Z (aP×aP)) (n:Nat) (t16:lF) (t:Int) (l:aP) (b3:aj) (o:bI) (hl:l.length<=800000):
  ∃l',lr l (λx=>qN x o) 1 l'/\Nf aI k n t16 t l b3 o=k t16 (aW (t+1)) l' b3:=by
 unfold Nf;by_cases hk:o.aD=1
 ·by_cases hi:o.dj<0
  ·refine ⟨l,lr.refl l (λx hx=>by simp[qN,hk];omega) 1,by simp[hk,hi]⟩
  ·refine ⟨l++ [o.dj],⟨λx hx=> ?_,by simp⟩,?_⟩
   ·simp[qN,hk];constructor
    ·rintro (h|h)
     ·exact .inl h
     ·exact .inr h.symm
    ·rintro (h|h)
     ·exact .inl h
     ·exact .inr h.symm
   ·simp only[hk,iz,aw,hi,aR,gq,dx l [o.dj] (by simp;omega),ak]
 ·exact ⟨l,lr.refl l (λx hx=>by simp[qN,hk]) 1,by simp[hk]⟩
def ayA (k:aP->aj->Z (aP×aP)) (p:aj) (a b:bI) (m:Nat) (l:aP) (hl:l.length<=700000) (hm:10<m):
  ∃l',lr l (λx=>qN x a||qN x b) 2 l'/\xe aI k m (lF.mk a b) 0 l p=k l' p:=by
 obtain ⟨m,rfl⟩:∃q,m=q+3:=⟨m-3,by omega⟩
 let ⟨l1,c1,e1⟩:=Qm aI (xe aI k (m+2)) (m+2) (lF.mk a b) 0 l p a (by omega)
 have h1:=c1.2;let ⟨l2,c2,e2⟩:=Qm aI (xe aI k (m+1)) (m+1) (lF.mk a b) 1 l1 p b (by omega)
 refine ⟨l2,c1.trans c2,?_⟩;have s0:xe aI k (m+3) (lF.mk a b) 0 l p=xe aI k (m+2) (lF.mk a b) 1 l1 p:=e1;have s1:xe aI k (m+2) (lF.mk a b) 1 l1 p=xe aI k (m+1) (lF.mk a b) 2 l2 p:=e2;rw[s0,s1];rfl
def anN:∀(n:Nat) (l:aP) (p:aj),2*fY p+20<=n->l.length+2*fY p<=500000->Ok (GM n l p) λr=>r.1=r.2/\lr l (λx=>qm x p) (2*fY p) r.2
 |0,_,_,h,_=>by omega
 |n+1,l,⟨op,c,a,b,args⟩,h,hb=>by
  simp only[fY] at h hb ⊢;have hlen:=qR args;have loop:∀(xs:br) (i k:Nat) (l1:aP),args.drop i=xs->xs.length<k->2*lJ xs+20<=n->l1.length+2*lJ xs<=500000->
    Ok (H8 (GM n) (Ul (GM n) n) k args (args.length:Int) (i:Int) l1) λr=>r.1=r.2/\lr l1 (λx=>rF x xs) (2*lJ xs) r.2:=by
   intro xs;induction xs with
   |nil=>
    intro i k l1 hd hk h1 h2;let ⟨this,hq⟩:=eA hd
    cases k with
    |zero=>simp at hk
    |succ k=>
     simp only[H8,Um,hq,aR,ax,au,Ul];exact Ok.pure ⟨rfl,lr.refl _ (λx _=>by simp[rF]) _⟩
   |cons x xs ih=>
    intro i k l1 hd hk h1 h2;let ⟨g1,g2,g3,hq⟩:=dK hd
    simp only[lJ] at h1 h2;cases k with
    |zero=>simp at hk
    |succ k=>
     simp only[H8,Um,hq,aO,aw,bB,g1,ak];refine Ok.bind (anN n l1 x (by omega) (by omega)) λl2 ⟨_,c2⟩=> ?_
     have HN:=c2.2;rw[bT g3 (by omega:args.length<4294967296)]
     refine (ih (i+1) k l2.2 g2 (by simp at hk;omega) (by omega) (by omega)).mono λr ⟨c0,c3⟩=> ?_
     exact ⟨c0,(c2.trans c3).mono (λy=>by simp[rF]) (by simp only[lJ];omega)⟩
  have tail:∀l1:aP,l1.length+2*lJ args<=500000->Ok (IV (GM n) n l1 ⟨op,c,a,b,args⟩) λr=>r.1=r.2/\lr l1 (λx=>rF x args) (2*lJ args) r.2:=λl1 h2=>by
   unfold IV;exact loop args 0 n l1 rfl (by omega) (by omega) h2
  unfold GM aiS;by_cases h3:op=3
  ·subst h3;simp only[iz,aw];let ⟨l1,c1,e1⟩:=ayA (GM n) (IV (GM n) n) ⟨3,c,a,b,args⟩ a b n l (by omega) (by omega)
   have hl1:=c1.2;rw[e1];refine (tail l1 (by omega)).mono λr ⟨c0,c2⟩=> ?_
   exact ⟨c0,(c1.trans c2).mono (λy=>by simp[qm]) (by omega)⟩
  ·have cQ:(op==3)=I:=by simpa using h3
   simp only[cQ,ax,au];refine (tail l (by omega)).mono λr ⟨c0,c2⟩=> ?_
   exact ⟨c0,c2.mono (λy=>by simp[qm,cQ]) (by omega)⟩
def Nz (k:lF->Int->aP->aj->Z aP) (n:Nat) (t16:lF) (t:Int) (l:aP) (b3:aj) (o:bI) (hl:l.length<=800000):
  ∃l',lr l (λx=>qN x o) 1 l'/\I3 k n t16 t l b3 o=k t16 (aW (t+1)) l' b3:=by
 unfold I3;by_cases hk:o.aD=1
 ·by_cases hi:o.dj<0
  ·refine ⟨l,lr.refl l (λx hx=>by simp[qN,hk];omega) 1,by simp[hk,hi]⟩
  ·refine ⟨l++ [o.dj],⟨λx hx=> ?_,by simp⟩,?_⟩
   ·simp[qN,hk];constructor
    ·rintro (h|h)
     ·exact .inl h
     ·exact .inr h.symm
    ·rintro (h|h)
     ·exact .inl h
     ·exact .inr h.symm
   ·simp only[hk,iz,aw,hi,aR,gq,dx l [o.dj] (by simp;omega),ak]
 ·exact ⟨l,lr.refl l (λx hx=>by simp[qN,hk]) 1,by simp[hk]⟩
def asc (hl:aU.length<=700000) (hm:10<af):
  ∃l',lr aU (λx=>qN x aa||qN x aB) 2 l'/\uG az af (lF.mk aa aB) 0 aU W=az l' W:=by
 obtain ⟨af,rfl⟩:∃q,af=q+3:=⟨af-3,by omega⟩
 let ⟨l1,c1,e1⟩:=Nz (uG az (af+2)) (af+2) (lF.mk aa aB) 0 aU W aa (by omega)
 have h1:=c1.2;let ⟨l2,c2,e2⟩:=Nz (uG az (af+1)) (af+1) (lF.mk aa aB) 1 l1 W aB (by omega)
 refine ⟨l2,c1.trans c2,?_⟩;have s0:uG az (af+3) (lF.mk aa aB) 0 aU W=uG az (af+2) (lF.mk aa aB) 1 l1 W:=e1;have s1:uG az (af+2) (lF.mk aa aB) 1 l1 W=uG az (af+1) (lF.mk aa aB) 2 l2 W:=e2;rw[s0,s1];rfl
def aCw (h:4*fY W+60<=A) (hb:2*fY W<=400000):Ok (abg A W) (lr [] (λx=>qm x W) (2*fY W)):=by
 let ⟨op,c,a,b,args⟩:=W;simp only[fY] at h hb ⊢;have hlen:=qR args;have loop:∀(xs:br) (i k:Nat) (l1:aP),args.drop i=xs->xs.length+2*lJ args+20<k->l1.length+2*lJ xs<=500000->
   Ok (Dm (PV A) k args (args.length:Int) (i:Int) l1) (lr l1 (λx=>rF x xs) (2*lJ xs)):=by
  intro xs;induction xs with
  |nil=>
   intro i k l1 hd hk h2;let ⟨this,hq⟩:=eA hd
   cases k with
   |zero=>simp at hk
   |succ k=>
    simp only[Dm,PX,hq,aR,ax,au,PV];exact Ok.pure (lr.refl _ (λx _=>by simp[rF]) _)
  |cons x xs ih=>
   intro i k l1 hd hk h2;let ⟨g1,g2,g3,hq⟩:=dK hd
   have hx:x∈args:=bQ g1;have hs:=uy hx;simp only[lJ] at h2;cases k with
   |zero=>simp at hk
   |succ k=>
    simp at hk;simp only[Dm,PX,hq,aO,aw,bB,g1,ak];refine Ok.bind (anN k l1 x (by omega) (by omega)) λl2 ⟨_,c2⟩=> ?_
    have HN:=c2.2;rw[bT g3 (by omega:args.length<4294967296)]
    refine (ih (i+1) k l2.2 g2 (by omega) (by omega)).mono λr c3=> ?_
    exact (c2.trans c3).mono (λy=>by simp[rF]) (by simp only[lJ];omega)
 have tail:∀(l1:aP) (q:aj),q.fArgs=args->l1.length+2*lJ args<=500000->Ok (Dq A l1 q) (lr l1 (λx=>rF x args) (2*lJ args)):=λl1 q hq h2=>by
  unfold Dq;rw[hq];exact loop args 0 A l1 rfl (by omega) h2
 unfold abg Y9;by_cases h3:op=3
 ·subst h3;simp only[iz,aw];let ⟨l1,c1,e1⟩:=asc (Dq A) ⟨3,c,a,b,args⟩ a b A [] (by simp) (by omega)
  have hl1:=c1.2;simp at hl1;rw[e1];refine (tail l1 _ rfl (by omega)).mono λr c2=> ?_
  exact (c1.trans c2).mono (λy=>by simp[qm]) (by omega)
 ·have cQ:(op==3)=I:=by simpa using h3
  simp only[cQ,ax,au];refine (tail [] _ rfl (by simp;omega)).mono λr c2=> ?_
  exact c2.mono (λy=>by simp[qm,cQ]) (by omega)
def amY (z:Int):∀xs:aP,z∈lP xs↔z∈xs
 | []=>Iff.rfl
 | [x]=>Iff.rfl
 |x::y::l=>by
  have ih:=amY z (y::l);show z∈(if x=y then lP (y::l) else x::lP (y::l))↔_
  split
  ·rename_i e;subst e;rw[ih];simp
  ·rw[da,ih,da (a:=z) (b:=x)]
def aIB (h:4*fY W+60<=A) (hb:2*fY W<=400000):Ok (asj A W) λr=>r.length<=2*fY W/\∀x,0<=x->(x∈r↔qm x W=M):=by
 unfold asj aiW;refine Ok.bind (aCw A W h hb) λl c=> ?_
 have hl:=c.2;simp at hl;have hp:=wg l;have h1:ain A l=V (eX l):=by unfold ain;rw[aG (by omega)]
 rw[h1,ak,show gU (eX l).length l.length=V () by unfold gU;rw[aG hp.length_eq],ak]
 have h2:aib A (eX l)=V (lP (eX l),lP (eX l)):=by unfold aib;rw[aG (by rw[hp.length_eq];omega)]
 rw[h2,ak];refine Ok.pure ⟨?_,λx hx=> ?_⟩
 ·have:=MI (eX l);rw[hp.length_eq] at this;show (lP (eX l)).length<=_;omega
 ·show x∈lP (eX l)↔_;rw[amY,hp.mem_iff,c.1 x hx];simp
def r5:Bool:=am.any λr=>iL (B∈r.ag)
def r7 (ps:br):Bool:=ps.any λp=>qm B p
def Cv:Bool:=r5 B F.ar||r7 B F.aL
def Z9 (k:Int->bL->Int->Int->ai->Z Bool) (c:Int) (t14:bL) (t15 t16:Int) (T:ai) (cols:aP) (hl:cols.length<=1000):∀(x:aP) (j m:Nat),cols.drop j=x->x.length<m->
  Ix k m c t14 t15 t16 cols (cols.length:Int) (j:Int) T=if c∈x then V M else k c t14 t15 t16 T
 | [],j,m+1,hd,hm=>by
  let ⟨hi,hq⟩:=eA hd
  simp[Ix,Vm,hq]
 |y::x,j,m+1,hd,hm=>by
  let ⟨g1,g2,g3,hq⟩:=dK hd
  have ih:=Z9 k c t14 t15 t16 T cols hl x (j+1) m g2 (by simp at hm;omega)
  simp only[Ix,Vm,hq,aO,aw,bB,g1,ak,bT g3 (by omega),ih]
  by_cases h:y=c
  ·subst h;simp
  ·have h2:¬c=y:=λe=>h e.symm
   simp[h,h2]
 |_,_,0,_,hm=>by simp at hm
def Z8 (k:Int->ai->Z Bool) (c:Int) (T:ai) (rs:bL) (hl:rs.length<=1000) (hr:∀r∈rs,AU r):∀(x:bL) (i m:Nat),rs.drop i=x->x.length+1000<m->
  EO k m c rs (rs.length:Int) (i:Int) T=if r5 c x=M then V M else k c T
 | [],i,m+1,hd,hm=>by
  let ⟨hi,hq⟩:=eA hd
  simp[EO,Vk,hq,r5]
 |r::x,i,m+1,hd,hm=>by
  let ⟨g1,g2,g3,hq⟩:=dK hd
  have lA:=hr r (bQ g1);simp at hm;have ih:=Z8 k c T rs hl hr x (i+1) m g2 (by omega)
  have inner:=Z9 (Vl (EO k m) m) c rs (rs.length:Int) (i:Int) T r.ag lA.len r.ag 0 m rfl (by have:=lA.len;omega)
  simp only[EO,Vk,hq,aO,aw,bB,g1,ak];refine inner.trans ?_;simp only[Vl,bT g3 (by omega:rs.length<4294967296),ih]
  have e:r5 c (r::x)=(iL (c∈r.ag)||r5 c x):=by simp[r5]
  rw[e];by_cases h:c∈r.ag<;>simp[h]
 |_,_,0,_,hm=>by simp at hm
def Z7 (k:Int->br->Int->Int->Z Bool) (c:Int) (t33:br) (t34 t35:Int) (cols:aP) (hl:cols.length<=10000):∀(x:aP) (j m:Nat),cols.drop j=x->x.length<m->
  Iw k m c t33 t34 t35 cols (cols.length:Int) (j:Int)=if c∈x then V M else k c t33 t34 t35
 | [],j,m+1,hd,hm=>by
  let ⟨hi,hq⟩:=eA hd
  simp[Iw,Vj,hq]
 |y::x,j,m+1,hd,hm=>by
  let ⟨g1,g2,g3,hq⟩:=dK hd
  have ih:=Z7 k c t33 t34 t35 cols hl x (j+1) m g2 (by simp at hm;omega)
  simp only[Iw,Vj,hq,aO,aw,bB,g1,ak,bT g3 (by omega),ih]
  by_cases h:y=c
  ·subst h;simp
  ·have h2:¬c=y:=λe=>h e.symm
   simp[h,h2]
 |_,_,0,_,hm=>by simp at hm
def Z6 (k:Z Bool) (c:Int) (hc:0<=c) (ps:br) (hl:ps.length<=1000) (hp:∀p∈ps,fY p<=1000):∀(x:br) (i m:Nat),ps.drop i=x->x.length+10000<m->
  EN k m c ps (ps.length:Int) (i:Int)=if r7 c x=M then V M else k
 | [],i,m+1,hd,hm=>by
  let ⟨hi,hq⟩:=eA hd
  simp[EN,Vh,hq,r7]
 |p::x,i,m+1,hd,hm=>by
  let ⟨g1,g2,g3,hq⟩:=dK hd
  have Bt:=hp p (bQ g1);simp at hm;have ih:=Z6 k c hc ps hl hp x (i+1) m g2 (by omega)
  let ⟨r,e1,c1,c2⟩:=aID m p (by omega) (by omega)
  simp at c2;have inner:=Z7 (Vi (EN k m) m) c ps (ps.length:Int) (i:Int) r (by omega) r 0 m rfl (by omega)
  simp only[EN,Vh,hq,aO,aw,bB,g1,ak,e1];refine inner.trans ?_;simp only[Vi,bT g3 (by omega:ps.length<4294967296),ih]
  have e:r7 c (p::x)=(qm c p||r7 c x):=by simp[r7]
  have hm:=c1 c hc;simp at hm;rw[e];cases hcp:qm c p with
  |true=>rw[aG (hm.2 hcp)];simp
  |false=>rw[aC (λh=>by rw[hm.1 h] at hcp;cases hcp)];simp
 |_,_,0,_,hm=>by simp at hm
def PC (hc:0<=H) (hT:GP F) (hn:20000<A):aiB A F H=V (Cv H F):=by
 unfold aiB ajO;have h1:=Z8 (Vf A) H F F.ar hT.len.2.1 hT.ref F.ar 0 A rfl (by have:=hT.len.2.1;omega)
 refine h1.trans ?_;unfold Vf;have h2:=Z6 (Vg A) H hc F.aL hT.len.2.2 hT.kj F.aL 0 A rfl (by have:=hT.len.2.2;omega)
 rw[show (0:Int)=((0:Nat):Int) from rfl,h2];unfold Cv Vg;cases r5 H F.ar<;>cases r7 H F.aL<;>rfl
def ZP (v:Int) (l:aP) (hl:l.length<=10000) (n0:Nat):∀(x:aP) (j m:Nat),l.drop j=x->x.length<m->
  Ok (H9 (Un n0) m l v (l.length:Int) (j:Int)) λr=>(r<0↔¬v∈x)
 | [],j,m+1,hd,hm=>by
  let ⟨hi,hq⟩:=eA hd
  simp only[H9,Uo,hq,aR,ax,au,Un];exact Ok.pure ⟨λ_=>by simp,λ_=>by omega⟩
 |y::x,j,m+1,hd,hm=>by
  let ⟨g1,g2,g3,hq⟩:=dK hd
  simp only[H9,Uo,hq,aO,aw,bB,g1,ak];by_cases h:v=y
  ·subst h;simp only[iz,aw];exact Ok.pure ⟨λh=>by omega,λh=>absurd j7 h⟩
  ·have:(v==y)=I:=by simpa using h
   simp only[this,ax,au,bT g3 (by omega)]
   refine (ZP v l hl n0 x (j+1) m g2 (by simp at hm;omega)).mono λr hr=> ?_
   rw[hr];simp[h]
 |_,_,0,_,hm=>by simp at hm
def anP (hl:aq.length<=10000) (hn:aq.length<A):aic A aq ad=V (iL (ad∈aq)):=by
 let ⟨r,e,h⟩:=ZP ad aq hl A aq 0 A rfl hn;unfold aic aiX aCm aiT;rw[show (0:Int)=((0:Nat):Int) from rfl,e,ak];by_cases hv:ad∈aq
 ·have:¬r<0:=λhr=>(h.1 hr) hv
  simp[hv,this]
 ·have:r<0:=h.2 hv;simp[hv,this]
def ZV (k:aJ->ai->Z Bool) (g:aJ) (T:ai) (rs:bL) (hl:rs.length<=1000) (hr:∀r∈rs,AU r):∀(x:bL) (i m:Nat),rs.drop i=x->x.length+1000<m->
  Ig k m g T rs (rs.length:Int) (i:Int)=if r5 g.fm.aY x=M then V M else k g T
 | [],i,m+1,hd,hm=>by
  let ⟨hi,hq⟩:=eA hd
  simp[Ig,UG,hq,r5]
 |r::x,i,m+1,hd,hm=>by
  let ⟨g1,g2,g3,hq⟩:=dK hd
  have lA:=hr r (bQ g1);simp at hm;have ih:=ZV k g T rs hl hr x (i+1) m g2 (by omega)
  simp only[Ig,UG,hq,aO,aw,bB,g1,ak,anP m r.ag g.fm.aY (by have:=lA.len;omega) (by have:=lA.len;omega),bT g3 (by omega:rs.length<4294967296),ih]
  have e:r5 g.fm.aY (r::x)=(iL (g.fm.aY∈r.ag)||r5 g.fm.aY x):=by simp[r5]
  rw[e];by_cases h:g.fm.aY∈r.ag<;>simp[h]
 |_,_,0,_,hm=>by simp at hm
def ZU (k:Z Bool) (g:aJ) (hc:0<=g.fm.aY) (ps:br) (hl:ps.length<=1000) (hp:∀p∈ps,fY p<=1000):∀(x:br) (i m:Nat),ps.drop i=x->x.length+10000<m->
  Ie k m g ps (ps.length:Int) (i:Int)=if r7 g.fm.aY x=M then V M else k
 | [],i,m+1,hd,hm=>by
  let ⟨hi,hq⟩:=eA hd
  simp[Ie,UF,hq,r7]
 |p::x,i,m+1,hd,hm=>by
  let ⟨g1,g2,g3,hq⟩:=dK hd
  have Bt:=hp p (bQ g1);simp at hm;have ih:=ZU k g hc ps hl hp x (i+1) m g2 (by omega)
  let ⟨r,e1,c2,c1⟩:=aIB m p (by omega) (by omega)
  simp only[Ie,UF,hq,aO,aw,bB,g1,ak,e1,anP m r g.fm.aY (by omega) (by omega),bT g3 (by omega:ps.length<4294967296),ih]
  have e:r7 g.fm.aY (p::x)=(qm g.fm.aY p||r7 g.fm.aY x):=by simp[r7]
  have hm:=c1 g.fm.aY hc;rw[e];cases hcp:qm g.fm.aY p with
  |true=>simp[hm.2 hcp]
  |false=>
   have:¬g.fm.aY∈r:=λh=>by rw[hm.1 h] at hcp;cases hcp
   simp[this]
 |_,_,0,_,hm=>by simp at hm
def Rw (hj:Y.av=(L:Int)) (hT:f7[L]? =V ac):PD A (ad4 (ad2 B f7) Y)=V ac:=by
 unfold PD Za;simp only[hj,bB,hT,ak]
def IN (hj:Y.av=(L:Int)) (hl:L<f7.length):EW A (ad4 (ad2 B f7) Y)=V L:=by
 unfold EW UH;simp only[hj,fI hl,ak,cg]
def PA (hj:Y.av=(L:Int)) (hT:f7[L]? =V ac) (c:Int):Ru A (ad4 (ad2 B f7) Y) c=V (iL (ac.aH<=c)&&iL (c<(ac.ag.length:Int))):=by
 unfold Ru ajg;rw[Rw A B f7 Y L ac hj hT,ak];by_cases h:c<ac.aH
 ·have:¬ac.aH<=c:=by omega
  simp[h,this]
 ·have:ac.aH<=c:=by omega
  simp[h,this]
def anT (hj:Y.av=(L:Int)) (hT:f7[L]? =V ac) (hc:0<=Y.aY) (ht:GP ac) (hn:20000<A):aii A (ad4 (ad2 B f7) Y)=V (Cv Y.aY ac):=by
 unfold aii ajf;rw[Rw A B f7 Y L ac hj hT,ak];have h1:=ZV (UC A) (ad4 (ad2 B f7) Y) ac ac.ar ht.len.2.1 ht.ref ac.ar 0 A rfl (by have:=ht.len.2.1;omega)
 refine h1.trans ?_;unfold UC;have h2:=ZU (UE A) (ad4 (ad2 B f7) Y) hc ac.aL ht.len.2.2 ht.kj ac.aL 0 A rfl (by have:=ht.len.2.2;omega)
 rw[show (0:Int)=((0:Nat):Int) from rfl,h2];unfold Cv UE;show (if r5 Y.aY ac.ar=M then _ else if r7 Y.aY ac.aL=M then _ else _)=_
 cases r5 Y.aY ac.ar<;>cases r7 Y.aY ac.aL<;>rfl
mutual
def atX:∀p:aj,fY p+1=3*sJ p
 |⟨_,_,_,_,args⟩=>by have:=atY args;simp only[fY,sJ];omega
def atY:∀xs:br,lJ xs=3*rk xs
 | []=>by simp[lJ,rk]
 |x::xs=>by have:=atX x;have:=atY xs;simp only[lJ,rk];omega
end
def aHv {ks:aP} (h:uI ks [] p=0):fY p<=71/\pV ks [] p=M/\nS ks=M:=by
 unfold uI at h;split at h
 ·cases h
 ·rename_i h0;split at h
  ·cases h
  ·split at h
   ·cases h
   ·rename_i h1;split at h
    ·cases h
    ·rename_i h2;have:=atX p;simp at h0 h1 h2;exact ⟨by omega,h2,h0⟩
def ani {ks:aP}:∀{ps:br},tM ks ps=0->∀p∈ps,uI ks [] p=0
 |q::ps,h,p,hp=>by
  unfold tM at h;split at h
  ·rename_i h0;rcases da.1 hp with rfl|hp
   ·exact h0
   ·exact ani h p hp
  ·rename_i h0;exact absurd h h0
def ang:∀{ts:bw},Cb ts=0->∀T∈ts,tM (eh T) T.aL=0
 |f9::ts,h,T,hT=>by
  unfold Cb at h;split at h
  ·rename_i h0;rcases da.1 hT with rfl|hT
   ·exact h0
   ·exact ang h T hT
  ·rename_i h0;exact absurd h h0
def Ss {tc:cY}:∀{gs:cY} {cs:aP},qT tc gs cs=M->cs.length<=gs.length/\∀c∈cs,0<=c/\c<(tc.length:Int)
 |_,[],_=>⟨by simp,λc hc=>by cases hc⟩
 | [],_::_,h=>by cases h
 |g::gs,c::cs,h=>by
  unfold qT at h;split at h
  ·cases h
  ·rename_i x hx;simp only[bG] at h;let ⟨h1,h2⟩:=Ss h.2;let ⟨i1,i2,_⟩:=D2 hx;refine ⟨by simp;omega,λd hd=> ?_⟩
   rcases da.1 hd with rfl|hd
   ·exact ⟨i1,by omega⟩
   ·exact h2 d hd
def aeZ {s:ae} {T:ai}:∀{rs:bL},uV s T rs=M->∀r∈rs,afa s T r=M
 |q::rs,h,r,hr=>by
  unfold uV at h;rw[bG] at h;rcases da.1 hr with rfl|hr
  ·exact h.1
  ·exact aeZ h.2 r hr
def TE {s:ae}:∀{ts:bw},allRefs s ts=M->∀T∈ts,uV s T T.ar=M
 |f9::ts,h,T,hT=>by
  unfold allRefs at h;rw[bG] at h;rcases da.1 hT with rfl|hT
  ·exact h.1
  ·exact TE h.2 T hT
structure TG (k:Nat) (T:ai):Prop where
 uL:1<=T.aH
 jF:T.aH<=(T.ag.length:Int)
 cols:T.ag.length<=8
 refs:T.ar.length<=4
 Ca:T.aL.length<=4
 ref:∀r∈T.ar,r.ag.length<=8/\(∀c∈r.ag,0<=c/\c<(T.ag.length:Int))/\0<=r.av/\r.av<(k:Int)
 kj:∀p∈T.aL,pS (T.ag.length:Int) p=M/\fY p<=71
structure SG (s:ae):Prop where
 len:s.ah.length<=8
 v0:0<=s.ay
 v1:s.ay<=1000
 bY:∀T∈s.ah,TG s.ah.length T
def SG.of {s:ae} (h:fL s=0):SG s:=by
 have hS:=vq h;unfold fL at h;split at h
 ·cases h
 ·rename_i h8;split at h
  ·rename_i hb;rw[jJ] at hb;split at h
   ·cases h
   ·rename_i v0;split at h
    ·cases h
    ·rename_i v1;split at h
     ·rename_i ht;split at h
      ·rename_i hr;refine ⟨by omega,by omega,by omega,λT hT=> ?_⟩
       let ⟨b1,b2,b3⟩:=rN (hb T hT);have t1:=Qn (λT hT=>(rN (hb T hT)).1) ht T hT
       refine ⟨t1.uL,t1.jF,b1,b2,b3,λr lA=> ?_,λp hp=> ?_⟩
       ·have q:=aeZ (TE hr T hT) r lA;unfold afa at q;split at q
        ·cases q
        ·rename_i f9 hG;rw[bG] at q;let ⟨c1,c2⟩:=Ss q.2;let ⟨i1,i2,i3⟩:=D2 hG;have:=(rN (hb f9 (bQ i3))).1;exact ⟨by omega,c2,i1,by omega⟩
       ·let ⟨c1,c2,c3⟩:=aHv (ani (ang h T hT) p hp);have:=aDm c2;rw[show ((eh T).length:Int)=(T.ag.length:Int) by simp[eh]] at this
        exact ⟨this,c1⟩
      ·cases h
     ·cases h
  ·cases h
def TG.cp {k:Nat} {T:ai} (h:TG k T):GP T:=
 ⟨⟨by have:=h.cols;omega,by have:=h.refs;omega,by have:=h.Ca;omega⟩,λr hr=>⟨by have:=(h.ref r hr).1;omega,λc hc=>by have:=(h.ref r hr).2.1 c hc;have:=h.cols;exact ⟨by omega,by omega⟩⟩,λp hp=>by have:=(h.kj p hp).2;omega⟩
def TG.tok {k:Nat} {T:ai} (h:TG k T):TOK (T.ag.length:Int) T:=
 ⟨h.cp.len.1,h.cp.len.2.1,h.cp.ref,h.cp.len.2.2,λp hp=>⟨(h.kj p hp).1,by have:=(h.kj p hp).2;omega⟩⟩
def aeJ {a b i n:Int} (ha:0<=a) (ha':a<n) (hb:0<=b) (np:b<n) (hi:0<=i) (uX:i<n):0<=fS a b i/\fS a b i<n:=by
 unfold fS;split
 ·omega
 ·split
  ·omega
  ·split
   ·omega
   ·split<;>omega
def X0 {a b i n:Int} (ha:0<=a) (ha':a<n) (hb:0<=b) (np:b<n) (hi:0<=i) (uX:i<n):fS b a (fS a b i)=i:=by
 unfold fS;rw[aC (show ¬b<0 by omega),aC (show ¬a<0 by omega)]
 by_cases h1:i=a
 ·rw[aG h1,aG rfl,h1]
 ·rw[aC h1];by_cases h2:a<b/\a<i/\i<=b
  ·rw[aG h2,aC (by omega),aC (by omega),aG (by omega)];omega
  ·rw[aC h2];by_cases h3:b<a/\b<=i/\i<a
   ·rw[aG h3,aC (by omega),aG (by omega)];omega
   ·rw[aC h3,aC (by omega),aC (by omega),aC (by omega)]
def wV {J:Type} (C:List J) (a b:Nat):List J:=(C.take a++C.drop (a+1)).take b++C[a]?.toList++(C.take a++C.drop (a+1)).drop b
def amX {C:List J} {a:Nat} (ha:a<C.length) (i:Nat):(C.take a++C.drop (a+1))[i]? =if i<a then C[i]? else C[i+1]? :=by
 rw[sj,dz,fo (by omega)]
 split
 ·rename_i h;rw[eZ,aG h]
 ·rename_i h;rw[fp];congr 1;omega
def An {C:List J} {a:Nat} (ha:a<C.length):(C.take a++C.drop (a+1)).length=C.length-1:=by simp;omega
def Ov {C:List J} {a b:Nat} (ha:a<C.length) (hb:b<C.length):(wV C a b).length=C.length:=by
 unfold wV;have:=An ha;rw[gy,gy,dz,jx,this,cZ ha];simp;omega
def amz {C:List J} {a b q:Nat} (ha:a<C.length) (hb:b<C.length) (hq:q<C.length):(wV C a b)[q]? =C[(fS b a q).toNat]? :=by
 have hd:=An ha;unfold wV;rw[cZ ha,G1,sj,gy,dz,hd,fo (by omega),List.length_singleton]
 unfold fS;rw[aC (show ¬((a:Int)<0) by omega)]
 by_cases h1:q<b
 ·rw[aG (by omega),pd (by rw[dz,hd];omega),eZ,aG h1,amX ha,aC (show ¬((q:Int)=(b:Int)) by omega)]
  by_cases h2:q<a
  ·rw[aG h2,aC (by omega),aC (by omega)];congr 1
  ·rw[aC h2,aC (by omega),aG (by omega)];congr 1
 ·by_cases h2:q=b
  ·subst h2;rw[aG (by omega),aG rfl,nF (by rw[dz,hd];omega),dz,hd,fo (by omega),qX,NN,cZ ha]
   rfl
  ·rw[aC (by omega),fp,amX ha,aC (show ¬((q:Int)=(b:Int)) by omega),show b+(q-(b+1))=q-1 by omega]
   by_cases h3:q-1<a
   ·rw[aG h3,aG (by omega)];congr 1;omega
   ·rw[aC h3,aC (by omega),aC (by omega)];congr 1;omega
def aJR {C X:List J} {a b:Nat} (ha:a<C.length) (hb:b<C.length) (hl:X.length=C.length) (hx:∀i:Nat,i<C.length->X[(fS a b i).toNat]? =C[i]?):X=wV C a b:=by
 refine vV λq=> ?_
 by_cases hq:q<C.length
 ·rw[amz ha hb hq];let ⟨i1,i2⟩:=aeJ (a:=(b:Int)) (b:=(a:Int)) (i:=(q:Int)) (n:=(C.length:Int)) (by omega) (by omega) (by omega) (by omega) (by omega) (by omega)
  have h:=hx (fS b a q).toNat (by omega)
  rw[VZ i1,X0 (n:=(C.length:Int)) (by omega) (by omega) (by omega) (by omega) (by omega) (by omega),NN] at h
  exact h
 ·rw[qP (by omega),qP (by rw[Ov ha hb];omega)]
def Ez:Bool:=AI D.bj&&(D.ck.length==0&&(iL (D.aM=A')&&(D.aD==0&&(D.av==0&&(D.aY==0&&(D.kr==0&&(iL (D.bp.aM=A')&&(D.bp.ag.length==0&&(D.bp.aH==0&&(D.bp.ar.length==0&&D.bp.aL.length==0))))))))))
def zT:ai:=ad3 A' [] 0 [] []
def RU:aE:=
 if D.bf=1 then aE.mk D.bf 0 D.aY D.kr A' 0 zv D.ck D.bp
 else if D.bf=2 then aE.mk D.bf 0 0 D.kr D.aM D.aD zv D.ck D.bp
 else if D.bf=3 then aE.mk D.bf 0 0 0 D.aM D.aD D.bj D.ck D.bp
 else if D.bf=4 then aE.mk D.bf 0 0 D.kr A' D.aD D.bj D.ck D.bp
 else if D.bf=5 then aE.mk D.bf 0 D.aY D.kr A' D.aD D.bj D.ck D.bp
 else if D.bf=6 then aE.mk D.bf D.av D.aY D.kr D.aM D.aD D.bj D.ck zT
 else if D.bf=7 then aE.mk D.bf 0 D.aY D.kr D.aM D.aD D.bj D.ck D.bp
 else aE.mk D.bf 0 0 D.kr D.aM D.aD D.bj [] D.bp
def qp:Bool:=iL (1<=D.bf)&&(iL (D.bf<=8)&&Ez (RU D))
def mY:ai:=⟨F.aM,F.ag,F.aH,F.ar.map λr=>⟨r.ag,fS B (-1) r.av⟩,F.aL⟩
def xQ:Bool:=(O.aD==f8.aD)&&((O.dh==f8.dh)&&((iL (O.cG=f8.cG))&&M))
def yX:Nat:=K.countP λq=>xQ q.f0 O
def yW:Nat:=K.countP λq=>xQ q.f1 O
def wT:Bool:=iL (1<=K.length)&&(iL (K.length<=16)&&K.all λp=>jt p.f0&&(p.f0.aD==B&&(yX p.f0 K==1&&yW p.f0 K==1)))
inductive kS (s:ae) (m:aE):ae->Prop
 |arx (j:Nat) (T:ai) (h:m.bf=1) (hj:m.av=(j:Int)) (hT:s.ah[j]? =V T) (hv:jt m.bj=M) (hk:m.bj.aD=m.aD):
   kS s m ⟨s.ay+1,s.ah.set j ⟨T.aM,T.ag++ [⟨m.aM,m.aD⟩],T.aH,T.ar,T.aL⟩⟩
 |aaU (j c:Nat) (T:ai) (x:cA) (h:m.bf=2) (hj:m.av=(j:Int)) (hT:s.ah[j]? =V T) (hc:m.aY=(c:Int)) (hx:T.ag[c]? =V x) (hk:T.aH<=(c:Int)) (hv:jt m.bj=M) (yj:m.bj.aD=x.aD) (hu:Cv (c:Int) T=I):
   kS s m ⟨s.ay+1,s.ah.set j (uK (fS (c:Int) (-1)) ⟨T.aM,T.ag.take c++T.ag.drop (c+1),T.aH,T.ar,T.aL⟩)⟩
 |move (j c d:Nat) (T:ai) (h:m.bf=3) (hj:m.av=(j:Int)) (hT:s.ah[j]? =V T) (hc:m.aY=(c:Int)) (hd:m.kr=(d:Int)) (h1:c<T.ag.length) (h2:d<T.ag.length) (hk:T.aH<=(c:Int)) (yk:T.aH<=(d:Int)):
   kS s m ⟨s.ay+1,s.ah.set j (uK (fS (c:Int) (d:Int)) ⟨T.aM,wV T.ag c d,T.aH,T.ar,T.aL⟩)⟩
 |apc (j c:Nat) (T:ai) (x:cA) (h:m.bf=4) (hj:m.av=(j:Int)) (hT:s.ah[j]? =V T) (hc:m.aY=(c:Int)) (hx:T.ag[c]? =V x):
   kS s m ⟨s.ay+1,s.ah.set j ⟨T.aM,T.ag.set c ⟨m.aM,x.aD⟩,T.aH,T.ar,T.aL⟩⟩
 |apb (j:Nat) (T:ai) (h:m.bf=5) (hj:m.av=(j:Int)) (hT:s.ah[j]? =V T):
   kS s m ⟨s.ay+1,s.ah.set j ⟨m.aM,T.ag,T.aH,T.ar,T.aL⟩⟩
 |arw (h:m.bf=6):kS s m ⟨s.ay+1,s.ah++ [m.bp]⟩
 |aaT (j:Nat) (T:ai) (h:m.bf=7) (hj:m.av=(j:Int)) (hT:s.ah[j]? =V T) (hr:∀i g6,i≠j->s.ah[i]? =V g6->∀r∈g6.ar,r.av≠(j:Int)):
   kS s m ⟨s.ay+1,(s.ah.take j++s.ah.drop (j+1)).map (mY (j:Int))⟩
 |DK (j c:Nat) (T:ai) (x:cA) (h:m.bf=8) (hj:m.av=(j:Int)) (hT:s.ah[j]? =V T) (hc:m.aY=(c:Int)) (hx:T.ag[c]? =V x) (hk:T.aH<=(c:Int)) (hp:wT x.aD m.ck=M) (hu:Cv (c:Int) T=I):
   kS s m ⟨s.ay+1,s.ah⟩
def aIQ:Ok (Y2 A D) λr=>r=M->qp D=M:=by
 unfold Y2 Vp;have key:∀q:aE,Ok (rI A q) λr=>r=M->Ez q=M:=λq=>by
  unfold rI;refine Ok.ite (λh1=>Ok.ite (λh2=>Ok.ite (λh3=>Ok.ite (λh4=>Ok.ite (λh5=>Ok.ite (λh6=>Ok.ite (λh7=>Ok.ite (λh8=>Ok.ite (λh9=>Ok.ite (λh10=>Ok.ite (λh11=>Ok.pure λh12=> ?_) ?_) ?_) ?_) ?_) ?_) ?_) ?_) ?_) ?_) ?_) ?_
  ·have h12:((q.bp.aL.length:Int)==0)=M:=h12;have e:∀k:Nat,((k:Int)==0)=(k==0):=λk=>by rw[nJ];simp
   rw[e] at h7 h9 h11 h12;have h6':AI q.bj=M:=h6;unfold Ez;rw[h1,h2,h3,h4,h5,h6',h7,h8,h9,h10,h11,h12];rfl
  all_goals exact λ_=>Ok.pure λh=>by cases h
 have fin:∀q:aE,1<=D.bf->D.bf<=8->q=RU D->Ok (rI A q) λr=>r=M->qp D=M:=λq h1 h8 hq=>(key q).mono λr hr h=>by
  unfold qp;rw[<-hq,hr h];simp[h1,h8]
 refine Ok.ite (λh=> ?_) λn1=>Ok.ite (λh=> ?_) λn2=>Ok.ite (λh=> ?_) λn3=>Ok.ite (λh=> ?_) λn4=>Ok.ite (λh=> ?_) λn5=>Ok.ite (λh=> ?_) λn6=>Ok.ite (λh=> ?_) λn7=>Ok.ite (λh=> ?_) λn8=>Ok.pure λh=>by cases h
 all_goals (simp at h;refine fin _ (by omega) (by omega) ?_;unfold RU;simp[h,zv,zT])
def aOy (h:qp D=M):F98 A D=V M:=by
 have key:∀q:aE,Ez q=M->zg A q=V M:=λq hq=>by
  unfold Ez at hq;simp only[bG,sq,jA] at hq;let ⟨a1,a2,a3,a4,a5,a6,a7,a8,a9,FV,a11,a12⟩:=hq;have a1':((q.bj.aD==0)&&((q.bj.dh==0)&&((iL (q.bj.cG=A'))&&M)))=M:=a1;unfold zg Kz;simp only[a1',a2,a3,a4,a5,a6,a7,a8,a9,FV,a11,a12];rfl
 unfold qp at h;simp only[bG,jA] at h;let ⟨h1,h8,hb⟩:=h;have hb:=key _ hb;unfold F98 asJ;unfold RU at hb;rcases (by omega:D.bf=1\/D.bf=2\/D.bf=3\/D.bf=4\/D.bf=5\/D.bf=6\/D.bf=7\/D.bf=8) with e|e|e|e|e|e|e|e<;>(simp[e,zv,zT] at hb;simp[e,hb])
def Z2 (k:gf->Int->Int->Int->gf->Int->Int->Int->Int->iq->Z Bool) (l:gf) (hl:l.length<=16) (l0:gf) (kind:Int) (t19:gf) (t20 t21 t32 t33:Int) (b6:iq):∀(x:gf) (i m f s:Nat),l.drop i=x->x.length<m->f+x.length<=100->s+x.length<=100->
  Is k m l0 kind (f:Int) (s:Int) t19 t20 t21 t32 t33 l (l.length:Int) (i:Int) b6=k l0 kind ((f+yX b6.f0 x:Nat):Int) ((s+yW b6.f0 x:Nat):Int) t19 t20 t21 t32 t33 b6
 | [],i,m+1,f,s,hd,hm,_,_=>by
  let ⟨hi,hq⟩:=eA hd
  simp[Is,U8,hq,yX,yW]
 |q::x,i,m+1,f,s,hd,hm,hf,hs=>by
  let ⟨g1,g2,g3,hq⟩:=dK hd
  simp at hm hf hs;have ih:=λf' s' h1 h2=>Z2 k l hl l0 kind t19 t20 t21 t32 t33 b6 x (i+1) m f' s' g2 (by omega) h1 h2
  have w:∀c:Nat,c<=100->aW ((c:Int)+1)=((c+1:Nat):Int):=λc hc=>by rw[cU (by omega) (by omega)];rfl
  have eF:yX b6.f0 (q::x)=yX b6.f0 x+if xQ q.f0 b6.f0=M then 1 else 0:=by simp[yX,List.countP_cons]
  have eS:yW b6.f0 (q::x)=yW b6.f0 x+if xQ q.f1 b6.f0=M then 1 else 0:=by simp[yW,List.countP_cons]
  have e1:(q.f0.aD==b6.f0.aD&&(q.f0.dh==b6.f0.dh&&(iL (q.f0.cG=b6.f0.cG)&&M)))=xQ q.f0 b6.f0:=rfl;have e2:(q.f1.aD==b6.f0.aD&&(q.f1.dh==b6.f0.dh&&(iL (q.f1.cG=b6.f0.cG)&&M)))=xQ q.f1 b6.f0:=rfl;simp only[Is,U8,hq,aO,aw,bB,g1,ak,e1,U9,e2,bT g3 (by omega),eF,eS]
  cases h1:xQ q.f0 b6.f0<;>cases h2:xQ q.f1 b6.f0
  ·simp only[ax,au,nH];exact ih f s (by omega) (by omega)
  ·simp only[ax,au,aw,nH,w s (by omega)]
   refine (ih f (s+1) (by omega) (by omega)).trans ?_
   rw[show s+1+yW b6.f0 x=s+(yW b6.f0 x+1) by omega]
  ·simp only[ax,au,aw,nH,w f (by omega)]
   refine (ih (f+1) s (by omega) (by omega)).trans ?_
   rw[show f+1+yX b6.f0 x=f+(yX b6.f0 x+1) by omega]
  ·simp only[aw,w s (by omega),w f (by omega)]
   refine (ih (f+1) (s+1) (by omega) (by omega)).trans ?_
   rw[show f+1+yX b6.f0 x=f+(yX b6.f0 x+1) by omega,show s+1+yW b6.f0 x=s+(yW b6.f0 x+1) by omega]
 |_,_,0,_,_,_,hm,_,_=>by simp at hm
def Z1 (n0:Nat) (l:gf) (hl:l.length<=16) (kind:Int):∀(x:gf) (i m:Nat),l.drop i=x->x.length+100<m->
  EL (Nt n0) m l kind l (l.length:Int) (i:Int)=V (x.all λp=>jt p.f0&&(p.f0.aD==kind&&(yX p.f0 l==1&&yW p.f0 l==1)))
 | [],i,m+1,hd,hm=>by
  let ⟨hi,hq⟩:=eA hd
  simp[EL,U6,hq,Nt]
 |p::x,i,m+1,hd,hm=>by
  let ⟨g1,g2,g3,hq⟩:=dK hd
  simp at hm;have ih:=Z1 n0 l hl kind x (i+1) m g2 (by omega)
  have inner:=Z2 (U7 (EL (Nt n0) m) m) l hl l kind l (l.length:Int) (i:Int) p.f0.aD kind p l 0 m 0 0 rfl (by omega) (by omega) (by omega)
  simp only[EL,U6,hq,aO,aw,bB,g1,ak,Dp,qQ];cases hr:jt p.f0 with
  |false=>simp
  |true=>
   by_cases hk:p.f0.aD=kind
   ·have hk1:(p.f0.aD !=kind)=I:=by simpa using hk
    have yk:(p.f0.aD==kind)=M:=by simpa using hk
    simp only[dd,ax,au,hk1,yk,iT];refine inner.trans ?_;simp only[U7,cg,bT g3 (by omega:l.length<4294967296)]
    have c1:(((yX p.f0 l:Nat):Int) !=1)= !(yX p.f0 l==1):=by rw[nJ];simp;omega
    have c2:(((yW p.f0 l:Nat):Int) !=1)= !(yW p.f0 l==1):=by rw[nJ];simp;omega
    rw[c1,c2];cases yX p.f0 l==1
    ·simp
    ·cases yW p.f0 l==1
     ·simp
     ·simp only[dd,ax,au,iT];exact ih
   ·have hk1:(p.f0.aD !=kind)=M:=by simpa using hk
    have yk:(p.f0.aD==kind)=I:=by simpa using hk
    simp[hk1,yk]
 |_,_,0,_,hm=>by simp at hm
def aog (hn:1000<A):asu A K S=V (wT S K):=by
 unfold asu ajL wT;by_cases h1:K.length<1
 ·have:(K.length:Int)<1:=by omega
  have h2:¬1<=K.length:=by omega
  simp only[this,aO,aw,h2,aR,gJ]
 ·have u9:¬(K.length:Int)<1:=by omega
  have h2:1<=K.length:=by omega
  by_cases h3:16<K.length
  ·have:(16:Int)<(K.length:Int):=by omega
   have h4:¬K.length<=16:=by omega
   simp only[u9,aR,ax,au,this,aO,aw,h2,h4,iT,gJ]
  ·have Mq:¬(16:Int)<(K.length:Int):=by omega
   have h4:K.length<=16:=by omega
   simp only[u9,Mq,aR,ax,au,h2,h4,aO,iT];exact Z1 A K h4 S K 0 A rfl (by omega)
def kz {l:List J} {x:J} (h:l[i]? =V x):l.set i x=l:=by
 let ⟨h1,h2⟩:=bO.1 h;rw[<-h2,Lb]
def Rq (k:ae->aE->ae->ae->bw->Z (ae×Bool)) (ts:bw) (hl:ts.length<=1000) (ht:∀T∈ts,GP T) (s:ae) (mg:aE):∀(x:bw) (i m:Nat) (b4 b6:ae),ts.drop i=x->x.length+4000<m->
  O6 k m ts (ts.length:Int) (i:Int) s mg b4 b6 (ts.take i)=k s mg (ad2 b4.ay []) (ad2 b6.ay ts) ts
 | [],i,m+1,b4,b6,hd,hm=>by
  let ⟨hi,hq⟩:=eA hd
  simp only[O6,abo,hq,aR,ax,au,jz hi]
 |T::x,i,m+1,b4,b6,hd,hm=>by
  let ⟨g1,g2,g3,hq⟩:=dK hd
  have hT:=ht T (bQ g1);simp at hm;have ih:=Rq k ts hl ht s mg x (i+1) m (ad2 b4.ay []) (ad2 b6.ay (ts.take (i+1))) g2 (by omega)
  have e1:(ts.take i).length=i:=by simp;omega
  simp only[O6,abo,hq,aO,aw,bB,g1,ak,Y1 m T hT.len hT.ref (by omega),dx (ts.take i) [T] (by simp;omega),td g1,bT g3 (by omega)]
  rw[e1,dD _ (by simp;omega),ak]
  have e2:(ts.take (i+1)).set i T=ts.take (i+1):=kz (by rw[eZ,aG (by omega)];exact g1)
  rw[e2];exact ih
 |_,_,0,_,_,_,hm=>by simp at hm
def Rp (k:Nat->aE->ae->ae->cY->bw->Z (ae×Bool)) (j:Nat) (mg:aE) (a b:Nat) (ha:mg.aY=(a:Int)) (hb:mg.kr=(b:Int)) (C:cY) (hl:C.length<=8) (ha':a<C.length) (np:b<C.length) (ts:bw):∀(x:cY) (i m:Nat) (b4 b6:ae) (X:cY) (rr:ai),C.drop i=x->x.length+100<m->X.length=C.length->(∀q:Nat,q<i->X[(fS a b q).toNat]? =C[q]?)->i<=C.length->
  ∃BG,O5 k m j (C.length:Int) (i:Int) mg b4 b6 X C ts rr=((setAt ts j (ad3 rr.aM C rr.aH rr.ar rr.aL)).bind λz2=>k j mg BG (ad2 b6.ay z2) (wV C a b) z2)
 | [],i,m+1,b4,b6,X,rr,hd,hm,hX,hx,hi=>by
  have uX:C.length<=i:=by simpa using hd
  have hq:¬((i:Int)<(C.length:Int)):=by omega
  have e:=aJR ha' np hX λq hq=>hx q (by omega)
  subst e;exact ⟨ad2 b4.ay [],by simp only[O5,abn,hq,aR,ax,au]⟩
 |c::x,i,m+1,b4,b6,X,rr,hd,hm,hX,hx,hi=>by
  let ⟨g1,g2,g3,hq⟩:=dK hd
  simp at hm;have hbnd:dX C.length (i:Int)=V i:=fI g3;let ⟨s1,s2⟩:=aeJ (a:=(a:Int)) (b:=(b:Int)) (i:=(i:Int)) (n:=(C.length:Int)) (by omega) (by omega) (by omega) (by omega) (by omega) (by omega)
  have hsh:fS a b i=((fS a b i).toNat:Int):=(VZ s1).symm;have dq:(fS a b i).toNat<X.length:=by omega
  have hb1:dX X.length (fS a b i)=V (fS a b i).toNat:=by rw[hsh];exact fI (by simpa using dq)
  have hF:=PE m (i:Int) (a:Int) (b:Int) (by omega) (by omega) (by omega) (by omega)
  let ⟨BG,ih⟩:=Rp k j mg a b ha hb C hl ha' np ts x (i+1) m (ad2 b4.ay []) (ad2 b6.ay ts) (X.set (fS a b i).toNat c) (ad3 rr.aM [] rr.aH rr.ar rr.aL) g2 (by omega) (by simpa using hX) (λq Cn=>by
   rw[List.getElem?_set];by_cases he:q=i
   ·subst he;rw[aG rfl,aG dq,g1]
   ·have:(fS a b i).toNat≠(fS a b q).toNat:=λhc=>by
     let ⟨q1,q2⟩:=aeJ (a:=(a:Int)) (b:=(b:Int)) (i:=(q:Int)) (n:=(C.length:Int)) (by omega) (by omega) (by omega) (by omega) (by omega) (by omega)
     have h3:fS a b i=fS a b q:=by omega
     have h1:=X0 (a:=(a:Int)) (b:=(b:Int)) (i:=(i:Int)) (n:=(C.length:Int)) (by omega) (by omega) (by omega) (by omega) (by omega) (by omega)
     have h2:=X0 (a:=(a:Int)) (b:=(b:Int)) (i:=(q:Int)) (n:=(C.length:Int)) (by omega) (by omega) (by omega) (by omega) (by omega) (by omega)
     rw[h3,h2] at h1;omega
    rw[aC this];exact hx q (by omega)) (by omega)
  refine ⟨BG,?_⟩;simp only[O5,abn,hq,aO,aw,hbnd,ak,cg,g1,ha,hb,hF,hb1,cZ dq,dD _ dq,bT g3 (by omega)]
  exact ih
 |_,_,0,_,_,_,_,_,hm,_,_,_=>by simp at hm
def jC:bl:=⟨aT.ag,fS B (-1) aT.av⟩
def ua:Bool:=am.all λr=>r.av !=B
def ahv (k:Int->Int->ae->aE->ae->ae->ai->cY->br->bw->bw->ai->Nat->Nat->bL->Z (ae×Bool)) (t299 t300:Int) (s:ae) (mg:aE) (a:Nat) (ha:mg.av=(a:Int)) (ha8:a<=1000) (cs:cY) (ch:br) (R cur:bw) (j:Nat) (hj:j<cur.length) (rs:bL) (hl:rs.length<=1000) (hr:∀r∈rs,mU r.av):∀(x:bL) (i m:Nat) (b4 b6:ae) (qG rr:ai),rs.drop i=x->x.length<m->
  Kg k m t299 t300 (rs.length:Int) (i:Int) s mg b4 b6 qG cs ch R cur rr j j (fM (jC a) rs i)=if ua a x=M then k t299 t300 s mg (ad2 b4.ay []) (ad2 b6.ay cur) (ad3 qG.aM cs qG.aH (rs.map (jC a)) ch) cs ch R cur (ad3 rr.aM [] rr.aH [] []) j j (rs.map (jC a)) else V (s,I)
 | [],i,m+1,b4,b6,qG,rr,hd,hm=>by
  let ⟨hi,hq⟩:=eA hd
  simp[Kg,TX,hq,tC _ _ hi,ua]
 |r::x,i,m+1,b4,b6,qG,rr,hd,hm=>by
  let ⟨g1,g2,g3,hq⟩:=dK hd
  have lA:=hr r (bQ g1);have ih:=ahv k t299 t300 s mg a ha ha8 cs ch R cur j hj rs hl hr x (i+1) m (ad2 b4.ay []) (ad2 b6.ay cur) (ad3 qG.aM cs qG.aH (fM (jC a) rs (i+1)) ch) (ad3 rr.aM [] rr.aH [] []) g2 (by simp at hm;omega)
  have hb:dX (fM (jC a) rs i).length (i:Int)=V i:=fI (by rw[lC];exact g3)
  have e:ua (a:Int) (r::x)=(r.av !=(a:Int)&&ua a x):=by simp[ua]
  have hs:(fM (jC a) rs i).set i (bl.mk r.ag (fS a (-1) r.av))=fM (jC a) rs (i+1):=tz (jC a) g1;rw[e];by_cases h:r.av=(a:Int)
  ·have h1:(r.av==(a:Int))=M:=by simpa using h
   have h2:(r.av !=(a:Int))=I:=by simpa using h
   simp only[Kg,TX,hq,aO,aw,hb,ak,cg,mP _ g1,ha,h1,show gU j j=V () by unfold gU;rw[aG rfl],dD _ hj,h2,gJ,ax,au]
  ·have h1:(r.av==(a:Int))=I:=by simpa using h
   have h2:(r.av !=(a:Int))=M:=by simpa using h
   simp only[Kg,TX,hq,aO,aw,hb,ak,cg,mP _ g1,ha,h1,h2,iT,ax,au,PE m r.av (a:Int) (-1) lA.1 lA.2 (by omega) (by omega),dD _ (show i<(fM (jC a) rs i).length by rw[lC];exact g3),hs,bT g3 (by omega)]
   exact ih
 |_,_,0,_,_,_,_,_,hm=>by simp at hm
def qO:bw:=f7.take A++f7.drop (A+1)
def axW {a:Nat} {ts:bw} {T:ai} (h:ts[i]? =V T) (cQ:i≠a):qO a (ts.take i)++ [T]=qO a (ts.take (i+1)):=by
 unfold qO;rw[pU,h,G1];have hl:=(bO.1 h).1;by_cases hi:i<a
 ·rw[jz (by simp;omega),p7 (by simp;omega),jz (l:=ts.take i++ [T]) (by simp;omega),p7 (l:=ts.take i++ [T]) (by simp;omega)]
  simp
 ·rw[akW (by simp;omega),V4 (by simp;omega),j8]
def axX {a:Nat} {ts:bw}:qO a (ts.take (a+1))=qO a (ts.take a):=by
 unfold qO;rw[l6,l6,fo (by omega),Nat.min_self,p7 (by simp;omega),p7 (by simp;omega)]
def Bm:Prop:=∀q g6,q<L->q≠A->f7[q]? =V g6->ua A g6.ar=M
def Kf {P:ae×Bool->Prop} (k:ae->ae->bw->bw->Nat->Z (ae×Bool)) (s:ae) (mg:aE) (a:Nat) (ha:mg.av=(a:Int)) (ha8:a<=1000) (ts:bw) (hl:ts.length<=1000) (ht:∀T∈ts,T.ar.length<=1000/\∀r∈T.ar,mU r.av) (v:Int) (hP:¬Bm a ts ts.length->P (s,I))
  (hk:∀b4 jP cur g,Bm a ts ts.length->Ok (k b4 (ad2 v jP) ((qO a ts).map (mY a)) cur g) P):∀(x:bw) (i m:Nat) (b4:ae) (tt cur:bw),ts.drop i=x->x.length+2000<m->cur.length=ts.length->(∀q,i<=q->cur[q]? =ts[q]?)->Bm a ts i->
  Ok (FX k m (ts.length:Int) (i:Int) s mg b4 (ad2 v tt) ((qO a (ts.take i)).map (mY a)) cur i) P
 | [],i,m+1,b4,tt,cur,hd,hm,hc,hcq,Bu=>by
  let ⟨hi,hq⟩:=eA hd
  simp only[FX,TW,hq,aR,ax,au,jz hi];refine hk _ _ _ _ λq g6 h1 h2 h3=>Bu q g6 (by omega) h2 h3
 |T::x,i,m+1,b4,tt,cur,hd,hm,hc,hcq,Bu=>by
  let ⟨g1,g2,g3,hq⟩:=dK hd
  simp at hm;have hT:=ht T (bQ g1);have hb:dX cur.length (i:Int)=V i:=fI (by omega)
  have GA:cur[i]? =V T:=(hcq i (de _)).trans g1;have rA:i<cur.length:=by omega
  have hsj:gU i i=V ():=by unfold gU;rw[aG rfl]
  by_cases h:i=a
  ·have h1:((i:Int)==mg.av)=M:=by rw[ha,h];exact iz _
   have ih:=Kf k s mg a ha ha8 ts hl ht v hP hk x (i+1) m (ad2 b4.ay []) (cur.set i (ad3 T.aM [] T.aH [] [])) (cur.set i (ad3 T.aM [] T.aH [] [])) g2 (by omega) (by simpa using hc) (λq Cn=>by rw[um (by omega)];exact hcq q (by omega)) (λq g6 h1 h2 h3=>Bu q g6 (by omega) h2 h3)
   rw[show qO a (ts.take (i+1))=qO a (ts.take i) by subst h;exact axX] at ih
   simp only[FX,TW,hq,aO,aw,hb,ak,cg,GA,hsj,h1,dD _ rA,PG,bT g3 (by omega:ts.length<4294967296)]
   exact ih
  ·have h1:((i:Int)==mg.av)=I:=by rw[ha];exact NP (by omega)
   have inner:=ahv (abm (PG (FX k m) m) m) (ts.length:Int) (i:Int) s mg a ha ha8 T.ag T.aL ((qO a (ts.take i)).map (mY a)) cur i rA T.ar hT.1 hT.2 T.ar 0 m (ad2 b4.ay []) (ad2 v cur) T (ad3 T.aM [] T.aH [] []) rfl (by omega)
   rw[yH] at inner;simp only[FX,TW,hq,aO,aw,hb,ak,cg,GA,hsj,h1,ax,au];rw[show (0:Int)=((0:Nat):Int) from rfl,inner];by_cases hn:ua a T.ar=M
   ·rw[aG hn];have wB:((qO a (ts.take i)).map (mY a)).length<=1000:=by
     have:(qO a (ts.take i)).length<=ts.length:=by unfold qO;simp;omega
     simpa using (by omega:(qO a (ts.take i)).length<=1000)
    have es:((qO a (ts.take i)).map (mY a)++ [ad3 T.aM T.ag T.aH (T.ar.map (jC a)) T.aL])=(qO a (ts.take (i+1))).map (mY a):=by
     rw[<-axW g1 h,ka];rfl
    have ih:=Kf k s mg a ha ha8 ts hl ht v hP hk x (i+1) m (ad2 b4.ay []) (cur.set i (ad3 T.aM [] T.aH [] [])) (cur.set i (ad3 T.aM [] T.aH [] [])) g2 (by omega) (by simpa using hc) (λq Cn=>by rw[um (by omega)];exact hcq q (by omega)) (λq g6 h1 h2 h3=>by
     by_cases he:q=i
     ·subst he;rw[g1] at h3;cases h3;exact hn
     ·exact Bu q g6 (by omega) h2 h3)
    unfold abm;rw[dx _ _ (by simp at wB ⊢;omega),ak,dD _ (by simp),ak,hsj,ak,dD _ rA,ak]
    rw[kz (l:=(qO a (ts.take i)).map (mY a)++ [ad3 T.aM T.ag T.aH (T.ar.map (jC a)) T.aL]) (by simp)]
    simp only[PG,bT g3 (by omega:ts.length<4294967296)]
    rw[es];exact ih
   ·rw[aC hn];exact Ok.pure (hP λhh=>hn (hh i T g3 h g1))
 |_,_,0,_,_,_,_,hm,_,_,_=>by simp at hm
structure MB (m:aE):Prop where
 FG:mU m.aY
 to:mU m.kr
 dfn:GP m.bp
def aCA (hn:1600000<A) (fw:A<4294967296) (b4 b6:ae) (ts:bw) (h:∀T∈ts,Bd T):Ok (nc A b4 b6 ts) λr=>r.1=⟨b6.ay,ts⟩/\(r.2=M->fL r.1=0):=by
 unfold nc;rw[IK A ⟨b6.ay,ts⟩ h hn fw,ak];exact Ok.pure ⟨rfl,λh=>by simpa using h⟩
def ux {ts:bw} {j:Nat} {T:ai} (h:∀g6∈ts,Bd g6) (hT:Bd T):∀g6∈ts.set j T,Bd g6:=λg6 hU=>by
 rcases Wg hU with h1|rfl
 ·exact h g6 h1
 ·exact hT
def NX {T:ai} (h:Bd T):Bd (uK f T):=λp hp=>by
 obtain ⟨q,hq,rfl⟩:=dM.1 hp;rw[amC];exact h q hq
def TG.xX {k:Nat} {T:ai} (h:TG k T):Bd T:=λp hp=>by have:=(h.kj p hp).2;omega
def Ok.of_eq {x y:Z J} {P:J->Prop} (h:x=y) (k:Ok y P):Ok x P:=h ▸ k
def bool_and {a b:Bool} (h:(a&&b)=M):a=M/\b=M:=(bG _ _).mp h
def aCz (hn:1700000<A) (fw:A<4294967296) (s:ae) (hs:SG s) (m:aE) (hm:MB m) (h1:1<=m.bf) (h8:m.bf<=8) (h6:m.bf≠6) (j:Nat) (T:ai) (hj:m.av=(j:Int)) (hT:s.ah[j]? =V T) (b4 b6:ae) (hv:b6.ay=s.ay+1):
  Ok (wA A j (T.ag.length:Int) (iL (T.aH<=m.aY)&&iL (m.aY<(T.ag.length:Int))) s m b4 b6 s.ah) λr=>r.2=M->kS s m r.1/\fL r.1=0:=by
 have gn:=(bO.1 hT).1;have hG:=hs.bY T (bQ hT);have gS:∀g6∈s.ah,Bd g6:=λg6 hU=>(hs.bY g6 hU).xX
 have hc8:=hG.cols;have hk1:=hG.uL;have no:Ok (V (s,I):Z (ae×Bool)) λr=>r.2=M->kS s m r.1/\fL r.1=0:=Ok.pure λh=>by cases h
 have done:∀(b4:ae) (vv:ae) (ts:bw),vv.ay=s.ay+1->(∀g6∈ts,Bd g6)->kS s m ⟨s.ay+1,ts⟩->Ok (nc A b4 vv ts) λr=>r.2=M->kS s m r.1/\fL r.1=0:=λb4 vv ts h2 h3 h4=>
  (aCA A (by omega) fw b4 vv ts h3).mono λr ⟨e,hr⟩ h=>⟨by rw[e,h2];exact h4,hr h⟩
 have lO:setAt s.ah j T=V s.ah:=by rw[dD _ gn,kz hT]
 unfold wA;refine Ok.ite (λq=> ?_) λq1=> ?_
 ·have q:m.bf=1:=by simpa using q
  rw[Dp,ak];refine Ok.ite (λ_=>no) λhr=>Ok.ite (λ_=>no) λhk=> ?_
  have hr:jt m.bj=M:=by simpa using hr
  have hk:m.bj.aD=m.aD:=by simpa using hk
  rw[hT,ak,dx _ _ (by simp;omega),ak,dD _ gn,ak]
  exact done _ _ _ hv (ux gS hG.xX) (.arx j T q hj hT hr hk)
 refine Ok.ite (λq=> ?_) λq2=> ?_
 ·have q:m.bf=2:=by simpa using q
  rw[hT,ak];refine Ok.ite (λ_=>by rw[lO,ak];exact no) λho=> ?_
  have ho:(iL (T.aH<=m.aY)&&iL (m.aY<(T.ag.length:Int)))=M:=by
   cases hh:(iL (T.aH<=m.aY)&&iL (m.aY<(T.ag.length:Int))) with
   |true=>rfl
   |false=>rw[hh] at ho;cases ho
  let ⟨o1,o2⟩:=bool_and ho;have o1:=tq o1;have o2:=tq o2;obtain ⟨c,hc⟩:∃c:Nat,m.aY=(c:Int):=⟨m.aY.toNat,by omega⟩
  have eY:c<T.ag.length:=by omega
  have hx:T.ag[c]? =V T.ag[c]:=cZ eY;rw[Dp,ak];refine Ok.ite (λ_=>by rw[lO,ak];exact no) λhr=> ?_
  have hr:jt m.bj=M:=by simpa using hr
  rw[hc,fI eY,ak,cg,hx,ak];refine Ok.ite (λ_=>by rw[lO,ak];exact no) λhk=> ?_
  have hk:m.bj.aD=T.ag[c].aD:=by simpa using hk
  rw[PC A T (c:Int) (by omega) hG.cp (by omega),ak]
  refine Ok.ite (λ_=>by rw[lO,ak];exact no) λhu=> ?_
  rw[lO,ak,hT,ak];have w:aW ((c:Int)+1)=((c+1:Nat):Int):=bT eY (by omega)
  have ct:rR T.ag.length (c:Int)=V c:=by unfold rR;rw[aG ⟨by omega,by omega⟩];rfl
  have cl:Er T.ag.length ((c+1:Nat):Int)=V (c+1):=by unfold Er;rw[aG ⟨by omega,by omega⟩];rfl
  have an:Kc T.ag c ((T.ag.drop (0+(c+1))).take (T.ag.length-(c+1)))=V (T.ag.take c++T.ag.drop (c+1)):=by
   unfold Kc;rw[cg,jz (l:=T.ag.drop (c+1)) (by simp),aG ⟨by omega,by omega,by simp;omega⟩]
  rw[w,ct,ak,cl,ak,an,ak];have tok:TOK (T.ag.length:Int) ⟨T.aM,T.ag.take c++T.ag.drop (c+1),T.aH,T.ar,T.aL⟩:=⟨by rw[An eY];omega,hG.tok.refs,hG.tok.ref,hG.tok.Ca,hG.tok.kj⟩
  rw[PB A _ (T.ag.length:Int) (by omega) tok (c:Int) (-1) ⟨by omega,by omega⟩ (by omega),ak,dD _ gn,ak]
  exact done _ _ _ hv (ux gS (NX (T:=⟨T.aM,T.ag.take c++T.ag.drop (c+1),T.aH,T.ar,T.aL⟩) hG.xX)) (.aaU j c T T.ag[c] q hj hT hc hx (by omega) hr hk hu)
 refine Ok.ite (λq=> ?_) λq3=> ?_
 ·have q:m.bf=3:=by simpa using q
  refine Ok.ite (λ_=>no) λho=> ?_
  have ho:(iL (T.aH<=m.aY)&&iL (m.aY<(T.ag.length:Int)))=M:=by
   cases hh:(iL (T.aH<=m.aY)&&iL (m.aY<(T.ag.length:Int))) with
   |true=>rfl
   |false=>rw[hh] at ho;cases ho
  let ⟨o1,o2⟩:=bool_and ho;have o1:=tq o1;have o2:=tq o2;rw[hT,ak];refine Ok.ite (λ_=>no) λhk=>Ok.ite (λ_=>no) λhl=> ?_
  have hk:=NK hk;have hl:m.kr<(T.ag.length:Int):=by simpa using hl
  obtain ⟨c,hc⟩:∃c:Nat,m.aY=(c:Int):=⟨m.aY.toNat,by omega⟩
  obtain ⟨d,hd⟩:∃d:Nat,m.kr=(d:Int):=⟨m.kr.toNat,by omega⟩
  have eY:c<T.ag.length:=by omega
  have rB:d<T.ag.length:=by omega
  have agq:tu (T.ag.length:Int) ((cA.mk A' 0):cA)=V (V' T.ag.length (cA.mk A' 0)):=by
   unfold tu;rw[aG ⟨by omega,by omega⟩];rfl
  rw[agq,ak,ak];let ⟨BG,e⟩:=Rp (PH (nc A) A) j m c d hc hd T.ag hc8 eY rB s.ah T.ag 0 A (ad2 b4.ay []) (ad2 b6.ay s.ah) (V' T.ag.length (cA.mk A' 0)) (ad3 T.aM [] T.aH T.ar T.aL) rfl (by omega) (by simp) (λq hq=>by omega) (by omega)
  refine Ok.of_eq e ?_;rw[lO,ak];unfold PH;have tok:TOK (T.ag.length:Int) ⟨T.aM,wV T.ag c d,T.aH,T.ar,T.aL⟩:=⟨by rw[Ov eY rB];omega,hG.tok.refs,hG.tok.ref,hG.tok.Ca,hG.tok.kj⟩
  rw[hT,ak,PB A _ (T.ag.length:Int) (by omega) tok m.aY m.kr hm.FG (by omega),ak,dD _ gn,ak]
  refine done _ _ _ hv (ux gS (NX (T:=⟨T.aM,wV T.ag c d,T.aH,T.ar,T.aL⟩) hG.xX)) ?_;have:=kS.move (s:=s) (m:=m) j c d T q hj hT hc hd eY rB (by omega) (by omega)
  rw[<-hc,<-hd] at this;exact this
 refine Ok.ite (λq=> ?_) λq4=> ?_
 ·have q:m.bf=4:=by simpa using q
  refine Ok.ite (λ_=>no) λhk=>Ok.ite (λ_=>no) λhl=> ?_
  have hk:=NK hk;have hl:m.aY<(T.ag.length:Int):=by simpa using hl
  obtain ⟨c,hc⟩:∃c:Nat,m.aY=(c:Int):=⟨m.aY.toNat,by omega⟩
  have eY:c<T.ag.length:=by omega
  have hx:T.ag[c]? =V T.ag[c]:=cZ eY;rw[hT,ak,hc,fI eY,ak,cg,hx,ak,dD _ eY,ak,dD _ gn,ak];exact done _ _ _ hv (ux gS hG.xX) (.apc j c T T.ag[c] q hj hT hc hx)
 refine Ok.ite (λq=> ?_) λq5=> ?_
 ·have q:m.bf=5:=by simpa using q
  rw[hT,ak,dD _ gn,ak];exact done _ _ _ hv (ux gS hG.xX) (.apb j T q hj hT)
 refine Ok.ite (λq=> ?_) λq7=> ?_
 ·have q:m.bf=7:=by simpa using q
  have hl8:=hs.len;have aAR:Bm j s.ah 0:=λq g6 h=>by omega
  have key:=Kf (P:=λr=>r.2=M->kS s m r.1/\fL r.1=0) (PF (nc A) A) s m j hj (by omega) s.ah (by omega) (λg6 hU=>⟨by have:=(hs.bY g6 hU).refs;omega,λr hr=>by let ⟨_,_,r1,r2⟩:=(hs.bY g6 hU).ref r hr;exact ⟨by omega,by omega⟩⟩) b6.ay (λ_ h=>by cases h) (λBG jP cur g Bu=>by
  unfold PF;refine done _ _ _ hv (λg6 hU=> ?_) ?_
  ·obtain ⟨ex,hV,rfl⟩:=dM.1 hU;have hV':ex∈s.ah:=by
    rcases eV.1 hV with h|h
    ·exact oG h
    ·exact nG h
   exact gS ex hV'
  ·refine .aaT j T q hj hT λi g6 hi hU r hr=> ?_
   have:=Bu i g6 (bO.1 hU).1 hi hU;unfold ua at this;rw[jJ] at this;have:=this r hr;simpa using this) s.ah 0 A (ad2 b4.ay []) s.ah s.ah rfl (by omega) rfl (λ_ _=>rfl) aAR
  rw[show (qO j (s.ah.take 0)).map (mY (j:Int))= [] by simp[qO]] at key
  exact key
 ·have q:m.bf=8:=by simp at q1 q2 q3 q4 q5 q7;omega
  rw[hT,ak];refine Ok.ite (λ_=>by rw[lO,ak];exact no) λho=> ?_
  have ho:(iL (T.aH<=m.aY)&&iL (m.aY<(T.ag.length:Int)))=M:=by
   cases hh:(iL (T.aH<=m.aY)&&iL (m.aY<(T.ag.length:Int))) with
   |true=>rfl
   |false=>rw[hh] at ho;cases ho
  let ⟨o1,o2⟩:=bool_and ho;have o1:=tq o1;have o2:=tq o2;obtain ⟨c,hc⟩:∃c:Nat,m.aY=(c:Int):=⟨m.aY.toNat,by omega⟩
  have eY:c<T.ag.length:=by omega
  have hx:T.ag[c]? =V T.ag[c]:=cZ eY;rw[hc,fI eY,ak,cg,hx,ak,aog A m.ck _ (by omega),ak]
  refine Ok.ite (λ_=>by rw[lO,ak];exact no) λhp=> ?_
  rw[PC A T (c:Int) (by omega) hG.cp (by omega),ak]
  refine Ok.ite (λ_=>by rw[lO,ak];exact no) λhu=> ?_
  rw[lO,ak];exact done _ _ _ hv gS (.DK j c T T.ag[c] q hj hT hc hx (by omega) (by simpa using hp) hu)
def aOz (hn:1700000<A) (fw:A<4294967296) (s:ae) (hs:SG s) (m:aE) (hm:MB m):Ok (F95 A s m) λr=>r.2=M->qp m=M/\kS s m r.1/\fL r.1=0:=by
 have no:Ok (V (s,I):Z (ae×Bool)) λr=>r.2=M->qp m=M/\kS s m r.1/\fL r.1=0:=Ok.pure λh=>by cases h
 have hl8:=hs.len;have hv0:=hs.v0;have D6:=hs.v1;unfold F95 TY;refine Ok.bind (aIQ A m) λb hb=>Ok.ite (λ_=>no) λnp=> ?_
 have wB:=hb (by simpa using np)
 have e:=Rq (BN A) s.ah (by omega) (λT hT=>(hs.bY T hT).cp) s m s.ah 0 A (ad2 0 []) (ad2 (aW (s.ay+1)) []) rfl (by omega)
 refine Ok.of_eq e ?_;rw[cU (by omega) (by omega)]
 have h18:1<=m.bf/\m.bf<=8:=by
  unfold qp at wB;simp only[bG,jA] at wB;exact ⟨wB.1,wB.2.1⟩
 unfold BN;refine Ok.ite (λq=> ?_) λq6=>Ok.ite (λ_=>no) λt0=>Ok.ite (λ_=>no) λt1=> ?_
 ·have q:m.bf=6:=by simpa using q
  rw[Y1 A m.bp hm.dfn.len hm.dfn.ref (by omega),ak,dx _ _ (by simp;omega),ak,dD _ (by simp),ak,kz (by simp)]
  have hz:∀T∈s.ah++ [m.bp],Bd T:=λT hT=>by
   rcases eV.1 hT with h|h
   ·exact (hs.bY T h).xX
   ·rw[gL.1 h];exact λp hp=>by have:=hm.dfn.kj p hp;omega
  rw[IK A ⟨s.ay+1,s.ah++ [m.bp]⟩ hz (by omega) fw,ak]
  exact Ok.pure λh=>⟨wB,.arw q,by simpa using h⟩
 ·have q6:m.bf≠6:=by simpa using q6
  have t0:=NK t0;have t1:m.av<(s.ah.length:Int):=by simpa using t1
  obtain ⟨j,hj⟩:∃j:Nat,m.av=(j:Int):=⟨m.av.toNat,by omega⟩
  have gn:j<s.ah.length:=by omega
  have hT:s.ah[j]? =V s.ah[j]:=cZ gn;rw[hj,fI gn,ak,cg,hT,ak];have fin:=λb4 b6 hv=>aCz A hn fw s hs m hm h18.1 h18.2 q6 j s.ah[j] hj hT b4 b6 hv
  have lO:setAt s.ah j s.ah[j]=V s.ah:=by rw[dD _ gn,kz hT]
  refine Ok.ite (λhk=> ?_) λhk=> ?_
  ·have hk:s.ah[j].aH<=m.aY:=by simpa using hk
   rw[lO,ak];have:=fin (ad2 0 []) (ad2 (s.ay+1) s.ah) rfl;rw[tT hk,iT] at this;exact this.mono λr hr h=>⟨wB,hr h⟩
  ·have hk:¬s.ah[j].aH<=m.aY:=by simp at hk;omega
   rw[lO,ak];have:=fin (ad2 0 []) (ad2 (s.ay+1) s.ah) rfl;rw[Dt hk,gJ] at this;exact this.mono λr hr h=>⟨wB,hr h⟩
section
mutual
def SM {N:Int} {f g:Int->Int}:∀{p:aj},pS N p=M->(∀x,0<=x->x<N->qm x p=M->f x=g x)->mR f p=mR g p
 |⟨op,c,l,r,args⟩,hp,h=>by
  simp only[pS,bG] at hp;let ⟨rZ,hp2⟩:=hp;have ha:=P8 hp2 λx h0 h1 h2=>h x h0 h1 (by simp[qm,h2])
  simp only[mR,ha];by_cases h3:op=3
  ·subst h3;simp only[iz,aw,bG] at rZ;have ho:∀o:bI,BX N o=M->(∀x,qN x o=M->qm x ⟨3,c,l,r,args⟩=M)->kN f o=kN g o:=λo ho hc=>by
    unfold kN;split
    ·rename_i hk;have jO:o.aD=1:=by simpa using hk
     simp[BX,jO] at ho;rw[h o.dj ho.1 ho.2 (hc _ (by simp[qN,jO]))]
    ·rfl
   rw[ho l rZ.1 λx hx=>by simp[qm,hx],ho r rZ.2 λx hx=>by simp[qm,hx]]
  ·have cQ:(op==3)=I:=by simpa using h3
   rw[cQ] at rZ;simp at rZ;rw[yg rZ.1,yg rZ.1,yg rZ.2,yg rZ.2]
def P8 {N:Int} {f g:Int->Int}:∀{xs:br},LL N xs=M->(∀x,0<=x->x<N->rF x xs=M->f x=g x)->jI f xs=jI g xs
 | [],_,_=>by simp[jI]
 |p::xs,hp,h=>by
  simp only[LL,bG] at hp;simp only[jI,SM hp.1 λx h0 h1 h2=>h x h0 h1 (by simp[rF,h2]),P8 hp.2 λx h0 h1 h2=>h x h0 h1 (by simp[rF,h2])]
end
def SL {N:Int} {g:Int->Int} {T:ai} (hr:∀r∈T.ar,∀c∈r.ag,f c=g c) (hp:∀p∈T.aL,pS N p=M/\∀x,0<=x->x<N->qm x p=M->f x=g x):uK f T=uK g T:=by
 unfold uK;have e1:T.ar.map (ga f)=T.ar.map (ga g):=vj λr h=>by
  unfold ga;rw[vj λc hc=>hr r h c hc]
 have e2:T.aL.map (mR f)=T.aL.map (mR g):=vj λp h=>SM (hp p h).1 (hp p h).2
 rw[e1,e2]
def YX:YY A O S=V (jt O&&O.aD==S):=by
 unfold YY ajh;rw[aoc,ak];cases jt O<;>simp
def Rb {C:List J} {c:Nat} (h:c<C.length):YG C (c:Int) ((c+1:Nat):Int)=V (C.take c++C.drop (c+1),C.take c++C.drop (c+1)):=by
 unfold YG;rw[aG ⟨by omega,by omega,by omega⟩]
 rfl
section
variable {n:Nat} {s:ae} {m:aE} {j:Nat} {T:ai}
def aIP (hs:SG s) (hj:m.av=(j:Int)) (hT:s.ah[j]? =V T) (v:Int) (hv:jt m.bj=M) (hk:m.bj.aD=m.aD):aiy n (ad4 (ad2 v s.ah) m)=V (M,ad4 (ad2 v (s.ah.set j ⟨T.aM,T.ag++ [⟨m.aM,m.aD⟩],T.aH,T.ar,T.aL⟩)) m):=by
 have gn:=(bO.1 hT).1;have hG:=hs.bY T (bQ hT);have h8:=hG.cols;unfold aiy ajJ;rw[IN n v s.ah m j hj gn,ak];simp only[hT,ak,dx T.ag [(⟨m.aM,m.aD⟩:cA)] (by simp;omega),YX,hv,hk,iz,iT,dD _ gn]
def aIO (hs:SG s) (hj:m.av=(j:Int)) (hT:s.ah[j]? =V T) (v:Int) (gu:m.bf=2) (c:Nat) (x:cA) (hc:m.aY=(c:Int)) (hx:T.ag[c]? =V x) (hk:T.aH<=(c:Int)) (hv:jt m.bj=M) (yj:m.bj.aD=x.aD) (hu:Cv (c:Int) T=I) (hn:100000<n):
  aix n (ad4 (ad2 v s.ah) m)=V (M,ad4 (ad2 v (s.ah.set j (uK (fS (c:Int) (-1)) ⟨T.aM,T.ag.take c++T.ag.drop (c+1),T.aH,T.ar,T.aL⟩))) m):=by
 have gn:=(bO.1 hT).1;have eY:=(bO.1 hx).1;have hG:=hs.bY T (bQ hT);have h8:=hG.cols;have lO:setAt s.ah j T=V s.ah:=by rw[dD _ gn,kz hT]
 have Mr:=PA n v s.ah m j T hj hT m.aY;rw[hc,tT hk,tT (show (c:Int)<(T.ag.length:Int) by omega)] at Mr
 have agx:=anT n v s.ah m j T hj hT (by omega) hG.cp (by omega)
 rw[hc,hu] at agx;have w:aW ((c:Int)+1)=((c+1:Nat):Int):=bT eY (by omega)
 unfold aix ajI;rw[IN n v s.ah m j hj gn,ak];simp only[hT,ak,lO,hc,Mr,pT,dd,ax,au,fI eY,cg,hx,YX,hv,yj,iz,agx,w];rw[show aih n T.ag (c:Int) ((c+1:Nat):Int)=V (T.ag.take c++T.ag.drop (c+1),T.ag.take c++T.ag.drop (c+1)) from Rb eY,ak];simp only[dD _ gn,ak];have tok:TOK (T.ag.length:Int) ⟨T.aM,T.ag.take c++T.ag.drop (c+1),T.aH,T.ar,T.aL⟩:=⟨by rw[An eY];omega,hG.tok.refs,hG.tok.ref,hG.tok.Ca,hG.tok.kj⟩
 rw[anS n v _ m j _ hj (nf gn) (.inl gu) (by rw[hc];exact ⟨by omega,by omega⟩) (T.ag.length:Int) (by omega) tok (by omega),ak,vX]
 have ud:r5 (c:Int) T.ar=I/\r7 (c:Int) T.aL=I:=by
  unfold Cv at hu;exact acI.1 hu
 have at2:∀y:Int,0<=y->y≠(c:Int)->kW m y=fS (c:Int) (-1) y:=λy h0 h1=>by
  unfold kW fS;rw[aG gu,hc,aC (show ¬y<0 by omega),aC h1,aG (show (-1:Int)<0 by omega)]
 have hmt:uK (kW m) ⟨T.aM,T.ag.take c++T.ag.drop (c+1),T.aH,T.ar,T.aL⟩=uK (fS (c:Int) (-1)) ⟨T.aM,T.ag.take c++T.ag.drop (c+1),T.aH,T.ar,T.aL⟩:=by
  refine SL (N:=(T.ag.length:Int)) (λr hr y hy=> ?_) λp hp=>⟨(hG.kj p hp).1,λy h0 h1 h2=> ?_⟩
  ·refine at2 y ((hG.ref r hr).2.1 y hy).1 λe=> ?_
   have h3:=ud.1;unfold r5 at h3;rw[List.any_eq_false] at h3;exact h3 r hr (by rw[<-e];exact tT hy)
  ·refine at2 y h0 λe=> ?_
   have h3:=ud.2;unfold r7 at h3;rw[List.any_eq_false] at h3;exact h3 p hp (by rw[<-e];exact h2)
 rw[hmt]
def aIN (hs:SG s) (hj:m.av=(j:Int)) (hT:s.ah[j]? =V T) (v:Int) (gu:m.bf=3) (c d:Nat) (hc:m.aY=(c:Int)) (hd:m.kr=(d:Int)) (h1:c<T.ag.length) (h2:d<T.ag.length) (hk:T.aH<=(c:Int)) (yk:T.aH<=(d:Int)) (hn:100000<n):
  aiw n (ad4 (ad2 v s.ah) m)=V (M,ad4 (ad2 v (s.ah.set j (uK (fS (c:Int) (d:Int)) ⟨T.aM,wV T.ag c d,T.aH,T.ar,T.aL⟩))) m):=by
 have gn:=(bO.1 hT).1;have hG:=hs.bY T (bQ hT);have h8:=hG.cols;have hk1:=hG.uL;have Mr:=PA n v s.ah m j T hj hT m.aY;rw[hc,tT hk,tT (show (c:Int)<(T.ag.length:Int) by omega)] at Mr
 have aEG:=PA n v s.ah m j T hj hT m.kr;rw[hd,tT yk,tT (show (d:Int)<(T.ag.length:Int) by omega)] at aEG
 have w:aW ((c:Int)+1)=((c+1:Nat):Int):=bT h1 (by omega)
 have rB:=An h1;have hins:afY (T.ag.take c++T.ag.drop (c+1)) (d:Int) [T.ag[c]]=V (wV T.ag c d,wV T.ag c d):=by
  unfold afY;rw[aG ⟨by omega,by omega,by omega,by simp,by omega,by simp⟩]
  unfold wV;rw[cZ h1];rfl
 unfold aiw ajH;rw[IN n v s.ah m j hj gn,ak];simp only[hc,Mr,ak,pT,dd,ax,au,hd,aEG,hT,fI h1,cg,cZ h1,w];rw[show aih n T.ag (c:Int) ((c+1:Nat):Int)=V (T.ag.take c++T.ag.drop (c+1),T.ag.take c++T.ag.drop (c+1)) from Rb h1,ak];rw[show aCs n (T.ag.take c++T.ag.drop (c+1)) (d:Int) [T.ag[c]]=V (wV T.ag c d,wV T.ag c d) from hins,ak];simp only[dD _ gn,ak];have tok:TOK (T.ag.length:Int) ⟨T.aM,wV T.ag c d,T.aH,T.ar,T.aL⟩:=⟨by rw[Ov h1 h2];omega,hG.tok.refs,hG.tok.ref,hG.tok.Ca,hG.tok.kj⟩
 rw[anS n v _ m j _ hj (nf gn) (.inr gu) (by rw[hc];exact ⟨by omega,by omega⟩) (T.ag.length:Int) (by omega) tok (by omega),ak,vX]
 have at3:∀y:Int,0<=y->kW m y=fS (c:Int) (d:Int) y:=λy h0=>by
  unfold kW fS;rw[aC (show ¬m.bf=2 by omega),aG gu,hc,hd,aC (show ¬y<0 by omega),aC (show ¬(d:Int)<0 by omega)]
  by_cases e1:y=(c:Int)
  ·rw[aG e1,aG e1]
  ·rw[aC e1,aC e1];by_cases e2:(c:Int)<y/\y<=(d:Int)
   ·rw[aG e2,aG (show (c:Int)<(d:Int)/\(c:Int)<y/\y<=(d:Int) by omega)]
   ·rw[aC e2,aC (show ¬((c:Int)<(d:Int)/\(c:Int)<y/\y<=(d:Int)) by omega)]
    by_cases e3:(d:Int)<=y/\y<(c:Int)
    ·rw[aG e3,aG (show (d:Int)<(c:Int)/\(d:Int)<=y/\y<(c:Int) by omega)]
    ·rw[aC e3,aC (show ¬((d:Int)<(c:Int)/\(d:Int)<=y/\y<(c:Int)) by omega)]
 have hmt:uK (kW m) ⟨T.aM,wV T.ag c d,T.aH,T.ar,T.aL⟩=uK (fS (c:Int) (d:Int)) ⟨T.aM,wV T.ag c d,T.aH,T.ar,T.aL⟩:=SL (N:=(T.ag.length:Int)) (λr hr y hy=>at3 y ((hG.ref r hr).2.1 y hy).1) λp hp=>⟨(hG.kj p hp).1,λy h0 h1 h2=>at3 y h0⟩
 rw[hmt]
def aIM (hs:SG s) (hj:m.av=(j:Int)) (hT:s.ah[j]? =V T) (v:Int) (c:Nat) (x:cA) (hc:m.aY=(c:Int)) (hx:T.ag[c]? =V x):
  aiv n (ad4 (ad2 v s.ah) m)=V (M,ad4 (ad2 v (s.ah.set j ⟨T.aM,T.ag.set c ⟨m.aM,x.aD⟩,T.aH,T.ar,T.aL⟩)) m):=by
 have gn:=(bO.1 hT).1;have eY:=(bO.1 hx).1;unfold aiv ajG;rw[IN n v s.ah m j hj gn,ak];have q1:¬((c:Int)<0):=by omega
 have q2:(c:Int)<(T.ag.length:Int):=by omega
 simp only[hT,ak,hc,q1,q2,aR,aO,dd,ax,au,fI eY,cg,hx,dD _ eY,dD _ gn]
def aIL (hj:m.av=(j:Int)) (hT:s.ah[j]? =V T) (v:Int):
  aiu n (ad4 (ad2 v s.ah) m)=V (M,ad4 (ad2 v (s.ah.set j ⟨m.aM,T.ag,T.aH,T.ar,T.aL⟩)) m):=by
 have gn:=(bO.1 hT).1;unfold aiu ajF;rw[IN n v s.ah m j hj gn,ak];simp only[hT,ak,dD _ gn]
def aIK (hs:SG s) (hm:MB m) (v:Int) (hn:100000<n):
  ait n (ad4 (ad2 v s.ah) m)=V (M,ad4 (ad2 v (s.ah++ [m.bp])) m):=by
 have h8:=hs.len;unfold ait ajE;rw[ayJ n m.bp hm.dfn.len hm.dfn.ref hm.dfn.kj (by omega),ak]
 simp only[dx s.ah [m.bp] (by simp;omega),ak]
 rw[dD _ (by simp),ak,kz (by simp)]
end
def Z0 (k:Int->Int->aJ->bw->Z (Bool×aJ)) (i3 t16 t17:Int) (mg:aE) (a:Nat) (ha:mg.av=(a:Int)) (v:Int) (cur:bw) (j:Nat) (ch:br) (cs:cY) (rs:bL) (hl:rs.length<=1000) (ho:i3=(a:Int)\/ua a rs=M):∀(x:bL) (i m:Nat) (tt:bw) (rr:ai),rs.drop i=x->x.length<m->
  Iq k m i3 t16 t17 (rs.length:Int) (i:Int) (ad4 (ad2 v tt) mg) cur rr j ch cs rs=((setAt cur j (ad3 rr.aM cs rr.aH rs ch)).bind λz2=>k t16 t17 (ad4 (ad2 v z2) mg) z2)
 | [],i,m+1,tt,rr,hd,hm=>by
  let ⟨hi,hq⟩:=eA hd
  simp only[Iq,U3,hq,aR,ax,au]
 |r::x,i,m+1,tt,rr,hd,hm=>by
  let ⟨g1,g2,g3,hq⟩:=dK hd
  have ih:=Z0 k i3 t16 t17 mg a ha v cur j ch cs rs hl ho x (i+1) m cur (ad3 rr.aM [] rr.aH [] []) g2 (by simp at hm;omega)
  have hs:setAt rs i r=V rs:=by rw[dD _ g3,kz g1]
  simp only[Iq,U3,hq,aO,aw,fI g3,ak,cg,g1,ha,hs,bT g3 (by omega)]
  by_cases h:i3=(a:Int)
  ·have h1:(i3 !=(a:Int))=I:=by simpa using h
   simp only[h1,ax,au];exact ih
  ·have h1:(i3 !=(a:Int))=M:=by simpa using h
   have h2:(r.av==(a:Int))=I:=by
    rcases ho with ho|ho
    ·exact absurd ho h
    ·unfold ua at ho;rw[jJ] at ho;have:=ho r (bQ g1);simpa using this
   simp only[h1,aw,h2,ax,au];exact ih
 |_,_,0,_,_,_,hm=>by simp at hm
def ZZ (k:aJ->bw->Z (Bool×aJ)) (mg:aE) (a:Nat) (ha:mg.av=(a:Int)) (v:Int) (ts:bw) (hl:ts.length<=1000) (ht:∀T∈ts,T.ar.length<=1000) (Bu:Bm a ts ts.length):∀(x:bw) (i m:Nat) (tt:bw),ts.drop i=x->x.length+1000<m->
  EK k m (ts.length:Int) (i:Int) (ad4 (ad2 v tt) mg) ts=k (ad4 (ad2 v ts) mg) ts
 | [],i,m+1,tt,hd,hm=>by
  let ⟨hi,hq⟩:=eA hd
  simp only[EK,U1,hq,aR,ax,au]
 |T::x,i,m+1,tt,hd,hm=>by
  let ⟨g1,g2,g3,hq⟩:=dK hd
  simp at hm;have hT:=ht T (bQ g1);have ih:=ZZ k mg a ha v ts hl ht Bu x (i+1) m ts g2 (by omega)
  have inner:=Z0 (U2 (EK k m) m) (i:Int) (ts.length:Int) (i:Int) mg a ha v ts i T.aL T.ag T.ar hT (by
   by_cases h:i=a
   ·exact .inl (by omega)
   ·exact .inr (Bu i T g3 h g1)) T.ar 0 m ts (ad3 T.aM [] T.aH [] []) rfl (by omega)
  have hs:setAt ts i T=V ts:=by rw[dD _ g3,kz g1]
  simp only[EK,U1,hq,aO,aw,fI g3,ak,cg,g1];refine inner.trans ?_;show (setAt ts i T).bind _=_;rw[hs,ak];simp only[U2,bT g3 (by omega:ts.length<4294967296)]
  exact ih
 |_,_,0,_,_,hm=>by simp at hm
def ZY (k:Int->Int->aJ->bw->Z (Bool×aJ)) (t74 t75:Int) (mg:aE) (a:Nat) (ha:mg.av=(a:Int)) (ha8:a<=1000) (v:Int) (cs:cY) (ch:br) (cur:bw) (j:Nat) (rs:bL) (hl:rs.length<=1000) (hr:∀r∈rs,mU r.av):∀(x:bL) (i m:Nat) (tt:bw) (b8 rr:ai),rs.drop i=x->x.length<m->
  EJ k m t74 t75 (rs.length:Int) (i:Int) (ad4 (ad2 v tt) mg) b8 cs ch cur rr j (fM (jC a) rs i)=((setAt cur j (ad3 rr.aM cs rr.aH (rs.map (jC a)) ch)).bind λz2=>k t74 t75 (ad4 (ad2 v z2) mg) z2)
 | [],i,m+1,tt,b8,rr,hd,hm=>by
  let ⟨hi,hq⟩:=eA hd
  simp only[EJ,Nq,hq,aR,ax,au,tC _ _ hi]
 |r::x,i,m+1,tt,b8,rr,hd,hm=>by
  let ⟨g1,g2,g3,hq⟩:=dK hd
  have lA:=hr r (bQ g1);have ih:=ZY k t74 t75 mg a ha ha8 v cs ch cur j rs hl hr x (i+1) m cur (ad3 b8.aM cs b8.aH (fM (jC a) rs (i+1)) ch) (ad3 rr.aM [] rr.aH [] []) g2 (by simp at hm;omega)
  have hml:i<(fM (jC a) rs i).length:=by rw[lC];exact g3
  have hs:setAt (fM (jC a) rs i) i r=V (fM (jC a) rs i):=by rw[dD _ hml,kz (mP _ g1)]
  have hs2:(fM (jC a) rs i).set i r=fM (jC a) rs i:=kz (mP _ g1);have e:=tz (jC a) g1;by_cases h:(a:Int)<r.av
  ·have hd:jC (a:Int) r=bl.mk r.ag (r.av-1):=by
    unfold jC fS;rw[aG (by omega),aG h]
   rw[hd] at e;simp only[EJ,Nq,hq,aO,aw,fI hml,ak,cg,mP _ g1,ha,h,hs,hs2,cU (x:=r.av-1) (by have:=lA.1;omega) (by have:=lA.2;omega),dD _ hml,e,bT g3 (by omega)]
   exact ih
  ·have hd:jC (a:Int) r=r:=by
    unfold jC fS;rw[aG (by omega),aC h]
   rw[hd] at e;have e2:fM (jC a) rs i=fM (jC a) rs (i+1):=by rw[<-e,kz (mP _ g1)]
   simp only[EJ,Nq,hq,aO,aw,fI hml,ak,cg,mP _ g1,ha,h,aR,ax,au,hs,bT g3 (by omega)]
   rw[e2];exact ih
 |_,_,0,_,_,_,_,hm=>by simp at hm
def ZX (k:aJ->bw->Z (Bool×aJ)) (mg:aE) (a:Nat) (ha:mg.av=(a:Int)) (ha8:a<=1000) (v:Int) (ts:bw) (hl:ts.length<=1000) (ht:∀T∈ts,T.ar.length<=1000/\∀r∈T.ar,mU r.av):∀(x:bw) (i m:Nat) (tt:bw),ts.drop i=x->x.length+1000<m->
  EI k m (ts.length:Int) (i:Int) (ad4 (ad2 v tt) mg) (fM (mY a) ts i)=k (ad4 (ad2 v (ts.map (mY a))) mg) (ts.map (mY a))
 | [],i,m+1,tt,hd,hm=>by
  let ⟨hi,hq⟩:=eA hd
  simp only[EI,UZ,hq,aR,ax,au,tC _ _ hi]
 |T::x,i,m+1,tt,hd,hm=>by
  let ⟨g1,g2,g3,hq⟩:=dK hd
  simp at hm;have hT:=ht T (bQ g1);have ih:=ZX k mg a ha ha8 v ts hl ht x (i+1) m (fM (mY a) ts (i+1)) g2 (by omega)
  have hml:i<(fM (mY a) ts i).length:=by rw[lC];exact g3
  have inner:=ZY (U0 (EI k m) m) (ts.length:Int) (i:Int) mg a ha ha8 v T.ag T.aL (fM (mY a) ts i) i T.ar hT.1 hT.2 T.ar 0 m (fM (mY a) ts i) T (ad3 T.aM [] T.aH [] []) rfl (by omega)
  rw[yH] at inner;have e:(fM (mY a) ts i).set i (ad3 T.aM T.ag T.aH (T.ar.map (jC a)) T.aL)=fM (mY a) ts (i+1):=tz (mY a) g1;simp only[EI,UZ,hq,aO,aw,fI hml,ak,cg,mP _ g1];refine inner.trans ?_;show (setAt _ i (ad3 T.aM T.ag T.aH (T.ar.map (jC a)) T.aL)).bind _=_;rw[dD _ hml,e,ak];simp only[U0,bT g3 (by omega:ts.length<4294967296)]
  exact ih
 |_,_,0,_,_,hm=>by simp at hm
def aIJ {n:Nat} {s:ae} {m:aE} {j:Nat} (hs:SG s) (hj:m.av=(j:Int)) (gn:j<s.ah.length) (v:Int) (hr:∀i g6,i≠j->s.ah[i]? =V g6->∀r∈g6.ar,r.av≠(j:Int)) (hn:100000<n):
  ais n (ad4 (ad2 v s.ah) m)=V (M,ad4 (ad2 v ((s.ah.take j++s.ah.drop (j+1)).map (mY (j:Int)))) m):=by
 have h8:=hs.len;have Bu:Bm j s.ah s.ah.length:=λq g6 _ cQ hU=>by
  unfold ua;rw[jJ];intro r lA;have:=hr q g6 cQ hU r lA;simpa using this
 have rB:=An gn;unfold ais ajC;have e1:=ZZ (UY n) m j hj v s.ah (by omega) (λT hT=>by have:=(hs.bY T hT).refs;omega) Bu s.ah 0 n s.ah rfl (by omega)
 refine G0 e1 ?_;unfold UY;have w:aW ((j:Int)+1)=((j+1:Nat):Int):=bT gn (by omega)
 simp only[hj,w];rw[show aCr n s.ah (j:Int) ((j+1:Nat):Int)=V (s.ah.take j++s.ah.drop (j+1),s.ah.take j++s.ah.drop (j+1)) from Rb gn,ak];have Mh:∀T∈s.ah.take j++s.ah.drop (j+1),T∈s.ah:=λT hT=>by
  rcases eV.1 hT with h|h
  ·exact oG h
  ·exact nG h
 have e2:=ZX (ajD n) m j hj (by omega) v (s.ah.take j++s.ah.drop (j+1)) (by omega) (λT hT=>⟨by have:=(hs.bY T (Mh T hT)).refs;omega,λr lA=>by let ⟨_,_,r1,r2⟩:=(hs.bY T (Mh T hT)).ref r lA;exact ⟨by omega,by omega⟩⟩) (s.ah.take j++s.ah.drop (j+1)) 0 n (s.ah.take j++s.ah.drop (j+1)) rfl (by omega)
 rw[yH] at e2;exact e2
end
def w01:aW (0+1)=1:=cU (by omega) (by omega)
def w10:aW (1-1)=0:=cU (by omega) (by omega)
def w11:aW (1+1)=2:=cU (by omega) (by omega)
def w20:aW (2-0)=2:=cU (by omega) (by omega)
def w1_0:aW (1-0)=1:=cU (by omega) (by omega)
def are (x y:J):dX [x,y].length 0=V 0:=rfl
def aBT (x y:J):dX [x,y].length 1=V 1:=rfl
def bl10 (x:J):dX [x].length 0=V 0:=rfl
def aCl (hn:10<A) (x:bt):Rr A [x] 0 1=V [x]:=by
 obtain ⟨m,rfl⟩:∃q,A=q+3:=⟨A-3,by omega⟩
 simp only[Rr,Uk,w01,uh,IS,show ¬((1:Int)<1) by omega,aR,ax,au]
def aCk (hn:100<A) (x y:bt) (hx:x.length<=10) (hy:y.length<=10):Rr A [x,y] 0 2=V (if dW y x<0 then [y,x] else [x,y]):=by
 obtain ⟨m,rfl⟩:∃q,A=q+4:=⟨A-4,by omega⟩
 have tail:∀l:bK,zh (uh (m+3)) (m+3) 0 2 1 l=V l:=λl=>by
  simp only[zh,w11,uh,IS,show ¬((2:Int)<2) by omega,aR,ax,au]
 have e:Rr (m+4) [x,y] 0 2=H7 (zh (uh (m+3)) (m+3)) (m+3) 0 2 1 1 [x,y]:=by
  simp only[Rr,Uk,w01];show IS (uh (m+3)) (m+3) 0 2 1 [x,y]=_;simp only[IS,show ((1:Int)<2) by omega,aO,aw]
 rw[e];show IT (zh (uh (m+3)) (m+3)) (H7 (zh (uh (m+3)) (m+3)) (m+2)) (m+2) 0 2 1 1 [x,y]=_;simp only[IT,show ((0:Int)<1) by omega,aO,aw,aBT,w10,are,ak,cg,vU,tR,M4 (m+2) y x (by omega) (by omega)]
 by_cases h:dW y x<0
 ·have s1:setAt [x,y] 1 x=V [x,x]:=rfl;have s2:setAt [x,x] 0 y=V [y,x]:=rfl;simp only[h,aO,aw,s1,ak,vU,s2];show IT (zh (uh (m+3)) (m+3)) (H7 (zh (uh (m+3)) (m+3)) (m+1)) (m+1) 0 2 1 0 [y,x]=_;simp only[IT,show ¬((0:Int)<0) by omega,aR,ax,au]
  exact tail _
 ·simp only[h,aR,ax,au];exact tail _
def aOP:YW A (Y' .u64 (((1:Nat)):Int))=V 1:=by kernel_rfl
def aOO:YW A (Y' .u64 (((2:Nat)):Int))=V 2:=by kernel_rfl
def Bh:gU A A=V ():=by unfold gU;rw[aG rfl]
def aCq (hn:100<A) (x:bt) (hx:x.length<=10):Rt A [x]=V [x]:=by
 obtain ⟨m,rfl⟩:∃q,A=q+4:=⟨A-4,by omega⟩
 have aBc:YU (m+4) [x]=V [x]:=by
  unfold YU Us;show (app [] [x]).bind _=_;rw[dx _ _ (by simp)];rfl
 have aBa:YS (m+4) [x] 0 1 1=V [x]:=by
  show IU (MZ (m+3)) (m+3) 0 1 1 M M [x]=_;simp only[IU,w1_0,show ¬((12:Int)<1) by omega,aR,gq,aw,aCl (m+3) (by omega),ak,Bh]
 have aBb:YT (m+4) [x]=V [x]:=by
  unfold YT Ur;show (YW (m+4) (Y' .u64 (((1:Nat)):Int))).bind _=_;rw[aOP,ak];show (YS (m+4) [x] 0 1 1).bind _=_;rw[aBa,ak,Bh];rfl
 unfold Rt Uw;rw[aBc,ak,aBb,ak,Bh,ak];show uj (qt (m+4)) (zc (qt (m+4)) (m+3)) (m+3) 1 0 [x] []=_;simp only[uj,show ((0:Int)<1) by omega,aO,aw,bl10,ak,cg,vU,iz,dx [] x (by simp;omega),jy,dx [] [x] (by simp),w01]
 show uj (qt (m+4)) (zc (qt (m+4)) (m+2)) (m+2) 1 1 [x] [x]=_;simp only[uj,show ¬((1:Int)<1) by omega,aR,ax,au,qt]
def aie (hn:200<A) (x y:bt) (hx:x.length<=10) (hy:y.length<=10) (cQ:dW x y≠0) (hne2:dW y x≠0):Rt A [x,y]=V (if dW y x<0 then [y,x] else [x,y]):=by
 obtain ⟨m,rfl⟩:∃q,A=q+4:=⟨A-4,by omega⟩
 have aBc:YU (m+4) [x,y]=V [x,y]:=by
  unfold YU Us;show (app [] [x,y]).bind _=_;rw[dx _ _ (by simp)];rfl
 have aBa:YS (m+4) [x,y] 0 2 2=V (if dW y x<0 then [y,x] else [x,y]):=by
  show IU (MZ (m+3)) (m+3) 0 2 2 M M [x,y]=_;simp only[IU,w20,show ¬((12:Int)<2) by omega,aR,gq,aw,aCk (m+3) (by omega) x y hx hy,ak]
  split<;>rfl
 have aBb:YT (m+4) [x,y]=V (if dW y x<0 then [y,x] else [x,y]):=by
  unfold YT Ur;show (YW (m+4) (Y' .u64 (((2:Nat)):Int))).bind _=_;rw[aOO,ak];show (YS (m+4) [x,y] 0 2 2).bind _=_;rw[aBa,ak];split<;>rfl
 have fin:∀p q:bt,p.length<=10->q.length<=10->dW p q≠0->zc (qt (m+4)) (m+4) 2 0 [p,q] []=V [p,q]:=λp q hp hq h=>by
  show uj (qt (m+4)) (zc (qt (m+4)) (m+3)) (m+3) 2 0 [p,q] []=_;simp only[uj,show ((0:Int)<2) by omega,aO,aw,are,ak,cg,vU,iz,dx [] p (by simp;omega),jy,dx [] [p] (by simp),w01]
  show uj (qt (m+4)) (zc (qt (m+4)) (m+2)) (m+2) 2 1 [p,q] [p]=_;have hn:(dW p q !=0)=M:=by simpa using h
  simp only[uj,show ((1:Int)<2) by omega,aO,aw,aBT,ak,cg,vU,tR,show ((1:Int)==0)=I from rfl,ax,au,w10,are,M4 (m+2) p q (by omega) (by omega),hn,dx [] q (by simp;omega),jy,dx [p] [q] (by simp),wa,w11]
  show uj (qt (m+4)) (zc (qt (m+4)) (m+1)) (m+1) 2 2 [p,q] [p,q]=_;simp only[uj,show ¬((2:Int)<2) by omega,aR,ax,au,qt]
 unfold Rt Uw;rw[aBc,ak,aBb,ak];split
 ·rw[show gU [y,x].length [x,y].length=V () from Bh 2,ak];exact fin y x hy hx hne2
 ·rw[show gU [x,y].length [x,y].length=V () from Bh 2,ak];exact fin x y hx hy cQ
def C5 {a b:aS}:xQ a b=M↔a=b:=by
 obtain ⟨k,i,t⟩:=a;obtain ⟨k',i',t'⟩:=b;simp[xQ]
def QC:dW [O] [f8]=lY O f8:=by
 unfold dW;by_cases h:lY O f8=0
 ·rw[aG h,h];rfl
 ·rw[aC h]
def gF (l:gf):Prop:=(∃a,l= [⟨a,a⟩])\/∃a b,xQ a b=I/\l= [⟨a,b⟩,⟨b,a⟩]
def ZW (k:aJ->bK->bK->Z Bool) (g:aJ) (T:ai) (c:Nat) (x:cA) (hx:T.ag[c]? =V x) (l:gf) (hl:l.length<=16) (hp:∀p∈l,jt p.f0=M/\p.f0.aD=x.aD):∀(y:gf) (i m:Nat) (yr yq:bK),l.drop i=y->y.length<m->yr.length+y.length<=100->yq.length+y.length<=100->
  Ip k m g T (c:Int) l (l.length:Int) (i:Int) yr yq=k g (yr++y.map λp=> [p.f0]) (yq++y.map λp=> [p.f1])
 | [],i,m+1,yr,yq,hd,hm,_,_=>by
  obtain ⟨hi,hq⟩:=eA hd
  simp[Ip,UX,hq]
 |p::y,i,m+1,yr,yq,hd,hm,h1,h2=>by
  obtain ⟨g1,g2,g3,hq⟩:=dK hd
  simp at hm h1 h2;obtain ⟨p1,p2⟩:=hp p (bQ g1);have ih:=ZW k g T c x hx l hl hp y (i+1) m (yr++ [[p.f0]]) (yq++ [[p.f1]]) g2 (by omega) (by simp;omega) (by simp;omega)
  simp only[Ip,UX,hq,aO,aw,bB,g1,ak,hx,YX,p1,p2,iz,pT,dd,ax,au,dx yr [[p.f0]] (by simp;omega),dx yq [[p.f1]] (by simp;omega),bT g3 (by omega),ih]
  simp
 |_,_,0,_,_,_,hm,_,_=>by simp at hm
def Jt {k:Int} (h:wT k l=M):∀p∈l,jt p.f0=M/\p.f0.aD=k:=λp hp=>by
 unfold wT at h;simp only[bG,jJ] at h;have:=h.2.2 p hp;exact ⟨this.1,by simpa using this.2.1⟩
def asb (hn:10<A) (a:aS):xg (pB A) A 1 0 [[a]] [[a]]=V M:=by
 obtain ⟨m,rfl⟩:∃q,A=q+3:=⟨A-3,by omega⟩
 show uk (pB (m+3)) (xg (pB (m+3)) (m+2)) (m+2) 1 0 [[a]] [[a]]=_;have e:(a.aD==a.aD&&(a.dh==a.dh&&(iL (a.cG=a.cG)&&M)))=M:=C5.2 rfl;simp only[uk,show ((0:Int)<1) by omega,aO,aw,bl10,ak,cg,vU,show idx [a] 0=V a from rfl,iz,pT,dd,ax,au,w01]
 show uk (pB (m+3)) (xg (pB (m+3)) (m+1)) (m+1) 1 1 [[a]] [[a]]=_;simp only[uk,show ¬((1:Int)<1) by omega,aR,ax,au,pB]
def TM (hn:10<A) (a b:aS):xg (pB A) A 2 0 [[a],[b]] [[a],[b]]=V M:=by
 obtain ⟨m,rfl⟩:∃q,A=q+3:=⟨A-3,by omega⟩
 have e:∀a:aS,(a.aD==a.aD&&(a.dh==a.dh&&(iL (a.cG=a.cG)&&M)))=M:=λa=>C5.2 rfl
 show uk (pB (m+3)) (xg (pB (m+3)) (m+2)) (m+2) 2 0 [[a],[b]] [[a],[b]]=_;simp only[uk,show ((0:Int)<2) by omega,aO,aw,are,ak,cg,vU,show idx [a] 0=V a from rfl,iz,pT,dd,ax,au,w01]
 show uk (pB (m+3)) (xg (pB (m+3)) (m+1)) (m+1) 2 1 [[a],[b]] [[a],[b]]=_;simp only[uk,show ((1:Int)<2) by omega,aO,aw,aBT,ak,cg,vU,tR,show idx [b] 0=V b from rfl,iz,pT,dd,ax,au,w11]
 show uk (pB (m+3)) (xg (pB (m+3)) m) m 2 2 [[a],[b]] [[a],[b]]=_;simp only[uk,show ¬((2:Int)<2) by omega,aR,ax,au,pB]
def aza (hn:1000<A) (g:aJ) (h:gF g.fm.ck):Np A g (g.fm.ck.map λp=> [p.f0]) (g.fm.ck.map λp=> [p.f1])=V M:=by
 unfold Np;rcases h with ⟨a,h⟩|⟨a,b,cQ,h⟩
 ·rw[h];simp only[jX,wM,aCq A (by omega) [a] (by simp),ak]
  exact asb A (by omega) a
 ·rw[h];have hab:a≠b:=λe=>by rw[C5.2 e] at cQ;cases cQ
  have n1:dW [a] [b]≠0:=by rw[QC];exact λe=>hab (Hg e)
  have n2:dW [b] [a]≠0:=by rw[QC];exact λe=>hab (Hg e).symm
  simp only[jX,wM,aie A (by omega) [a] [b] (by simp) (by simp) n1 n2,aie A (by omega) [b] [a] (by simp) (by simp) n2 n1,ak]
  have hneg:=acQ a b;simp only[QC] at n1 n2 ⊢;by_cases dq:lY b a<0
  ·rw[aG dq,aC (show ¬lY a b<0 by omega)]
   simp only[iu,C3,ia,ax,au];exact TM A (by omega) b a
  ·rw[aC dq,aG (show lY a b<0 by omega)]
   simp only[iu,C3,ia,ax,au];exact TM A (by omega) a b
def aII {n:Nat} {s:ae} {m:aE} {j:Nat} {T:ai} (hs:SG s) (hj:m.av=(j:Int)) (hT:s.ah[j]? =V T) (v:Int) (c:Nat) (x:cA) (hc:m.aY=(c:Int)) (hx:T.ag[c]? =V x) (hk:T.aH<=(c:Int)) (hp:wT x.aD m.ck=M) (hu:Cv (c:Int) T=I) (hM:gF m.ck) (hn:100000<n):
  air n (ad4 (ad2 v s.ah) m)=V M:=by
 have gn:=(bO.1 hT).1;have eY:=(bO.1 hx).1;have hG:=hs.bY T (bQ hT);have Mr:=PA n v s.ah m j T hj hT m.aY;rw[hc,tT hk,tT (show (c:Int)<(T.ag.length:Int) by omega)] at Mr
 have agx:=anT n v s.ah m j T hj hT (by omega) hG.cp (by omega)
 rw[hc,hu] at agx;have hl:1<=m.ck.length/\m.ck.length<=16:=by
  unfold wT at hp;simp only[bG,jA] at hp;exact ⟨hp.1,hp.2.1⟩
 unfold air ajB;rw[Rw n v s.ah m j T hj hT,ak];have q1:¬((m.ck.length:Int)<1):=by omega
 have q2:¬((16:Int)<(m.ck.length:Int)):=by omega
 simp only[hc,Mr,ak,pT,dd,ax,au,agx,q1,q2,aR];have e:=ZW (Np n) (ad4 (ad2 v s.ah) m) T c x hx m.ck hl.2 (Jt hp) m.ck 0 n [] [] rfl (by omega) (by simp;omega) (by simp;omega)
 refine G0 e ?_;simp only[jy];exact aza n (by omega) (ad4 (ad2 v s.ah) m) hM
def aOK {n:Nat} {s t:ae} {m:aE} (hs:SG s) (hm:MB m) (hb:qp m=M) (h:kS s m t) (hM:m.bf=8->gF m.ck) (hn:100000<n):F42 n s m=V (t,M):=by
 have hv0:=hs.v0;have D6:=hs.v1;have h8:=hs.len;have h41:F41 n s=V s:=ayO n s (by omega) (λT hT=>(hs.bY T hT).cp) (by omega)
 have w:aW (s.ay+1)=s.ay+1:=cU (by omega) (by omega)
 have h18:1<=m.bf/\m.bf<=8:=by
  unfold qp at hb;simp only[bG,jA] at hb;exact ⟨hb.1,hb.2.1⟩
 have h97:F97 n=V [148,149,150,151,152,153,154,155]:=rfl;have wop:aW (m.bf-1)=m.bf-1:=cU (by omega) (by omega)
 have front:(m.bf=6\/∃j:Nat,m.av=(j:Int)/\j<s.ah.length)->F42 n s m=xp n (m.bf-1) s m (ad2 0 []) [148,149,150,151,152,153,154,155]:=λht=>by
  unfold F42 ats;rw[h97,ak];have q1:¬(m.bf<1):=by omega
  have q2:(m.bf-1)<(([148,149,150,151,152,153,154,155]:List Nat).length:Int):=by simp;omega
  simp only[q1,aR,ax,au,wop,q2,aO,dd,aOy n m hb,ak];rcases ht with h6|⟨j,hj,gn⟩
  ·simp[h6]
  ·by_cases h6:m.bf=6
   ·simp[h6]
   ·have q3:(m.bf !=6)=M:=by simpa using h6
    have q4:¬(m.av<0):=by omega
    have q5:m.av<(s.ah.length:Int):=by omega
    simp only[q3,aw,q4,aR,ax,au,q5,aO,dd]
 have oW:∀(o:Nat) (t:ae),m.bf-1=(o:Int)->o<8->True->True:=λ_ _ _ _ _=>trivial
 cases h with
 |arx j T gu hj hT hv hk=>
  have gn:=(bO.1 hT).1;rw[front (.inr ⟨j,hj,gn⟩)];unfold xp;rw[h41,ak,gu];show (aiy n (ad4 (ad2 (aW (s.ay+1)) s.ah) m)).bind _=_;rw[w,aIP hs hj hT (s.ay+1) hv hk];rfl
 |aaU j c T x gu hj hT hc hx hk hv yj hu=>
  have gn:=(bO.1 hT).1;rw[front (.inr ⟨j,hj,gn⟩)];unfold xp;rw[h41,ak,gu];show (aix n (ad4 (ad2 (aW (s.ay+1)) s.ah) m)).bind _=_;rw[w,aIO hs hj hT (s.ay+1) gu c x hc hx hk hv yj hu (by omega)]
  rfl
 |move j c d T gu hj hT hc hd h1 h2 hk yk=>
  have gn:=(bO.1 hT).1;rw[front (.inr ⟨j,hj,gn⟩)];unfold xp;rw[h41,ak,gu];show (aiw n (ad4 (ad2 (aW (s.ay+1)) s.ah) m)).bind _=_;rw[w,aIN hs hj hT (s.ay+1) gu c d hc hd h1 h2 hk yk (by omega)]
  rfl
 |apc j c T x gu hj hT hc hx=>
  have gn:=(bO.1 hT).1;rw[front (.inr ⟨j,hj,gn⟩)];unfold xp;rw[h41,ak,gu];show (aiv n (ad4 (ad2 (aW (s.ay+1)) s.ah) m)).bind _=_;rw[w,aIM hs hj hT (s.ay+1) c x hc hx];rfl
 |apb j T gu hj hT=>
  have gn:=(bO.1 hT).1;rw[front (.inr ⟨j,hj,gn⟩)];unfold xp;rw[h41,ak,gu];show (aiu n (ad4 (ad2 (aW (s.ay+1)) s.ah) m)).bind _=_;rw[w,aIL hj hT (s.ay+1)];rfl
 |arw gu=>
  rw[front (.inl gu)];unfold xp;rw[h41,ak,gu];show (ait n (ad4 (ad2 (aW (s.ay+1)) s.ah) m)).bind _=_;rw[w,aIK hs hm (s.ay+1) (by omega)]
  rfl
 |aaT j T gu hj hT hr=>
  have gn:=(bO.1 hT).1;rw[front (.inr ⟨j,hj,gn⟩)];unfold xp;rw[h41,ak,gu];show (ais n (ad4 (ad2 (aW (s.ay+1)) s.ah) m)).bind _=_;rw[w,aIJ hs hj gn (s.ay+1) hr (by omega)]
  rfl
 |DK j c T x gu hj hT hc hx hk hp hu=>
  have gn:=(bO.1 hT).1;rw[front (.inr ⟨j,hj,gn⟩)];unfold xp;rw[h41,ak,gu];show (air n (ad4 (ad2 (aW (s.ay+1)) s.ah) m)).bind _=_;rw[w,aII hs hj hT (s.ay+1) c x hc hx hk hp hu (hM gu) (by omega)]
  rfl
def dA:ae->bX->fU->Prop
 |_,[],[]=>True
 |s,m::ms,t::ts=>qp m=M/\kS s m t/\fL t=0/\dA t ms ts
 |_,_,_=>False
def dA.len:∀{s:ae} {ms:bX} {ts:fU},dA s ms ts->ts.length=ms.length
 |_,[],[],_=>rfl
 |_,_::_,_::_,h=>by simp[dA.len h.2.2.2]
 |_,[],_::_,h=>by cases h
 |_,_::_,[],h=>by cases h
def dA.kj:∀{s:ae} {ms:bX} {ts:fU},dA s ms ts->∀t∈ts,fL t=0
 |_,[],[],_,t,ht=>by cases ht
 |_,_::_,_::_,h,t,ht=>by
  rcases da.1 ht with rfl|ht
  ·exact h.2.2.1
  ·exact dA.kj h.2.2.2 t ht
 |_,[],_::_,h,_,_=>by cases h
 |_,_::_,[],h,_,_=>by cases h
def kS.ver {s t:ae} {m:aE} (h:kS s m t):t.ay=s.ay+1:=by cases h<;>rfl
def GC {l:List J} {x:J} (h:l.getLast? =V x):l≠ []/\l[l.length-1]? =V x:=by
 cases l with
 |nil=>cases h
 |cons a l=>exact ⟨by simp,by rw[<-akV];exact h⟩
def ahI (n0:Nat) (ms:bX) (hl:ms.length<=8) (hm:∀m∈ms,MB m):∀(x:bX) (i k:Nat) (b:fU) (cur:ae),ms.drop i=x->x.length+1700000<k->k<4294967296->b.length<=100+i->i<=8->b.getLast? =V cur->fL cur=0->
  Ok (CT (PM n0) k (ms.length:Int) (i:Int) ms b) λr=>r.2=0->∃ts,r.1=b++ts/\dA cur x ts
 | [],i,k+1,b,cur,hd,hk,jO,hb,hi8,hc,hs=>by
  obtain ⟨hi,hq⟩:=eA hd
  simp only[CT,PN,hq,aR,ax,au,PM];exact Ok.pure λ_=>⟨[],by simp,trivial⟩
 |mg::x,i,k+1,b,cur,hd,hk,jO,hb,hi8,hc,hs=>by
  obtain ⟨g1,g2,g3,hq⟩:=dK hd
  simp at hk;obtain ⟨cQ,rz⟩:=GC hc;have wB:0<b.length:=G6.2 cQ;have w:aW ((b.length:Int)-1)=((b.length-1:Nat):Int):=by rw[cU (by omega) (by omega)];omega
  simp only[CT,PN,hq,aO,aw,fI g3,ak,cg,g1,w,fI (show b.length-1<b.length by omega),rz]
  refine Ok.bind (aOz k (by omega) (by omega) cur (.of hs) mg (hm mg (bQ g1))) λr hr=> ?_
  refine Ok.ite (λ_=>Ok.pure λh=>by cases h) λh2=> ?_
  have h2:r.2=M:=by simpa using h2
  obtain ⟨q1,q2,q3⟩:=hr h2;rw[dx b [r.1] (by simp;omega),ak,bT g3 (by omega)]
  refine (ahI n0 ms hl hm x (i+1) k (b++ [r.1]) r.1 g2 (by omega) (by omega) (by simp;omega) (by omega) (by simp) q3).mono λr' lA h=> ?_
  obtain ⟨ts,e1,e2⟩:=lA h;exact ⟨r.1::ts,by rw[e1];simp,q1,q2,q3,e2⟩
 |_,_,0,_,_,_,hk,_,_,_,_,_=>by simp at hk
def ayP (hn:1800000<A) (fw:A<4294967296) (s:ae) (hs:fL s=0) (ms:bX) (hm:∀m∈ms,MB m) (hl:ms.length<=100000):Ok (F40 A s ms) λr=>r.2=0->ms.length<=8/\s.ay+(ms.length:Int)<=1000/\∃ts,r.1=s::ts/\dA s ms ts:=by
 have hG:=SG.of hs;have hv0:=hG.v0;have D6:=hG.v1;unfold F40 acb;rw[IK A s (λT hT=>(hG.bY T hT).xX) (by omega) fw,ak,hs]
 refine Ok.ite (λh=>by cases h) λ_=>Ok.ite (λ_=>Ok.pure λh=>by cases h) λh8=>Ok.ite (λ_=>Ok.pure λh=>by cases h) λhv=> ?_
 have h8:=NK h8;have hv:=NK hv;rw[cU (by omega) (by omega)] at hv
 have h:=ahI A ms (by omega) hm ms 0 A [s] s rfl (by omega) fw (by simp) (by omega) rfl hs
 exact Ok.mono h λr hr h0=>⟨by omega,by omega,hr h0⟩
def ahS (n0:Nat) (ms:bX) (hl:ms.length<=8) (hm:∀m∈ms,MB m/\(m.bf=8->gF m.ck)):∀(x:bX) (i k:Nat) (b ts:fU) (cur:ae),ms.drop i=x->x.length+1700000<k->k<4294967296->b.length<=100+i->i<=8->b.getLast? =V cur->fL cur=0->dA cur x ts->
  Px (acD n0) k ms (ms.length:Int) (i:Int) b=V (b++ts,0)
 | [],i,k+1,b,[],cur,hd,hk,jO,hb,hi8,hc,hs,qE=>by
  obtain ⟨hi,hq⟩:=eA hd
  simp only[Px,acE,hq,aR,ax,au,acD,r4]
 |mg::x,i,k+1,b,t::ts,cur,hd,hk,jO,hb,hi8,hc,hs,qE=>by
  obtain ⟨g1,g2,g3,hq⟩:=dK hd
  simp at hk;obtain ⟨cQ,rz⟩:=GC hc;have wB:0<b.length:=G6.2 cQ;have w:aW ((b.length:Int)-1)=((b.length-1:Nat):Int):=by rw[cU (by omega) (by omega)];omega
  obtain ⟨c1,c2,c3,c4⟩:=qE;obtain ⟨m1,m2⟩:=hm mg (bQ g1);have h42:=aOK (n:=k) (SG.of hs) m1 c1 c2 m2 (by omega)
  have Fv:=TT k t (λT hT=>((SG.of c3).bY T hT).xX) (by omega) (by omega)
  rw[c3] at Fv;simp only[Px,acE,hq,aO,aw,bB,fI (show b.length-1<b.length by omega),ak,cg,g1,w,rz,h42,dd,ax,au,Fv,ia,dx b [t] (by simp;omega),bT g3 (by omega)]
  rw[ahS n0 ms hl hm x (i+1) k (b++ [t]) ts t g2 (by omega) (by omega) (by simp;omega) (by omega) (by simp) c3 c4]
  simp
 |_,_,0,_,_,_,_,hk,_,_,_,_,_,_=>by simp at hk
 | [],_,_+1,_,_::_,_,_,_,_,_,_,_,_,h=>by cases h
 |_::_,_,_+1,_,[],_,_,_,_,_,_,_,_,h=>by cases h
def aOS (hn:1800000<A) (fw:A<4294967296) (s:ae) (hs:fL s=0) (ms:bX) (hm:∀m∈ms,MB m/\(m.bf=8->gF m.ck)) (hl:ms.length<=8) (hv:s.ay+(ms.length:Int)<=1000) (ts:fU) (hc:dA s ms ts):F14 A s ms=V (s::ts,0):=by
 have hG:=SG.of hs;have hv0:=hG.v0;have h8:=hG.len;have Fv:=TT A s (λT hT=>(hG.bY T hT).xX) (by omega) (by omega)
 rw[hs] at Fv;unfold F14 atH;have q1:¬((8:Int)<(ms.length:Int)):=by omega
 have w:aW (s.ay+(ms.length:Int))=s.ay+(ms.length:Int):=cU (by omega) (by omega)
 have q2:¬((1000:Int)<s.ay+(ms.length:Int)):=by omega
 simp only[Fv,ak,ia,ax,au,q1,aR,w,q2,ayO A s (by omega) (λT hT=>(hG.bY T hT).cp) (by omega)]
 exact ahS A ms hl hm ms 0 A [s] ts s rfl (by omega) fw (by simp) (by omega) rfl hs hc
def aCu (h:qp D=M):Y2 A D=V M:=by
 have key:∀q:aE,Ez q=M->rI A q=V M:=λq hq=>by
  unfold Ez at hq;simp only[bG,sq,jA] at hq;obtain ⟨a1,a2,a3,a4,a5,a6,a7,a8,a9,FV,a11,a12⟩:=hq;have a1':((q.bj.aD==0)&&((q.bj.dh==0)&&((iL (q.bj.cG=A'))&&M)))=M:=a1;unfold rI;simp only[a1',a2,a3,a4,a5,a6,a7,a8,a9,FV,a11,a12];rfl
 unfold qp at h;simp only[bG,jA] at h;obtain ⟨h1,h8,hb⟩:=h;have hb:=key _ hb;unfold Y2 Vp;unfold RU at hb;rcases (by omega:D.bf=1\/D.bf=2\/D.bf=3\/D.bf=4\/D.bf=5\/D.bf=6\/D.bf=7\/D.bf=8) with e|e|e|e|e|e|e|e<;>(simp[e,zv,zT] at hb;simp[e,hb])
def aOA (hn:1700000<A) (fw:A<4294967296) (s:ae) (hs:SG s) (m:aE) (hm:MB m) {t:ae} (hb:qp m=M) (h:kS s m t) (ht:fL t=0):F95 A s m=V (t,M):=by
 have hl8:=hs.len;have hv0:=hs.v0;have D6:=hs.v1;unfold F95 TY;rw[aCu A m hb,ak,dd,aC G7];refine (Rq (BN A) s.ah (by omega) (λT hT=>(hs.bY T hT).cp) s m s.ah 0 A (ad2 0 []) (ad2 (aW (s.ay+1)) []) rfl (by omega)).trans ?_
 rw[cU (by omega) (by omega)]
 have gS:∀g6∈s.ah,Bd g6:=λg6 hU=>(hs.bY g6 hU).xX
 have done:∀(b4:ae) (vv:ae) (ts:bw),vv.ay=s.ay+1->(∀g6∈ts,Bd g6)->t=⟨s.ay+1,ts⟩->nc A b4 vv ts=V (t,M):=λb4 vv ts h2 h3 h4=>by
  unfold nc;rw[IK A ⟨vv.ay,ts⟩ h3 (by omega) fw,ak,h2,<-h4,ht]
  rfl
 have jf:m.bf≠6->∀(j:Nat) (T:ai),m.av=(j:Int)->s.ah[j]? =V T->(∀b4,wA A j (T.ag.length:Int) (iL (T.aH<=m.aY)&&iL (m.aY<(T.ag.length:Int))) s m b4 ⟨s.ay+1,s.ah⟩ s.ah=V (t,M))->BN A s m (ad2 0 []) (ad2 (s.ay+1) s.ah) s.ah=V (t,M):=λh6 j T hj hT hk=>by
  have gn:=(bO.1 hT).1;have lO:setAt s.ah j T=V s.ah:=by rw[dD _ gn,kz hT]
  have q6:(m.bf==6)=I:=NP h6;have q1:¬((j:Int)<0):=by omega
  have q2:(j:Int)<(s.ah.length:Int):=by omega
  unfold BN;simp only[q6,ax,au,hj,q1,aR,q2,aO,dd,fI gn,ak,cg,hT];by_cases hc:T.aH<=m.aY
  ·have nL:¬m.aY<T.aH:=by omega
   simp only[nL,aR,gq,aw,lO,ak];have:=hk (ad2 0 []);rwa[tT hc,iT] at this
  ·have nL:m.aY<T.aH:=by omega
   simp only[nL,aO,dd,ax,au,lO,ak];have:=hk (ad2 0 []);rwa[Dt hc,gJ] at this
 cases h with
 |arx j T q hj hT hv hk=>
  refine jf (by omega) j T hj hT λb4=> ?_
  have gn:=(bO.1 hT).1;have hG:=hs.bY T (bQ hT);have hc8:=hG.cols;simp only[wA,q,ac1,aw,Dp,ak,hv,dd,ax,au,hk,ia,hT,dx _ _ (show T.ag.length+ [(cA.mk m.aM m.aD)].length<=1000000 by simp;omega),dD _ gn]
  show nc _ _ _ _=_;exact done _ _ _ rfl (ux gS hG.xX) rfl
 |aaU j c T x q hj hT hc hx hk hv yj hu=>
  refine jf (by omega) j T hj hT λb4=> ?_
  have gn:=(bO.1 hT).1;have hG:=hs.bY T (bQ hT);have hc8:=hG.cols;have lO:setAt s.ah j T=V s.ah:=by rw[dD _ gn,kz hT]
  have eY:=(bO.1 hx).1;have w:aW ((c:Int)+1)=((c+1:Nat):Int):=bT eY (by omega)
  have ct:rR T.ag.length (c:Int)=V c:=by unfold rR;rw[aG ⟨by omega,by omega⟩];rfl
  have cl:Er T.ag.length ((c+1:Nat):Int)=V (c+1):=by unfold Er;rw[aG ⟨by omega,by omega⟩];rfl
  have an:Kc T.ag c ((T.ag.drop (c+1)).take (T.ag.length-(c+1)))=V (T.ag.take c++T.ag.drop (c+1)):=by
   unfold Kc;rw[jz (l:=T.ag.drop (c+1)) (by simp),aG ⟨by omega,by omega,by simp;omega⟩]
  have tok:TOK (T.ag.length:Int) ⟨T.aM,T.ag.take c++T.ag.drop (c+1),T.aH,T.ar,T.aL⟩:=⟨by rw[An eY];omega,hG.tok.refs,hG.tok.ref,hG.tok.Ca,hG.tok.kj⟩
  have q1:T.aH<=(c:Int):=hk;have q2:(c:Int)<(T.ag.length:Int):=by omega
  simp only[wA,q,ac1,ax,au,aw,hT,ak,hc,q1,q2,aO,pT,dd,Dp,hv,fI eY,cg,hx,yj,ia,PC A T (c:Int) (by omega) hG.cp (by omega),hu,kz hT,w,ct,cl,an,PB A _ (T.ag.length:Int) (by omega) tok (c:Int) (-1) ⟨by omega,by omega⟩ (by omega),dD _ gn]
  show nc _ _ _ _=_;exact done _ _ _ rfl (ux gS (NX (T:=⟨T.aM,T.ag.take c++T.ag.drop (c+1),T.aH,T.ar,T.aL⟩) hG.xX)) rfl
 |move j c d T q hj hT hc hd h1 h2 hk yk=>
  refine jf (by omega) j T hj hT λb4=> ?_
  have gn:=(bO.1 hT).1;have hG:=hs.bY T (bQ hT);have hc8:=hG.cols;have lO:setAt s.ah j T=V s.ah:=by rw[dD _ gn,kz hT]
  have q1:T.aH<=(c:Int):=hk;have q2:(c:Int)<(T.ag.length:Int):=by omega
  have q3:¬(d:Int)<T.aH:=by omega
  have q4:(d:Int)<(T.ag.length:Int):=by omega
  have agq:tu (T.ag.length:Int) ((cA.mk A' 0):cA)=V (V' T.ag.length (cA.mk A' 0)):=by
   unfold tu;rw[aG ⟨by omega,by omega⟩];rfl
  simp only[wA,q,ac1,ax,au,aw,hT,ak,hc,hd,q1,q2,q3,q4,aO,aR,pT,dd,agq];obtain ⟨BG,e⟩:=Rp (PH (nc A) A) j m c d hc hd T.ag hc8 h1 h2 s.ah T.ag 0 A (ad2 b4.ay []) (ad2 (s.ay+1) s.ah) (V' T.ag.length (cA.mk A' 0)) (ad3 T.aM [] T.aH T.ar T.aL) rfl (by omega) (by simp) (λq hq=>by omega) (by omega)
  refine e.trans ?_;rw[lO,ak];unfold PH;have tok:TOK (T.ag.length:Int) ⟨T.aM,wV T.ag c d,T.aH,T.ar,T.aL⟩:=⟨by rw[Ov h1 h2];omega,hG.tok.refs,hG.tok.ref,hG.tok.Ca,hG.tok.kj⟩
  rw[hT,ak,PB A _ (T.ag.length:Int) (by omega) tok m.aY m.kr hm.FG (by omega),ak,dD _ gn,ak,hc,hd]
  show nc _ _ _ _=_;exact done _ _ _ rfl (ux gS (NX (T:=⟨T.aM,wV T.ag c d,T.aH,T.ar,T.aL⟩) hG.xX)) rfl
 |apc j c T x q hj hT hc hx=>
  refine jf (by omega) j T hj hT λb4=> ?_
  have gn:=(bO.1 hT).1;have hG:=hs.bY T (bQ hT);have eY:=(bO.1 hx).1;have q1:¬(c:Int)<0:=by omega
  have q2:(c:Int)<(T.ag.length:Int):=by omega
  simp only[wA,q,ac1,ax,au,aw,hT,ak,hc,q1,q2,aO,aR,dd,fI eY,cg,hx,dD _ eY,dD _ gn];show nc _ _ _ _=_;exact done _ _ _ rfl (ux gS hG.xX) rfl
 |apb j T q hj hT=>
  refine jf (by omega) j T hj hT λb4=> ?_
  have gn:=(bO.1 hT).1;have hG:=hs.bY T (bQ hT);simp only[wA,q,ac1,ax,au,aw,hT,ak,dD _ gn];show nc _ _ _ _=_;exact done _ _ _ rfl (ux gS hG.xX) rfl
 |arw q=>
  have hz:∀T∈s.ah++ [m.bp],Bd T:=λT hT=>by
   rcases eV.1 hT with h|h
   ·exact (hs.bY T h).xX
   ·rw[gL.1 h];exact λp hp=>by have:=hm.dfn.kj p hp;omega
  unfold BN;rw[aG (by rw[q];rfl),Y1 A m.bp hm.dfn.len hm.dfn.ref (by omega),ak,dx _ _ (by simp;omega),ak,dD _ (by simp),ak,kz (by simp)]
  rw[IK A ⟨s.ay+1,s.ah++ [m.bp]⟩ hz (by omega) fw,ak,ht]
  rfl
 |aaT j T q hj hT hr=>
  refine jf (by omega) j T hj hT λb4=> ?_
  have gn:=(bO.1 hT).1;have aAR:Bm j s.ah 0:=λq g6 h=>by omega
  have Bu:Bm j s.ah s.ah.length:=λi g6 _ hi hU=>by
   unfold ua;rw[jJ];exact λr h=>by simpa using hr i g6 hi hU r h
  obtain ⟨r,e,hP⟩:=Kf (P:=λr=>r=(_,M)) (PF (nc A) A) s m j hj (by omega) s.ah (by omega) (λg6 hU=>⟨by have:=(hs.bY g6 hU).refs;omega,λr hr=>by obtain ⟨_,_,r1,r2⟩:=(hs.bY g6 hU).ref r hr;exact ⟨by omega,by omega⟩⟩) (s.ay+1) (λh=>absurd Bu h) (λBG jP cur g _=>by
   unfold PF;exact ⟨_,done _ _ _ rfl (λg6 hU=>by
    obtain ⟨ex,hV,rfl⟩:=dM.1 hU;have hV':ex∈s.ah:=by
     rcases eV.1 hV with h|h
     ·exact oG h
     ·exact nG h
    exact gS ex hV') rfl,rfl⟩) s.ah 0 A (ad2 b4.ay []) s.ah s.ah rfl (by omega) rfl (λ_ _=>rfl) aAR
  rw[show (qO j (s.ah.take 0)).map (mY (j:Int))= [] by simp[qO]] at e
  rw[hP] at e;simp only[wA,q,ac1,ax,au,aw];exact e
 |DK j c T x q hj hT hc hx hk hp hu=>
  refine jf (by omega) j T hj hT λb4=> ?_
  have gn:=(bO.1 hT).1;have hG:=hs.bY T (bQ hT);have hc8:=hG.cols;have lO:setAt s.ah j T=V s.ah:=by rw[dD _ gn,kz hT]
  have eY:=(bO.1 hx).1;have q1:T.aH<=(c:Int):=hk;have q2:(c:Int)<(T.ag.length:Int):=by omega
  simp only[wA,q,ac1,ax,au,aw,hT,ak,hc,q1,q2,aO,pT,dd,fI eY,cg,hx,aog A m.ck _ (by omega),hp,PC A T (c:Int) (by omega) hG.cp (by omega),hu,lO]
  show nc _ _ _ _=_;exact done _ _ _ rfl gS rfl
def ahJ (n0:Nat) (ms:bX) (hl:ms.length<=8) (hm:∀m∈ms,MB m):∀(x:bX) (i k:Nat) (b ts:fU) (cur:ae),ms.drop i=x->x.length+1700000<k->k<4294967296->b.length<=100+i->i<=8->b.getLast? =V cur->fL cur=0->dA cur x ts->
  CT (PM n0) k (ms.length:Int) (i:Int) ms b=V (b++ts,0)
 | [],i,k+1,b,[],cur,hd,hk,jO,hb,hi8,hc,hs,qE=>by
  obtain ⟨hi,hq⟩:=eA hd
  simp only[CT,PN,hq,aR,ax,au,PM,r4]
 |mg::x,i,k+1,b,t::ts,cur,hd,hk,jO,hb,hi8,hc,hs,qE=>by
  obtain ⟨g1,g2,g3,hq⟩:=dK hd
  simp at hk;obtain ⟨cQ,rz⟩:=GC hc;have wB:0<b.length:=G6.2 cQ;have w:aW ((b.length:Int)-1)=((b.length-1:Nat):Int):=by rw[cU (by omega) (by omega)];omega
  obtain ⟨c1,c2,c3,c4⟩:=qE;have e95:=aOA k (by omega) (by omega) cur (.of hs) mg (hm mg (bQ g1)) c1 c2 c3
  simp only[CT,PN,hq,aO,aw,fI g3,ak,cg,g1,w,fI (show b.length-1<b.length by omega),rz,e95,dd,ax,au,dx b [t] (by simp;omega),bT g3 (by omega)]
  rw[ahJ n0 ms hl hm x (i+1) k (b++ [t]) ts t g2 (by omega) (by omega) (by simp;omega) (by omega) (by simp) c3 c4]
  simp
 |_,_,0,_,_,_,_,hk,_,_,_,_,_,_=>by simp at hk
 | [],_,_+1,_,_::_,_,_,_,_,_,_,_,_,h=>by cases h
 |_::_,_,_+1,_,[],_,_,_,_,_,_,_,_,h=>by cases h
def aOL (hn:1800000<A) (fw:A<4294967296) (s:ae) (hs:fL s=0) (ms:bX) (hm:∀m∈ms,MB m) (hl:ms.length<=8) (hv:s.ay+(ms.length:Int)<=1000) (ts:fU) (hc:dA s ms ts):F40 A s ms=V (s::ts,0):=by
 have hG:=SG.of hs;have hv0:=hG.v0;unfold F40 acb;have q1:¬((8:Int)<(ms.length:Int)):=by omega
 have w:aW (s.ay+(ms.length:Int))=s.ay+(ms.length:Int):=cU (by omega) (by omega)
 have q2:¬((1000:Int)<s.ay+(ms.length:Int)):=by omega
 rw[IK A s (λT hT=>(hG.bY T hT).xX) (by omega) fw,ak,hs]
 simp only[ia,ax,au,q1,aR,w,q2];exact ahJ A ms hl hm ms 0 A [s] ts s rfl (by omega) fw (by simp) (by omega) rfl hs hc
section
def FB:(Utf8.encode B).size<=4:=by
 unfold Utf8.encode;simp only;repeat' split
 all_goals simp[ByteArray.size]
def axV {a b:U} (h:a.size+b.size<=1000000):cat a b=V (a++b):=by unfold cat;rw[aG h]
structure asH (m:aE):Prop where
 mb:MB m
 prs:m.bf=8->gF m.ck\/m.ck= []
def kS.prs {s t:ae} {m:aE} (h:kS s m t) (h8:m.bf=8):m.ck≠ []:=by
 cases h with
 |DK j c T x gu hj hT hc hx hk hp hu=>
  intro e;rw[e] at hp;simp[wT] at hp
 |_=>omega
structure Lst (s:ae) (l:bX):Prop where
 mem:∀m∈l,MB m/\(m.bf=8->gF m.ck)
 chain:∃ts,dA s l ts
def dA.amB:∀{s:ae} {ms:bX} {ts:fU},dA s ms ts->∀m∈ms,m.bf=8->m.ck≠ []
 |_,[],[],_,m,hm,_=>by cases hm
 |_,_::_,_::_,h,m,hm,h8=>by
  rcases da.1 hm with rfl|hm
  ·exact h.2.1.prs h8
  ·exact dA.amB h.2.2.2 m hm h8
 |_,[],_::_,h,_,_,_=>by cases h
 |_,_::_,[],h,_,_,_=>by cases h
def EE (r:bX×aN):Prop:=cV r.2/\Lst ao r.1/\r.1.length<=5
section
variable {s:ae} {n:Nat}
def aiP (hs:fL s=0) (hn:1800000<n) (fw:n<4294967296) (k:Int->aN->ae->bX->Z (bX×aN)) (n8:Int) (c:aN) (hc:cV c) (l:bX) (hl:Lst s l) (hl5:l.length<=100) (m:aE) (hm:asH m) (hk:∀l',Lst s l'->l'.length<=l.length+1->Ok (k n8 c s l') (EE s)):
  Ok (Ue k n n8 c s l m) (EE s):=by
 unfold Ue;rw[dx _ _ (by simp;omega),ak,jy,dx _ _ (by simp;omega),ak]
 refine Ok.bind (ayP n hn fw s hs (l++ [m]) (λx hx=> ?_) (by simp;omega)) λr hr=> ?_
 ·rcases eV.1 hx with h|h
  ·exact (hl.mem x h).1
  ·rw[gL.1 h];exact hm.mb
 refine Ok.ite (λh0=> ?_) λ_=>hk l hl (by omega)
 obtain ⟨_,_,ts,_,qE⟩:=hr (by simpa using h0)
 rw[ak];refine hk (l++ [m]) ⟨λx hx=> ?_,ts,qE⟩ (by simp)
 rcases eV.1 hx with h|h
 ·exact hl.mem x h
 ·rw[gL.1 h];refine ⟨hm.mb,λh8=> ?_⟩
  rcases hm.prs h8 with h|h
  ·exact h
  ·exact absurd h (qE.amB m (by simp) h8)
def aCB (hs:fL s=0) (hn:1800000<n) (fw:n<4294967296) (k:Int->aN->ae->bX->Z (bX×aN)) (n8:Int) (hn8:0<n8) (hn88:n8<=100) (c:aN) (hc:cV c) (l:bX) (hl:Lst s l) (hl5:l.length<=100) (fZ:ae) (m:aE) (hm:asH m) (hk:∀l',Lst s l'->l'.length<=l.length+1->Ok (k (n8-1) c s l') (EE s)):
  Ok (tP k n n8 c s l fZ m) (EE s):=by
 have e:∀l',F6 k n n8 c s l'=k (n8-1) c s l':=λl'=>by unfold F6;rw[cU (by omega) (by omega)]
 unfold tP;refine Ok.ite (λ_=>Ok.ite (λ_=> ?_) λ_=> ?_) λ_=> ?_
 ·rw[e];exact hk l hl (by omega)
 ·exact aiP hs hn fw (F6 k n) n8 c hc l hl hl5 m hm λl' h1 h2=>by rw[e];exact hk l' h1 h2
 ·exact aiP hs hn fw (F6 k n) n8 c hc l hl hl5 m hm λl' h1 h2=>by rw[e];exact hk l' h1 h2
def anf (a:U) (cs:cY) (k:Int) (h:cs.length<=10):GP ⟨a,cs,k,[],[]⟩:=⟨⟨by show cs.length<=1000;omega,by simp,by simp⟩,λr hr=>by simp at hr,λp hp=>by simp at hp⟩
def TabZ:Prop:=0<=F.aH/\F.aH<=(F.ag.length:Int)/\F.ag.length<=8/\∀x∈F.ag,3<=x.aD/\x.aD<=5
def aiO (hs:fL s=0) (hn:1800000<n) (fw:n<4294967296) (k:Int->aN->ae->bX->Z (bX×aN)) (n8:Int) (hn8:0<n8) (hn88:n8<=100) (c:aN) (hc:cV c) (l:bX) (hl:Lst s l) (hl5:l.length<=100) (fZ:ae) (op tb:Int) (jR:ai) (hT:TabZ jR) (hk:∀l' c',cV c'->Lst s l'->l'.length<=l.length+1->Ok (k (n8-1) c' s l') (EE s)):
  Ok (Ud k n n8 c s l fZ (aE.mk op tb 0 0 A' 0 om [] (ad3 A' [] 0 [] [])) jR) (EE s):=by
 obtain ⟨t1,t2,t3,t4⟩:=hT;have fin:∀(c':aN) (m:aE),cV c'->asH m->Ok (tP k n n8 c' s l fZ m) (EE s):=λc' m h1 h2=>aCB hs hn fw k n8 hn8 hn88 c' h1 l hl hl5 fZ m h2 λl' h3 h4=>hk l' c' h1 h3 h4
 have cz:∀(op tb FG to:Int) (nm:U) (kd:Int) (v:aS) (ps:gf) (d:ai),mU FG->mU to->GP d->(op=8->gF ps\/ps= [])->asH (aE.mk op tb FG to nm kd v ps d):=λop tb FG to nm kd v ps d h1 h2 h3 h4=>⟨⟨h1,h2,h3⟩,h4⟩
 have z0:mU 0:=⟨by omega,by omega⟩
 have d0:GP (ad3 A' [] 0 [] []):=anf _ _ _ (by simp)
 unfold Ud;have w1:aW ((jR.ag.length:Int)-jR.aH)=(jR.ag.length:Int)-jR.aH:=cU (by omega) (by omega)
 rw[w1];refine Ok.bind (jT n c _ hc) λdN ⟨c11,a0,_,_,a1⟩=> ?_
 have w2:aW (jR.aH+dN.1)=jR.aH+dN.1:=cU (by omega) (by omega)
 have GB:mU (jR.aH+dN.1):=⟨by omega,by omega⟩
 rw[w2];have s1:(Bk #[110]).size=1:=rfl;have e1:=FB (Y' .i32 (aW (97+(l.length:Int))));rw[axV (by omega),ak]
 refine Ok.bind (jT n dN.2 26 c11) λiP ⟨c23,_,_,_,_⟩=> ?_
 have e2:=FB (Y' .i32 (aW (97+iP.1)));rw[axV (by rw[V1];omega),ak]
 refine Ok.ite (λq=> ?_) λq1=> ?_
 ·refine Ok.bind (jT n iP.2 3 c23) λrX ⟨c37,p0,p1,_,_⟩=> ?_
  have p1:=p1 (by omega)
  rw[cU (x:=3+rX.1) (by omega) (by omega)]
  refine Ok.bind (EU n (by omega) rX.2 (3+rX.1) c37 (by omega) (by omega)) λx47 hx=> ?_
  exact fin _ _ hx.1 (cz _ _ _ _ _ _ _ _ _ z0 z0 d0 λh=>.inr rfl)
 refine Ok.ite (λq=> ?_) λq2=> ?_
 ·refine Ok.ite (λh=> ?_) λ_=>fin _ _ c23 (cz _ _ _ _ _ _ _ _ _ GB z0 d0 λh=>.inr rfl)
  have h:=tq h;obtain ⟨i,hi⟩:∃i:Nat,jR.aH+dN.1=(i:Int):=⟨(jR.aH+dN.1).toNat,by omega⟩
  have rA:i<jR.ag.length:=by omega
  rw[hi,bB,cZ rA,ak];have yj:=t4 _ (p6 rA);refine Ok.bind (EU n (by omega) iP.2 _ c23 yj.1 yj.2) λG9 hx=> ?_
  exact fin _ _ hx.1 (cz _ _ _ _ _ _ _ _ _ (hi ▸ GB) z0 d0 λh=>.inr rfl)
 refine Ok.ite (λq=> ?_) λq3=> ?_
 ·refine Ok.bind (jT n iP.2 _ c23) λHa ⟨c50,p0,_,_,p1⟩=> ?_
  rw[cU (x:=jR.aH+Ha.1) (by omega) (by omega)]
  exact fin _ _ c50 (cz _ _ _ _ _ _ _ _ _ GB ⟨by omega,by omega⟩ d0 λh=>.inr rfl)
 refine Ok.ite (λq=> ?_) λq4=> ?_
 ·refine Ok.bind (jT n iP.2 _ c23) λyz ⟨c46,p0,_,_,p1⟩=> ?_
  exact fin _ _ c46 (cz _ _ _ _ _ _ _ _ _ ⟨by omega,by omega⟩ z0 d0 λh=>.inr rfl)
 refine Ok.ite (λq=> ?_) λq5=> ?_
 ·exact fin _ _ c23 (cz _ _ _ _ _ _ _ _ _ z0 z0 d0 λh=>.inr rfl)
 refine Ok.ite (λq=> ?_) λq6=> ?_
 ·rw[show ∀a k,EV n a k=V (cA.mk a k) from λ_ _=>rfl,ak,show ∀a k,EV n a k=V (cA.mk a k) from λ_ _=>rfl,ak]
  exact fin _ _ c23 (cz _ _ _ _ _ _ _ _ _ z0 z0 (anf _ _ _ (by simp)) λh=>.inr rfl)
 refine Ok.ite (λq=> ?_) λq8=> ?_
 ·refine Ok.ite (λh=> ?_) λ_=>fin _ _ c23 (cz _ _ _ _ _ _ _ _ _ GB z0 d0 λh=>.inr rfl)
  have h:=tq h;obtain ⟨i,hi⟩:∃i:Nat,jR.aH+dN.1=(i:Int):=⟨(jR.aH+dN.1).toNat,by omega⟩
  have rA:i<jR.ag.length:=by omega
  rw[hi,bB,cZ rA,ak];have yj:=t4 _ (p6 rA);refine Ok.bind (EU n (by omega) iP.2 _ c23 yj.1 yj.2) λp8 hx=> ?_
  refine Ok.bind (EU n (by omega) p8.2 _ hx.1 yj.1 yj.2) λrW hy=> ?_
  have aEE:mU ((i:Nat):Int):=hi ▸ GB;refine Ok.ite (λhe=> ?_) λhe=> ?_
  ·have he:p8.1=rW.1:=C5.1 he;have ct:rR 2 1=V 1:=rfl;rw[ct,ak];refine fin _ _ hy.1 (cz _ _ _ _ _ _ _ _ _ aEE z0 d0 λh=>.inl (.inl ⟨p8.1,?_⟩))
   rw[he];rfl
  ·exact fin _ _ hy.1 (cz _ _ _ _ _ _ _ _ _ aEE z0 d0 λh=>.inl (.inr ⟨p8.1,rW.1,he,rfl⟩))
 ·exact fin _ _ c23 (cz _ _ _ _ _ _ _ _ _ z0 z0 d0 λh=>.inr rfl)
end
def acG {s:J} {ts:List J}:(s::ts)[(s::ts).length-1]? =V ((s::ts).getLast (by simp)):=by
 rw[<-akV,List.getLast?_eq_some_getLast]
def ahK (s:ae) (hs:fL s=0) (n0:Nat):∀(k:Nat) (i:Nat) (c:aN) (l:bX),i+1900000<k->k<4294967296->cV c->Lst s l->l.length+i<=5->Ok (FZ (PO n0) k (i:Int) c s l) (EE s)
 |0,_,_,_,hk,_,_,_,_=>by omega
 |k+1,0,c,l,hk,jO,hc,hl,h5=>by
  have hq:¬((0:Int)<((0:Nat):Int)):=by omega
  simp only[FZ,acd,hq,aR,ax,au,PO];exact Ok.pure ⟨hc,hl,by omega⟩
 |k+1,i+1,c,l,hk,jO,hc,hl,h5=>by
  have hq:((0:Int)<((i+1:Nat):Int)):=by omega
  simp only[FZ,acd,hq,aO,aw];refine Ok.bind (ayP k (by omega) (by omega) s hs l (λm hm=>(hl.mem m hm).1) (by omega)) λr hr=> ?_
  refine Ok.ite (λ_=>Ok.pure ⟨hc,⟨λm hm=>by simp at hm,[],trivial⟩,by simp⟩) λh0=> ?_
  obtain ⟨_,_,ts,e,qE⟩:=hr (by simpa using h0)
  have hchk:∀t∈s::ts,fL t=0:=λt ht=>by
   rcases da.1 ht with rfl|ht
   ·exact hs
   ·exact qE.kj t ht
  have hlen:=qE.len;rw[e];have hL:(s::ts).length=ts.length+1:=rfl;have w:aW (((s::ts).length:Int)-1)=(((s::ts).length-1:Nat):Int):=by rw[cU (by rw[hL];omega) (by rw[hL];omega),hL];omega
  rw[w,fI (by rw[hL];omega),ak,cg,acG,ak]
  have aAQ:=hchk _ (NM (l:=s::ts) (by simp))
  generalize (s::ts).getLast (by simp)=now at aAQ
  have hG:=SG.of aAQ;have hS:=vq aAQ;have h8:=hG.len;refine Ok.bind (jT k c 10 hc) λfK ⟨c25,p0,p1,_,_⟩=> ?_
  have p1:=p1 (by omega)
  rw[cU (x:=1+fK.1) (by omega) (by omega)]
  refine Ok.bind (jT k fK.2 _ c25) λkC ⟨c33,u0,u1,_,_⟩=> ?_
  have rest:∀(c':aN) (op:Int),cV c'->Ok (Uc (FZ (PO n0) k) k ((i+1:Nat):Int) c' s l now (aE.mk op kC.1 0 0 A' 0 om [] (ad3 A' [] 0 [] []))) (EE s):=λc' op nL=>by
   have back:∀l' c'',cV c''->Lst s l'->l'.length<=l.length+1->Ok (FZ (PO n0) k (((i+1:Nat):Int)-1) c'' s l') (EE s):=λl' c'' h1 h2 h3=>by
    rw[show (((i+1:Nat):Int)-1)=(i:Int) by omega]
    exact ahK s hs n0 k i c'' l' (by omega) (by omega) h1 h2 (by omega)
   unfold Uc;refine Ok.ite (λht=> ?_) λht=> ?_
   ·have ht:=tq ht;have dq:kC.1<(now.ah.length:Int):=by
     by_cases h1:(1:Int)<(now.ah.length:Int)
     ·rw[aG h1] at u1;exact u1 (by omega)
     ·rw[aC h1] at u1;have:=u1 (by omega)
      omega
    obtain ⟨j,hj⟩:∃j:Nat,kC.1=(j:Int):=⟨kC.1.toNat,by omega⟩
    have gn:j<now.ah.length:=by omega
    have hT:now.ah[j]? =V now.ah[j]:=cZ gn;show Ok ((idx now.ah kC.1).bind _) _;rw[hj,bB,hT,ak];have tg:=hG.bY _ (p6 gn);have tk:=hS.bY (j:Int) now.ah[j] (by rw[bB];exact hT)
    have a1:=tg.uL;refine aiO hs (by omega) (by omega) _ ((i+1:Nat):Int) (by omega) (by omega) c' nL l hl (by omega) now op (j:Int) now.ah[j] ⟨by omega,tg.jF,tg.cols,λx hx=> ?_⟩ back
    have Bw:=tk.ks;unfold eh nS at Bw;rw[jJ] at Bw;exact Fm (Bw x.aD (dM.2 ⟨x,hx,rfl⟩))
   ·exact aiO hs (by omega) (by omega) _ ((i+1:Nat):Int) (by omega) (by omega) c' nL l hl (by omega) now op kC.1 _ ⟨by simp,by simp,by simp,λx hx=>by simp at hx⟩ back
  refine Ok.ite (λ_=> ?_) λ_=>rest _ _ c33
  refine Ok.bind (jT k kC.2 2 c33) λE4 ⟨c42,_,_,_,_⟩=>rest _ _ c42
def aOM (hn:2000000<A) (fw:A<4294967296) (c:aN) (hc:cV c) (s:ae) (hs:fL s=0):Ok (F39 A c s 5) (EE s):=by
 unfold F39 atv;rw[show aW (5+1)=6 from cU (by omega) (by omega)]
 refine Ok.bind (jT A c 6 hc) λx7 ⟨c7,p0,p1,_,_⟩=> ?_
 have p1:=p1 (by omega)
 obtain ⟨i,hi⟩:∃i:Nat,x7.1=(i:Int):=⟨x7.1.toNat,by omega⟩
 rw[hi];exact ahK s hs A A i x7.2 [] (by omega) fw c7 ⟨λm hm=>by simp at hm,[],trivial⟩ (by simp;omega)
def aOU (hn:2000000<A) (fw:A<4294967296) (c:aN) (hc:cV c):Ok (F12 A c) λr=>cV r.2.2.2.2/\M3 r.1/\Lst r.1 r.2.1/\r.2.1.length<=5/\∃(ts:fU) (k:Nat),dA r.1 r.2.1 ts/\r.2.2.1=r.1::ts/\r.2.2.2.1=(k:Int)/\k<=ts.length:=by
 unfold F12 atJ;refine Ok.bind (aON A (by omega) fw c hc) λx6 ⟨h1,h2⟩=> ?_
 refine Ok.bind (aOM A hn fw x6.2 h1 x6.1 h2.kj) λjd ⟨g1,g2,g3⟩=> ?_
 obtain ⟨ts,qE⟩:=g2.chain;have D6:x6.1.ay<=2:=by
  obtain ⟨v,id,k,r1,r2,r3,ch,hp,e⟩:=h2;rw[e];exact hp.v1
 rw[aOL A (by omega) fw x6.1 h2.kj jd.1 (λm hm=>(g2.mem m hm).1) (by omega) (by omega) ts qE,ak]
 refine Ok.bind (jT A jd.2 _ g1) λlu ⟨k1,k2,k3,_⟩=> ?_
 have k3:=k3 (by simp;omega)
 obtain ⟨k,hk⟩:∃k:Nat,lu.1=(k:Int):=⟨lu.1.toNat,by omega⟩
 exact Ok.pure ⟨k1,h2,g2,g3,ts,k,qE,rfl,hk,by simp at k3;omega⟩
def dA.ver:∀{s:ae} {ms:bX} {ts:fU},dA s ms ts->∀(i:Nat) t,(s::ts)[i]? =V t->t.ay=s.ay+(i:Int)
 |s,ms,ts,h,0,t,ht=>by simp at ht;subst ht;simp
 |s,[],[],_,i+1,t,ht=>by simp at ht
 |s,m::ms,u::ts,h,i+1,t,ht=>by
  have:=dA.ver h.2.2.2 i t (by simpa using ht)
  rw[this,h.2.1.ver];omega
 |_,[],_::_,h,_+1,_,_=>by cases h
 |_,_::_,[],h,_+1,_,_=>by cases h
end
section
def aOF:F69 A O f8=V (lY O f8):=by
 unfold F69 ate lY;by_cases h1:O.aD<f8.aD
 ·simp[h1]
 ·by_cases h2:f8.aD<O.aD
  ·simp[h1,h2]
  ·by_cases h3:O.dh<f8.dh
   ·simp[h1,h2,h3]
   ·by_cases h4:f8.dh<O.dh
    ·simp[h1,h2,h3,h4]
    ·by_cases h5:N' O.cG.toList f8.cG.toList=M
     ·simp[h1,h2,h3,h4,h5]
     ·by_cases h6:O.cG=f8.cG
      ·simp[h1,h2,h3,h4,h6,qo]
      ·have h7:¬O.cG.toList=f8.cG.toList:=λe=>h6 (Cc (by rw[yn,yn] at e;exact e))
       simp[h1,h2,h3,h4,h5,h6,h7]
def ayz (n0:Nat) (a b:bt) (ha:a.length<4294967296):∀(x:bt) (i m:Nat),a.drop i=x->i<=a.length->i<=b.length->x.length<m->Pq (Ui n0) m a b (i:Int)=V (dW (a.drop i) (b.drop i))
 | [],i,m+1,hd,h1,h2,hm=>by
  obtain ⟨hl,hq⟩:=eA hd
  simp only[Pq,acm,Ui,hq,aR,ax,au];rw[hd];cases hb:b.drop i with
  |nil=>
   have:b.length<=i:=by simpa using hb
   have e1:¬(a.length:Int)<b.length:=by omega
   have e2:¬(b.length:Int)<a.length:=by omega
   simp[e1,e2,dW]
  |cons y l=>
   obtain ⟨_,_,g3⟩:=qg hb;have e1:(a.length:Int)<b.length:=by omega
   simp[e1,dW]
 |x::xs,i,m+1,hd,h1,h2,hm=>by
  obtain ⟨g1,g2,g3,hq⟩:=dK hd
  simp only[Pq,acm,hq,aO,aw];cases hb:b.drop i with
  |nil=>
   have hl:b.length<=i:=by simpa using hb
   have e0:¬(i:Int)<b.length:=by omega
   have e1:¬(a.length:Int)<b.length:=by omega
   have e2:(b.length:Int)<a.length:=by omega
   simp[e0,e1,e2,Ui,hd,dW]
  |cons y l=>
   obtain ⟨k1,k2,k3⟩:=qg hb;have e0:(i:Int)<b.length:=by omega
   simp only[e0,aO,aw,bB,g1,k1,ak,aOF];rw[hd,bT g3 ha];simp only[dW];by_cases h:lY x y=0
   ·simp only[h,ia,ax,au,aw];rw[ayz n0 a b ha xs (i+1) m g2 (by omega) (by omega) (by simp at hm;omega),g2,k2]
   ·have:(lY x y !=0)=M:=by simpa using h
    simp only[this,h,aw,au]
 |_,_,0,_,_,_,hm=>by simp at hm
def M6 (ha:ge.length<4294967296) (hn:ge.length<A):F27 A ge ab=V (dW ge ab):=by
 have:=ayz A ge ab ha ge 0 A rfl (by omega) (by omega) hn
 simp only[ph] at this;exact this
variable {s:ae} {t:Int} {T:ai} {n:Nat}
def IQ (h:ge.length<=1000000):Na n ge=V ge:=by
 simp only[Na,akf];rw[dx _ _ (by simpa using h)]
 rfl
def M5 (hT:idx s.ah t=V T) (ht:km T) (r:bt) (hr:r.length=T.ag.length):F52 n s t r=V (r.take T.aH.toNat):=by
 obtain ⟨h0,h1,_⟩:=D2 hT;have:=ht.cols;have k1:=ht.uL;have k2:=ht.jF;have e1:¬t<0:=by omega
 have e2:t<(s.ah.length:Int):=by omega
 have e3:¬(r.length:Int)<T.aH:=by omega
 have e4:0<T.aH:=by omega
 simp only[F52,atn,e1,e2,aR,aO,dd,ax,au,hT,ak,e3,e4,aw];rw[axS (by omega) (by omega),ak,IQ _ (by simp;omega)]
 rfl
end

section
def Jz {T:ai} {c:cA} (h:T.ag[i]? =V c):(eh T)[i]? =V c.aD:=by simp[eh,h]
def akK {T:ai} {c:cA} (h:T.ag[i]? =V c):(eh T).drop i=c.aD::(eh T).drop (i+1):=by
 have h1:i<(eh T).length:=by rw[pF];exact (bO.1 h).1
 have h2:=Jz h;rw[sr h1];rw[cZ h1] at h2;rw[kR h2]
def afL (l:List J):((l.length:Int)==0)=l.isEmpty:=by cases l<;>simp;omega
def behind:Z bt->bt->Bool
 |none,_=>M
 |some q,r=>iL (dW (q.take F.aH.toNat) (r.take F.aH.toNat)<0)
def total:cJ->Nat
 | []=>0
 |rs::rss=>rs.length+total rss
def atT {x:cJ} (h:rs∈x):rs.length<=total x:=by
 induction x with
 |nil=>simp at h
 |cons y x ih=>
  simp only[total];rcases da.1 h with rfl|h
  ·omega
  ·have:=ih h;omega
section
variable {s:ae} {t n:Nat} {T:ai}
def IM (hT:idx s.ah t=V T) (ht:km T) (r:bt) (hr:r.length=T.ag.length):F68 n s t r=V (r.take T.aH.toNat):=by
 obtain ⟨h0,h1,_⟩:=D2 hT;have:=ht.cols;have k1:=ht.uL;have k2:=ht.jF;have e1:¬(t:Int)<0:=by omega
 have e2:(t:Int)<(s.ah.length:Int):=by omega
 have e3:¬(r.length:Int)<T.aH:=by omega
 have e4:0<T.aH:=by omega
 simp only[F68,atf,e1,e2,aR,aO,dd,ax,au,hT,ak,e3,e4,aw];rw[axS (by omega) (by omega),ak]
end
abbrev iM:=cJ
def nD:Bool:=oo f8&&iL (f8.aD=S\/(¬(L:Int)<E/\((f8.aD=2/\B≠1)\/(f8.aD=1/\B=3))))
def gB (md key:Int):Nat->aP->bt->Bool
 |_,[],[]=>M
 |i,k::ks,v::vs=>nD md key i k v&&gB md key (i+1) ks vs
 |_,_,_=>I
section
variable {md key:Int}
def zX:∀{i:Nat} {ks:aP} {vs:bt},gB md key i ks vs=M->vs.length=ks.length
 |_,[],[],_=>rfl
 |_,k::ks,v::vs,h=>by simp[gB] at h;simp[zX h.2]
 |_,[],_::_,h=>by simp[gB] at h
 |_,_::_,[],h=>by simp[gB] at h
def aHp {ks:aP} {r:bt} (h:¬r.length=ks.length):gB md key i ks r=I:=by
 cases hr:gB md key i ks r with
 |false=>rfl
 |true=>exact absurd (zX hr) h
def Zs:∀{i:Nat} {ks:aP} {vs:bt} {k:Int} {v:aS},gB md key i ks vs=M->nD md key (i+ks.length) k v=M->gB md key i (ks++ [k]) (vs++ [v])=M
 |i,[],[],k,v,_,h1=>by simpa[gB] using h1
 |i,k'::ks,v'::vs,k,v,h,h1=>by
  simp only[gB,bG] at h;simp only[wa,gB,bG];exact ⟨h.1,Zs h.2 (by rw[show i+1+ks.length=i+(k'::ks).length by simp;omega];exact h1)⟩
 |_,[],_::_,_,_,h,_=>by simp[gB] at h
 |_,_::_,[],_,_,h,_=>by simp[gB] at h
def ZM {k:Int} (h1:v.aD=k) (h2:jt v=M):nD md key i k v=M:=by
 unfold jt at h2;rw[bG] at h2;unfold nD;rw[bG];exact ⟨h2.1,by simp[h1]⟩
end
def aGc (n0:Nat) (md:Int) (T:ai) (r:bt) (hr:r.length=T.ag.length) (hl:r.length<4294967296):∀(x:bt) (i m:Nat),r.drop i=x->i<=r.length->x.length<m->Kj (T7 n0) m md r (r.length:Int) (i:Int) T=V (gB md T.aH i ((eh T).drop i) (r.drop i))
 | [],i,m+1,hd,h1,hm=>by
  have Cn:r.length<=i:=by simpa using hd
  have hq:¬((i:Int)<(r.length:Int)):=by omega
  simp only[Kj,abG,T7,hq,aR,ax,au];rw[hd,p7 (by rw[pF];omega)]
  rfl
 |x::xs,i,m+1,hd,h1,hm=>by
  obtain ⟨g1,g2,g3,hq⟩:=dK hd
  have dq:i<T.ag.length:=by omega
  have hc:T.ag[i]? =V T.ag[i]:=cZ dq;have hk:=akK hc;generalize T.ag[i]=c at hc hk;have ih:=aGc n0 md T r hr hl xs (i+1) m g2 (by omega) (by simp at hm;omega)
  rw[g2] at ih;have key:∀b:Bool,PI (Kj (T7 n0) m) m md (i:Int) b r (r.length:Int) (i:Int) T x=if x.aD=c.aD\/b=M\/(¬(i:Int)<T.aH/\x.aD=1/\md=3) then V (gB md T.aH (i+1) ((eh T).drop (i+1)) xs) else V I:=by
   intro b;unfold PI T8;simp only[bB,hc,ak,bT g3 hl,ih];by_cases he:x.aD=c.aD
   ·simp[he]
   ·by_cases e1:x.aD=1
    ·by_cases m3:md=3
     ·by_cases hk:(i:Int)<T.aH<;>cases b<;>simp[he,e1,m3,hk]<;>(intro hh;exact absurd (e1.trans hh) he)
     ·cases b<;>simp[he,e1,m3]<;>(intro hh;exact absurd (e1.trans hh) he)
    ·cases b<;>simp[he,e1]
  simp only[Kj,abG,hq,aO,aw,bB,g1,ak,aoi,key];rw[hd,hk];simp only[gB,nD];cases hv:oo x with
  |false=>simp
  |true=>
   simp only[dd,ax,au,iT];by_cases he:x.aD=c.aD
   ·by_cases h2:x.aD=2
    ·by_cases m1:md=1<;>simp[he,h2,m1]
    ·by_cases h1:x.aD=1<;>simp[he,h1,h2]
   ·by_cases h2:x.aD=2
    ·have f2:¬(2:Int)=c.aD:=λh=>he (h2.trans h)
     by_cases m1:md=1
     ·subst m1;simp[he,h2,f2]
     ·by_cases hk:(i:Int)<T.aH<;>simp[he,h2,m1,hk,f2]
    ·by_cases h1:x.aD=1
     ·have f1:¬(1:Int)=c.aD:=λh=>he (h1.trans h)
      by_cases m3:md=3<;>by_cases hk:(i:Int)<T.aH<;>simp[he,h1,m3,hk,f1]
     ·simp[he,h1,h2]
 |_,_,0,_,_,hm=>by simp at hm
section
variable {s:ae} {t md:Int} {T:ai} {n:Nat}
def tO:Prop:=B=1\/B=2\/B=3
def aGh (hm:tO md) (hT:idx s.ah t=V T) (ht:km T) (r:bt) (hn:1000<n):F66 n s t r md=V (gB md T.aH 0 (eh T) r):=by
 have hc:=ht.cols;have hl:=pF T;have e0:F66 n s t r md=KA n t r md I s:=by
  rcases hm with rfl|rfl|rfl<;>simp[F66,atg,aon hT]
 rw[e0];simp only[KA,ax,au,hT,ak];by_cases h:r.length=T.ag.length
 ·have e:((r.length:Int) !=(T.ag.length:Int))=I:=by simp[h]
  rw[e];simp only[ax,au];have:=aGc n md T r h (by omega) r 0 n rfl (by omega) (by omega)
  simp only[ph] at this;exact this
 ·have e:((r.length:Int) !=(T.ag.length:Int))=M:=by simp;omega
  rw[e,aHp (by omega)]
  rfl
end
def aAU {md key k:Int} (h1:md≠1) (h2:¬(i:Int)<key):nD md key i k ⟨2,0,A'⟩=M:=by
 have:oo ⟨2,0,A'⟩=M:=by simp[oo]
 simp[nD,this,h1,h2]
def aAh {md key k:Int} (h1:md=3) (h2:¬(i:Int)<key):nD md key i k ⟨1,0,A'⟩=M:=by
 have:oo ⟨1,0,A'⟩=M:=by simp[oo]
 simp[nD,this,h1,h2]
def aGd (md:Int) (ks:aP) (hk:nS ks=M) (hl:ks.length<=100) (key:Int) (n0:Nat):∀(xs:aP) (i m:Nat) (out:bt) (c:aN),ks.drop i=xs->300+xs.length<m->cV c->gB md key 0 (ks.take i) out=M->
  Ok (FY (PL n0) m key md ks (ks.length:Int) (i:Int) c out) λr=>cV r.2/\gB md key 0 ks r.1=M
 | [],i,m+1,out,c,hd,hm,hc,ho=>by
  obtain ⟨this,hq⟩:=eA hd
  simp only[FY,abP,PL,hq,aR,ax,au];exact Ok.pure ⟨hc,by rwa[jz this] at ho⟩
 |x::xs,i,m+1,out,c,hd,hm,hc,ho=>by
  obtain ⟨g1,g2,g3,hq⟩:=dK hd
  have hx:=afO hk g1;have hkr:=Fm hx;have hlen:=zX ho;rw[dz] at hlen;have HJ:(ks.take i).length=i:=by rw[dz];omega
  simp only[FY,abP,hq,aO,aw,bB,g1,ak];simp at hm;have next:∀v c',cV c'->nD md key i x v=M->Ok (AY (FY (PL n0) m) m key md ks (ks.length:Int) (i:Int) c' (out++ [v])) λr=>cV r.2/\gB md key 0 ks r.1=M:=by
   intro v c' nL hv;unfold AY;rw[bT g3 (by omega)]
   refine aGd md ks hk hl key n0 xs (i+1) m _ _ g2 (by omega) nL ?_
   rw[G2,g1];exact Zs ho (by rw[HJ,cg];exact hv)
  have cell:∀c' b,cV c'->(b=M->md=3/\¬(i:Int)<key)->Ok (F5 (AY (FY (PL n0) m) m) m key md x ks (ks.length:Int) (i:Int) b c' out) λr=>cV r.2/\gB md key 0 ks r.1=M:=by
   intro c' b nL hb;unfold F5;refine Ok.ite (λh=> ?_) λ_=> ?_
   ·rw[dx _ _ (by simp;omega),ak]
    exact next _ _ nL (aAh (hb h).1 (hb h).2)
   ·refine Ok.bind (EU m (by omega) c' x nL hkr.1 hkr.2) λr ⟨hr,r1,r2⟩=> ?_
    rw[dx _ _ (by simp;omega),ak]
    exact next _ _ hr (ZM r1 r2)
  refine Ok.ite (λhge=> ?_) λ_=>cell _ _ hc (λh=>by cases h)
  have hge:¬(i:Int)<key:=by simpa using hge
  refine Ok.ite (λh1=> ?_) λ_=> ?_
  ·have h1:md≠1:=by simpa using h1
   refine Ok.bind (sX m c 5 hc) λb hb=> ?_
   refine Ok.ite (λ_=> ?_) λ_=> ?_
   ·rw[dx _ _ (by simp;omega),ak]
    exact next _ _ hb (aAU h1 hge)
   ·refine Ok.ite (λh3=> ?_) λ_=>cell _ _ hb (λh=>by cases h)
    refine Ok.bind (sX m b.2 5 hb) λd hd=> ?_
    exact cell _ _ hd λ_=>⟨by simpa using h3,hge⟩
  ·refine Ok.ite (λh3=> ?_) λ_=>cell _ _ hc (λh=>by cases h)
   refine Ok.bind (sX m c 5 hc) λd hd=> ?_
   exact cell _ _ hd λ_=>⟨by simpa using h3,hge⟩
 |_,_,0,_,_,_,hm,_,_=>by simp at hm
def aGk (hn:1000<=A) (c:aN) (ks:aP) (key:Int) (hk:nS ks=M) (hl:ks.length<=100) (hc:cV c):Ok (F49 A c ks key B) λr=>cV r.2/\gB B key 0 ks r.1=M:=
 aGd B ks hk hl key A ks 0 A [] c rfl (by omega) hc rfl
end
section
def gT {md key:Int} {T:ai} {r:bt} (h:gB md key 0 (eh T) r=M):r.length=T.ag.length:=by rw[zX h,pF]
def AE (md:Int) (T:ai):Z bt->bK->Bool
 |_,[]=>M
 |p,r::rs=>gB md T.aH 0 (eh T) r&&(behind T p r&&AE md T (V r) rs)
def Cw (md:Int):bw->cJ->Bool
 |T::Ts,rs::rss=>AE md T G rs&&Cw md Ts rss
 |_,_=>M
def RZ (ts:cJ):Int:=
 if ad=0 then (if 512<total ts then 2 else if ts.length=ao.ah.length then (if Cw B ao.ah ts then 0 else 80) else 80) else ad
variable {s:ae} {t n:Nat} {T:ai} {md:Int}
def asd (lX:tO md) (he:IP n s=V e):F64 n s md=V e:=by
 unfold F64 ati;rw[he,ak];rcases lX with rfl|rfl|rfl<;>simp<;>omega
def anA (lX:tO md) (hT:idx s.ah (t:Int)=V T) (ht:km T) (rows:bK) (hl:rows.length<=2000000) (k:Int->cJ->Int->Int->ae->Z Int) (a:cJ) (a1 a2:Int):
  ∀(x:bK) (i m:Nat),rows.drop i=x->x.length+1100<m->(i=0\/∃q,rows[i-1]? =V q/\q.length=T.ag.length)->
   Pr k m md (t:Int) rows a a1 a2 rows (rows.length:Int) (i:Int) s=if AE md T (if i=0 then G else rows[i-1]?) x then k md a a1 a2 s else V 80
 | [],i,m+1,hd,hm,_=>by
  have Cn:rows.length<=i:=by simpa using hd
  have hq:¬((i:Int)<(rows.length:Int)):=by omega
  simp only[Pr,acp,hq,aR,ax,au,AE,aw]
 |r::x,i,m+1,hd,hm,hp=>by
  obtain ⟨g1,g2,g3,hq⟩:=dK hd
  simp at hm;simp only[Pr,acp,hq,aO,aw,bB,g1,ak,aGh lX hT ht r (by omega:1000<m),AE]
  rcases kZ (gB md T.aH 0 (eh T) r) with hr|hr
  rotate_left
  ·simp[hr]
  ·have hc:=gT hr;have h8:=ht.cols;have ih:=anA lX hT ht rows hl k a a1 a2 x (i+1) m g2 (by omega) (.inr ⟨r,by rw[Nat.add_sub_cancel];exact g1,hc⟩)
   rw[aC (by omega:¬i+1=0),Nat.add_sub_cancel,g1] at ih
   simp only[hr,dd,ax,au,iT,bT g3 (by omega:rows.length<4294967296),ih]
   by_cases h0:i=0
   ·subst h0;simp[behind]
   ·obtain ⟨q,hg,hql⟩:=hp.resolve_left h0;have h0':0<(i:Int):=by omega
    have hw:aW ((i:Int)-1)=((i-1:Nat):Int):=by rw[cU (by omega) (by omega)];omega
    simp only[h0',aO,aw,hw,bB,hg,ak,h0,au,IM hT ht q hql,IM hT ht r hc,M4 m (q.take T.aH.toNat) (r.take T.aH.toNat) (by simp;omega) (by simp;omega),behind]
    by_cases h5:dW (q.take T.aH.toNat) (r.take T.aH.toNat)<0
    ·simp[h5]
    ·simp[h5]
 |_,_,0,_,hm,_=>by simp at hm
def anz (lX:tO md) (hs:qI s) (n0:Nat) (ts:cJ) (hlen:ts.length=s.ah.length) (hl:total ts<=512):
  ∀(x:cJ) (i m:Nat),ts.drop i=x->x.length+2000<m->
   Kp (Uj n0) m md ts (ts.length:Int) (i:Int) s=V (if Cw md (s.ah.drop i) x then 0 else 80)
 | [],i,m+1,hd,hm=>by
  have Cn:ts.length<=i:=by simpa using hd
  have hq:¬((i:Int)<(ts.length:Int)):=by omega
  simp only[Kp,acn,Uj,hq,aR,ax,au];cases s.ah.drop i<;>simp[Cw]
 |rs::x,i,m+1,hd,hm=>by
  obtain ⟨g1,g2,g3,hq⟩:=dK hd
  have h8:=hs.len;have yP:=atT (bQ g1);simp at hm;have hi:i<s.ah.length:=by omega
  have hT:idx s.ah (i:Int)=V (s.ah[i]):=by rw[bB];exact cZ _
  have ih:=anz lX hs n0 ts hlen hl x (i+1) m g2 (by omega)
  simp only[Kp,acn,hq,aO,aw,bB,g1,ak];have e:=anA lX hT (hs.bY _ _ hT) rs (by omega) (aco (Kp (Uj n0) m) m) ts (ts.length:Int) (i:Int) rs 0 m rfl (by omega) (.inl rfl)
  rw[aG rfl,show ((0:Nat):Int)=0 from rfl] at e;rw[e,sr hi];simp only[aco,bT g3 (by omega:ts.length<4294967296),ih,Cw]
  rcases kZ (AE md s.ah[i] G rs) with hb|hb<;>simp[hb]
 |_,_,0,_,hm=>by simp at hm
def ayw (k:Int->Z Int) (ts:cJ) (hl:ts.length+total ts<=2000000):∀(x:cJ) (i m a:Nat),ts.drop i=x->x.length<m->a+total x<=2000000->Pf k m (a:Int) ts (ts.length:Int) (i:Int)=k ((a+total x:Nat):Int)
 | [],i,m+1,a,hd,hm,ha=>by
  have Cn:ts.length<=i:=by simpa using hd
  have hq:¬((i:Int)<(ts.length:Int)):=by omega
  simp only[Pf,abI,hq,aR,ax,au,total,nH]
 |rs::x,i,m+1,a,hd,hm,ha=>by
  obtain ⟨g1,g2,g3,hq⟩:=dK hd
  simp at hm;simp only[total] at ha;have hw:aW ((a:Int)+(rs.length:Int))=((a+rs.length:Nat):Int):=by rw[cU (by omega) (by omega)];omega
  simp only[Pf,abI,hq,aO,aw,bB,g1,ak,bT g3 (by omega:ts.length<4294967296),hw]
  rw[ayw k ts hl x (i+1) m (a+rs.length) g2 (by omega) (by omega)]
  simp only[total,gD]
 |_,_,0,_,_,hm,_=>by simp at hm
def aUs (lX:tO md) (n:Nat) (s:ae) (e:Int) (he:IP n s=V e) (hs:e=0->qI s) (st:aF) (hl:st.ah.length+total st.ah<=2000000) (hn:2000100<=n):F26 n s md st=V (RZ md s e st.ah):=by
 unfold F26 atA RZ;rw[asd lX he,ak];by_cases h0:e=0
 ·subst h0;have h57:=ayw (abH n) st.ah hl st.ah 0 n 0 rfl (by omega) (by omega)
  simp only[ia,ax,au,aw,ak,F65,ath,show ((0:Nat):Int)=0 from rfl,cg] at h57 ⊢;rw[h57];simp only[abH,ak];by_cases h1:512<total st.ah
  ·have u9:(512:Int)<(total st.ah:Int):=by omega
   simp only[h1,u9,aO,aw]
  ·have u9:¬(512:Int)<(total st.ah:Int):=by omega
   simp only[h1,u9,aR,ax,au];by_cases h2:st.ah.length=s.ah.length
   ·have HO:((st.ah.length:Int) !=(s.ah.length:Int))=I:=by simp[h2]
    rw[HO,aG h2,aC (by simp)]
    have h8:=(hs rfl).len;have:=anz lX (hs rfl) n st.ah h2 (by omega) st.ah 0 n rfl (by omega)
    rw[ph,show ((0:Nat):Int)=0 from rfl] at this;exact this
   ·have HO:((st.ah.length:Int) !=(s.ah.length:Int))=M:=by simp;omega
    simp only[HO,aw,h2,au]
 ·have:(e !=0)=M:=by simpa using h0
  simp[this,h0]
end
section
def eG (T:ai) (key row:bt):Bool->bK->bK
 |done,[]=>if done=M then [] else [row]
 |done,r::x=>if dW (fC T r) key<0 then r::eG T key row done x else (if done=M then [] else [row])++(if dW (fC T r) key=0 then [] else [r])++eG T key row M x
section
variable {s:ae} {t n:Nat} {T:ai} {md:Int} {ts:iM} {rows:bK} {key row:bt}
def alX:∀{x:bK},(∀y∈x,lt key (fC T y))->eG T key row M x=x
 | [],_=>rfl
 |r::x,h=>by
  have h1:=h r (by simp)
  have h2:¬dW (fC T r) key<0:=λh=>lt_asymm h1 (zZ.1 h)
  have h3:¬dW (fC T r) key=0:=λe=>by rw[uE e] at h1;exact lt_irrefl _ h1
  have ih:=alX (x:=x) λy hy=>h y (by simp[hy])
  simp only[eG,h2,h3,au,aw,jy,VY,ih]
def alY:∀{done:Bool} {x:bK},Ord T x->eG T key row done x=tw T key (if done=M then [] else [row]) x
 |done,[],_=>by simp[eG,tw]
 |done,r::x,h=>by
  obtain ⟨h1,h2⟩:=nK.1 h;by_cases hl:dW (fC T r) key<0
  ·have Ea:=zZ.1 hl;have e1:iL (lt (fC T r) key)=M:=by simpa using Ea
   have e2:iL (lt key (fC T r))=I:=by simpa using lt_asymm Ea
   have ih:=alY (done:=done) h2;simp only[eG,hl,aw,ih,tw,jc,e1,e2,ax,au,wa]
  ·have Ea:¬lt (fC T r) key:=λh=>hl (zZ.2 h)
   have gt:∀y∈x,lt key (fC T y):=λy hy=>by
    rcases LV (fC T r) key with h|h|h
    ·exact absurd h Ea
    ·rw[<-h];exact h1 y hy
    ·exact lt_trans h (h1 y hy)
   have e1:iL (lt (fC T r) key)=I:=by simpa using Ea
   have e3:x.filter (λr=>iL (lt (fC T r) key))= []:=filter_none λy hy=>by simpa using lt_asymm (gt y hy)
   have e4:x.filter (λr=>iL (lt key (fC T r)))=x:=filter_all λy hy=>by simpa using gt y hy
   simp only[eG,hl,au,alX gt,tw,jc,e1,e3,e4,ax,jy];by_cases h0:dW (fC T r) key=0
   ·have e5:iL (lt key (fC T r))=I:=by
     rw[uE h0];simpa using lt_irrefl key
    simp only[h0,aw,e5,ax,au,r4]
   ·have e5:iL (lt key (fC T r))=M:=by
     rcases LV (fC T r) key with h|h|h
     ·exact absurd h Ea
     ·exact absurd (uD.2 h) h0
     ·simpa using h
    simp only[h0,au,e5,aw,j8,VY]
def Qf {T:ai} (k:bt):∀rows:bK,(rows.filter λr=>iL (lt (fC T r) k)).length+(rows.filter λr=>iL (lt k (fC T r))).length<=rows.length
 | []=>by simp
 |r::rows=>by
  have ih:=Qf (T:=T) k rows;rw[jc,jc];by_cases h1:lt (fC T r) k
  ·have h2:¬lt k (fC T r):=lt_asymm h1;simp only[h1,h2,aO,aR,aw,ax,au,iu];omega
  ·by_cases h2:lt k (fC T r)
   ·simp only[h1,h2,aO,aR,aw,ax,au,iu];omega
   ·simp only[h1,h2,aR,ax,au,iu];omega
def aff {T:ai} (k:bt) (N rows:bK):(tw T k N rows).length<=rows.length+N.length:=by
 have:=Qf (T:=T) k rows;unfold tw;simp only[gy];omega
def YP (n0:Nat) (hT:s.ah[t]? =V T) (ht:km T) (hkl:key.length<=100) (B6:row.length<=100) (hr:∀r∈rows,r.length=T.ag.length) (yP:rows.length<=1000) (mH:t<ts.length):∀(x:bK) (i m:Nat) (done:Bool) (out:bK) (z1 z2:aF),rows.drop i=x->x.length+1100<m->out.length+2*x.length<=100000->
  Kk (T9 n0) m (t:Int) key row done rows (rows.length:Int) (i:Int) ts s z1 z2 out=V (⟨ts.set t (out++eG T key row done x)⟩,ts.set t (out++eG T key row done x))
 | [],i,m+1,done,out,z1,z2,hd,hm,ho=>by
  have Cn:rows.length<=i:=by simpa using hd
  have hq:¬((i:Int)<(rows.length:Int)):=by omega
  have e1:dX ts.length (t:Int)=V t:=by unfold dX;rw[aG (by omega)];rfl
  have e2:ts[0+t]? =V ts[t]:=by rw[cg];exact cZ mH
  have e3:∀o,setAt ts (0+t) o=V (ts.set t o):=λo=>by rw[cg];unfold setAt;rw[aG mH]
  simp only[Kk,abM,T9,abL,hq,aR,ax,au,e1,e2,e3,ak,IQ (n:=n0) row (by omega),eG]
  cases done with
  |true=>simp
  |false=>
   simp only[gq,aw,ax,au];rw[dx _ _ (by simp at ho ⊢;omega),ak]
 |r::x,i,m+1,done,out,z1,z2,hd,hm,ho=>by
  obtain ⟨g1,g2,g3,hq⟩:=dK hd
  have qD:=hr r (bQ g1);have eY:=ht.cols;have yk:=ht.jF;simp at hm ho;have xa:idx s.ah (t:Int)=V T:=by rw[bB];exact hT
  have step:∀(dn:Bool) (c:Int) (afn:bK),afn.length<=out.length+1->PK (Kk (T9 n0) m) m (t:Int) key row dn r c rows (rows.length:Int) (i:Int) ts s ⟨ts⟩ ⟨[]⟩ afn=V (⟨ts.set t (afn++(if c=0 then [] else [r])++eG T key row dn x)⟩,ts.set t (afn++(if c=0 then [] else [r])++eG T key row dn x)):=by
   intro dn c afn h1;unfold PK;rw[bT g3 (by omega)]
   by_cases hc:c=0
   ·subst hc;simp only[ia,ax,au,aw,r4];exact YP n0 hT ht hkl B6 hr yP mH x (i+1) m dn _ _ _ g2 (by omega) (by omega)
   ·have nL:(c !=0)=M:=by simpa using hc
    simp only[nL,aw,hc,au];rw[dx _ _ (by simp;omega),ak]
    exact YP n0 hT ht hkl B6 hr yP mH x (i+1) m dn _ _ _ g2 (by omega) (by simp;omega)
  simp only[Kk,abM,hq,aO,aw,bB,g1,ak,M5 (n:=m) xa ht r qD,M6 m (r.take T.aH.toNat) key (by simp;omega) (by simp;omega),IQ (n:=m) row (by omega),eG]
  by_cases hl:dW (fC T r) key<0
  ·have h0:¬dW (fC T r) key=0:=by omega
   simp only[hl,aO,dd,ax,au,aw];rw[step done _ out (by omega)]
   simp only[h0,au,j8,VY]
  ·simp only[hl,aR,gq,aw,au];cases done with
   |true=>
    simp only[dd,ax,au,aw,jy];rw[step M _ out (by omega)]
    simp only[j8]
   |false=>
    simp only[gq,aw,ax,au];rw[dx _ _ (by simp;omega),ak,step M _ _ (by simp)]
    simp only[j8]
 |_,_,0,_,_,_,_,_,hm,_=>by simp at hm
def rL:bK:=if ge= [] then [] else [ge]
def anM (hT:s.ah[t]? =V T) (ht:km T) (hkl:key.length<=100) (B6:row.length<=100) (j4:ts[t]? =V rows) (hr:∀r∈rows,r.length=T.ag.length) (yP:rows.length<=1000) (hO:Ord T rows) (hn:3000<n):
  F51 n s ⟨ts⟩ (t:Int) key row=V (⟨ts.set t (tw T key (rL row) rows)⟩,ts.set t (tw T key (rL row) rows)):=by
 have mH:t<ts.length:=(bO.1 j4).1;have e1:dX ts.length (t:Int)=V t:=by unfold dX;rw[aG (by omega)];rfl
 unfold F51 ato;simp only[e1,ak,cg,j4];have h:=YP (key:=key) n hT ht hkl B6 hr yP mH rows 0 n ((row.length:Int)==0) [] ⟨ts⟩ ⟨[]⟩ rfl (by omega) (by simp;omega)
 rw[show ((0:Nat):Int)=0 from rfl,jy,alY hO] at h;rw[h,afL];have:(if row.isEmpty=M then [] else [row])=rL row:=by unfold rL;cases row<;>simp
 rw[this]
end
structure StM (md:Int) (s:ae) (ts:iM):Prop where
 len:ts.length=s.ah.length
 row:∀(t:Nat) T rows,s.ah[t]? =V T->ts[t]? =V rows->(∀r∈rows,gB md T.aH 0 (eh T) r=M)/\Ord T rows
structure vQ (md:Int) (s:ae) (ts:iM):Prop where
 len:ts.length=s.ah.length
 row:∀(t:Nat) T rows,s.ah[t]? =V T->ts[t]? =V rows->rows.length<=8/\∀r∈rows,gB md T.aH 0 (eh T) r=M
 ord:∀(t:Nat) T rows,s.ah[t]? =V T->ts[t]? =V rows->Ord T rows
def vQ.m {md:Int} {s:ae} {ts:iM} (h:vQ md s ts):StM md s ts:=⟨h.len,λt T rows hT hr=>⟨(h.row t T rows hT hr).2,h.ord t T rows hT hr⟩⟩
def anE (md:Int) (k:Int->Int->Int->aN->ae->aF->aF->cJ->Z (aF×aN)) (s:ae) (t:Nat) (T:ai) (hT:s.ah[t]? =V T) (ht:km T) (a1 a2:Int) (Q:aF×aN->Prop):∀(j m:Nat) (c:aN) (z1 z2:aF) (ts:cJ) (rows:bK),4000+j<m->cV c->ts[t]? =V rows->rows.length+j<=8->(∀r∈rows,gB md T.aH 0 (eh T) r=M)->Ord T rows->
  (∀c' z1' z2' wh,cV c'->wh.length<=8->(∀r∈wh,gB md T.aH 0 (eh T) r=M)->Ord T wh->Ok (k md a1 a2 c' s z1' z2' (ts.set t wh)) Q)->
  Ok (Pu k m md (t:Int) (j:Int) a1 a2 c s z1 z2 ts) Q
 |0,m+1,c,z1,z2,ts,rows,hm,hc,hg,hl,hr,hO,hk=>by
  have hq:¬(0:Int)<((0:Nat):Int):=by omega
  simp only[Pu,acx,hq,aR,ax,au];have:=hk c ⟨[]⟩ ⟨ts⟩ rows hc (by omega) hr hO
  have e:ts.set t rows=ts:=by
   obtain ⟨h1,h2⟩:=bO.1 hg;rw[<-h2];exact Lb h1
  rwa[e] at this
 |j+1,m+1,c,z1,z2,ts,rows,hm,hc,hg,hl,hr,hO,hk=>by
  have hq:(0:Int)<((j+1:Nat):Int):=by omega
  have xa:idx s.ah (t:Int)=V T:=by rw[bB];exact hT
  have eY:=ht.cols;have hkl:=pF T;simp only[Pu,acx,hq,aO,aw,TS xa (by omega) (by omega:1000<m),ak,xa]
  refine Ok.bind (aGk m md (by omega) c (eh T) T.aH ht.ks (by omega) hc) λr ⟨h1,h2⟩=> ?_
  have qD:=gT h2;have k1:=ht.uL;have k2:=ht.jF;rw[M5 (n:=m) xa ht r.1 qD,ak];rw[anM (n:=m) hT ht (by simp;omega) (by omega) hg (λy hy=>gT (hr y hy)) (by omega) hO (by omega),ak]
  have cQ:r.1≠ []:=λe=>by rw[e] at qD;simp at qD;omega
  have e1:rL r.1= [r.1]:=by unfold rL;rw[aC cQ]
  rw[e1];have q2:=aff (T:=T) (fC T r.1) [r.1] rows;have q4:=afe (T:=T) hO (.inr ⟨r.1,rfl,rfl⟩: [r.1]= []\/∃y,[r.1]= [y]/\fC T y=fC T r.1);have q3:∀y∈tw T (fC T r.1) [r.1] rows,gB md T.aH 0 (eh T) y=M:=λy hy=>by
   rcases Ab.1 hy with h|h
   ·exact hr y h.1
   ·rw[gL.1 h];exact h2
  generalize tw T (fC T r.1) [r.1] rows=wh at q2 q3 q4;simp at q2;have hw:aW (((j+1:Nat):Int)-1)=(j:Int):=by rw[cU (by omega) (by omega)];omega
  rw[hw];have mH:t<ts.length:=(bO.1 hg).1;refine anE md k s t T hT ht a1 a2 Q j m r.2 _ _ (ts.set t wh) wh (by omega) h1 (by rw[nf mH]) (by omega) q3 q4 λc' z1' z2' aJF k1 k2 k3 k4=> ?_
  rw[vX];exact hk c' z1' z2' aJF k1 k2 k3 k4
 |_,0,_,_,_,_,_,hm,_,_,_,_,_,_=>by omega
def anD (md:Int) (n0:Nat) (s:ae) (hs:qI s):∀(x:bw) (i m:Nat) (c:aN) (z1 z2:aF) (ts:cJ),s.ah.drop i=x->4100+x.length<m->cV c->vQ md s ts->(∀t,i<=t->t<ts.length->ts[t]? =V [])->
  Ok (Kq (Ut n0) m md (s.ah.length:Int) (i:Int) c s z1 z2 ts) λr=>cV r.2/\vQ md s r.1.ah
 | [],i,m+1,c,z1,z2,ts,hd,hm,hc,mH,h0=>by
  obtain ⟨this,hq⟩:=eA hd
  simp only[Kq,acv,Ut,hq,aR,ax,au];exact Ok.pure ⟨hc,mH⟩
 |T::x,i,m+1,c,z1,z2,ts,hd,hm,hc,mH,h0=>by
  obtain ⟨g1,g2,g3,hq⟩:=dK hd
  have hl8:=hs.len;have ht:=hs.bY (i:Int) T (by rw[bB];exact g1)
  simp at hm;simp only[Kq,acv,hq,aO,aw];refine Ok.bind (jT m c 5 hc) λr ⟨hr,r0,r1,_⟩=> ?_
  have r1:=r1 (by omega)
  have e:r.1=((r.1.toNat:Nat):Int):=by omega
  rw[e];refine anE md (acw (Kq (Ut n0) m) m) s i T g1 ht _ _ _ r.1.toNat m r.2 _ _ ts [] (by omega) hr (h0 i (de _) (by rw[mH.len];omega)) (by simp;omega) (by simp) (by simp[Ord]) λc' z1' z2' wh k1 k2 k3 k4=> ?_
  unfold acw;rw[bT g3 (by omega)]
  refine anD md n0 s hs x (i+1) m c' _ _ _ g2 (by omega) k1 ⟨by rw[ld];exact mH.len,λt T' rows j6 j4=> ?_,λt T' rows j6 j4=> ?_⟩ λt h1 h2=> ?_
  ·by_cases hti:t=i
   ·subst hti;rw[g1] at j6;cases j6;rw[nf (by rw[mH.len];omega)] at j4
    cases j4;exact ⟨k2,k3⟩
   ·rw[um (λe=>hti e.symm)] at j4
    exact mH.row t T' rows j6 j4
  ·by_cases hti:t=i
   ·subst hti;rw[g1] at j6;cases j6;rw[nf (by rw[mH.len];omega)] at j4
    cases j4;exact k4
   ·rw[um (λe=>hti e.symm)] at j4
    exact mH.ord t T' rows j6 j4
  ·rw[um (by omega)]
   rw[ld] at h2;exact h0 t (by omega) h2
 |_,_,0,_,_,_,_,_,hm,_,_,_=>by omega
def aUt (hn:5000<=L) (s:ae) (hs:qI s) (c:aN) (hc:cV c):Ok (F19 L c s B) λr=>cV r.2/\vQ B s r.1.ah:=by
 have hl8:=hs.len;have e:tu (s.ah.length:Int) ([]:bK)=V (V' s.ah.length []):=by
  unfold tu;rw[aG (by omega)];rfl
 unfold F19 atD;rw[e,ak];refine anD B L s hs s.ah 0 L c _ _ _ rfl (by omega) hc ⟨by simp,λt T rows hT j4=> ?_,λt T rows hT j4=> ?_⟩ λt _ h=> ?_
 ·obtain ⟨h1,h2⟩:=bO.1 j4;simp at h2;subst h2;simp
 ·obtain ⟨h1,h2⟩:=bO.1 j4;simp at h2;subst h2;simp[Ord]
 ·rw[vY] at h;simp[h]
end
def jV:Int:=if D.bf=7 then (if E=D.av then -1 else if D.av<E then E-1 else E) else E
def KY:Int:=if B=E then H else if E<B/\B<=H then B-1 else if H<=B/\B<E then B+1 else B
def o9:Int:=
 if D.bf=7 then (if E=D.av then -1 else H)
 else if D.bf=2 then (if E=D.av/\0<=H then (if H=D.aY then -1 else if D.aY<H then H-1 else H) else H)
 else if D.bf=3 then (if E=D.av/\0<=H then KY H D.aY D.kr else H) else H
def tJ:Bool:= !(iL (D.bf=7/\E=D.av)||decide (D.bf=2/\E=D.av/\0<=H/\H=D.aY))
def aoj (hm:mU D.aY) (t c:Int) (h0:0<=t) (h1:t<=1000) (h2: -1<=c) (h3:c<=1000):Y4 A D t c=V (jV D t,o9 D t c,tJ D t c):=by
 have w:∀x:Int,0<=x->x<=1000->aW (x-1)=x-1:=λx a b=>cU (by omega) (by omega)
 unfold Y4 VG jV o9 tJ;by_cases e7:D.bf=7
 ·simp only[e7,iz,aw];by_cases et:t=D.av
  ·simp[et]
  ·have et':(t==D.av)=I:=by simpa using et
   simp only[et',ax,au,et];by_cases hl:D.av<t
   ·simp[hl,w t h0 h1]
   ·simp[hl]
 ·have e7':(D.bf==7)=I:=by simpa using e7
  simp only[e7',ax,au,e7];by_cases e2:D.bf=2
  ·simp only[e2,iz,aw];by_cases et:t=D.av
   ·have et':(t==D.av)=M:=by simpa using et
    simp only[et',aw];by_cases hc:c<0
    ·have:¬0<=c:=by omega
     simp[hc,et,this]
    ·have hc0:0<=c:=by omega
     simp only[hc,aR,gq,aw];by_cases ec:c=D.aY
     ·have:0<=D.aY:=by omega
      simp[et,ec,this]
     ·have ec':(c==D.aY)=I:=by simpa using ec
      simp only[ec',ax,au];by_cases hl:D.aY<c
      ·simp[hl,et,hc0,ec,w c hc0 h3]
      ·simp[hl,et,hc0,ec]
   ·have et':(t==D.av)=I:=by simpa using et
    simp[et',et]
  ·have ME:(D.bf==2)=I:=by simpa using e2
   simp only[ME,ax,au,e2];by_cases e3:D.bf=3
   ·simp only[e3,iz,aw];by_cases et:t=D.av
    ·have et':(t==D.av)=M:=by simpa using et
     simp only[et',aw];by_cases hc:c<0
     ·have:¬0<=c:=by omega
      simp[hc,et,this]
     ·have hc0:0<=c:=by omega
      simp only[hc,aR,gq,aw];rw[aod A c D.aY D.kr ⟨by omega,by omega⟩ hm,ak]
      simp[et,hc0,KY]
    ·have et':(t==D.av)=I:=by simpa using et
     simp[et',et]
   ·have e3':(D.bf==3)=I:=by simpa using e3
    simp[e3',e3]
def auV {l:List J} {j a:Nat} {g6 T:J} (h:l[a]? =V T):(l.set j g6)[a]? =V (if a=j then g6 else T):=by
 have hl:=(bO.1 h).1;by_cases e:a=j
 ·subst e;rw[nf hl,aG rfl]
 ·rw[um (wO e),h,aC e]
def KndP:Prop:=K.length<=1000/\∀p∈K,p.f0.aD=p.f1.aD
def eu:bX->Int->Int
 | [],t=>t
 |m::ms,t=>if jV m t<0 then -1 else eu ms (jV m t)
def gF.knd {k:Int} (h:gF l) (hp:wT k l=M):KndP l:=by
 have hm:=Jt hp;rcases h with ⟨a,rfl⟩|⟨a,b,_,rfl⟩
 ·exact ⟨by simp,λp hp=>by rw[gL.1 hp]⟩
 ·have h1:=(hm ⟨a,b⟩ (by simp)).2
  have h2:=(hm ⟨b,a⟩ (by simp)).2
  refine ⟨by simp,λp hp=> ?_⟩
  rcases da.1 hp with rfl|hp
  ·exact h1.trans h2.symm
  ·rw[gL.1 hp];exact h2.trans h1.symm
section
def dA.drop:∀{k:Nat} {s:ae} {ms:bX} {ts:fU},fL s=0->dA s ms ts->k<=ts.length->∃u,(s::ts)[k]? =V u/\(s::ts).drop k=u::ts.drop k/\dA u (ms.drop k) (ts.drop k)/\fL u=0/\(u::ts.drop k).getLast (by simp)=(s::ts).getLast (by simp)
 |0,s,ms,ts,hs,hc,_=>⟨s,rfl,rfl,by simpa using hc,hs,by simp⟩
 |k+1,s,m::ms,t::ts,hs,hc,hk=>by
  obtain ⟨u,h1,h2,h3,h4,h5⟩:=dA.drop (k:=k) hc.2.2.1 hc.2.2.2 (by simpa using hk)
  refine ⟨u,by simpa using h1,?_,by simpa using h3,h4,?_⟩
  ·simpa using h2
  ·rw[List.getLast_cons (by simp:t::ts≠ [])]
   simpa using h5
 |k+1,_,[],[],_,_,hk=>by simp at hk
 |k+1,_,[],_::_,_,h,_=>by cases h
 |k+1,_,_::_,[],_,h,_=>by cases h
section
variable {n:Nat} {s:ae} {ms:bX} {ts:fU} {k:Nat}
def ayN (hn:1800000<n) (fw:n<4294967296) (hs:fL s=0) (hm:∀m∈ms,MB m/\(m.bf=8->gF m.ck)) (hl:ms.length<=8) (hv:s.ay+(ms.length:Int)<=1000) (hc:dA s ms ts) (hk:k<=ts.length):
  F54 n s ms (s.ay+(k:Int))=V (⟨(s::ts).drop k,ms.drop k⟩,0):=by
 have hlen:=hc.len;have hv0:=(SG.of hs).v0;have w:aW (s.ay+(k:Int)-s.ay)=(k:Int):=by rw[cU (by omega) (by omega)];omega
 have q1:¬(s.ay+(k:Int)<s.ay):=by omega
 have q2:(k:Int)<((s::ts).length:Int):=by rw[iu];omega
 unfold F54 atm;rw[aOS n hn fw s hs ms hm hl hv ts hc,ak];simp only[ia,ax,au,q1,aR,w,q2,aO,dd];rw[Rf (by simp;omega),ak,Rf (by omega),ak]
def ayM {u:ae} {r:fU} (hr:r.length<=1000):F55 n ⟨u::r,ms⟩=V ((u::r).getLast (by simp)):=by
 have hL:(u::r).length=r.length+1:=rfl;have w:aW (((u::r).length:Int)-1)=(((u::r).length-1:Nat):Int):=by rw[cU (by rw[hL];omega) (by rw[hL];omega),hL];omega
 unfold F55 atl;show (idx (u::r) (aW (((u::r).length:Int)-1))).bind _=_;rw[w,bB,acG];rfl
def aia {u:ae} {r:fU}:F56 n ⟨u::r,ms⟩=V u:=rfl
end
section
variable {s:ae} {ms:bX} {ts:fU} {a:Nat} {T:ai}
end
section
variable {N:ae} {ms:bX} {a:Int} {w:Nat} {T:ai} {row:bt} {ps:kJ}
end
end
section
section
variable {s:ae} {T:ai} {md:Int} {ts:iM}
def aeQ:∀{rs:bK} {p:Z bt},(∀r∈rs,gB md T.aH 0 (eh T) r=M)->(∀q,p=V q->∀r∈rs,lt (fC T q) (fC T r))->Ord T rs->AE md T p rs=M
 | [],p,_,_,_=>by simp[AE]
 |r::rs,p,h1,h2,h3=>by
  obtain ⟨h4,h5⟩:=nK.1 h3;simp only[AE,bG];refine ⟨h1 r (by simp),?_,aeQ (λy hy=>h1 y (by simp[hy])) (λq hq y hy=> ?_) h5⟩
  ·cases p with
   |none=>rfl
   |some q=>simp only[behind,jA];exact zZ.2 (h2 q rfl r (by simp))
  ·cases hq;exact h4 y hy
def acY:∀{Ts:bw} {rss:iM},(∀(t:Nat) T rows,Ts[t]? =V T->rss[t]? =V rows->AE md T G rows=M)->Cw md Ts rss=M
 | [],_,_=>by simp[Cw]
 |_::_,[],_=>by simp[Cw]
 |T::Ts,rs::rss,h=>by
  simp only[Cw,bG];exact ⟨h 0 T rs rfl rfl,acY λt g6 rows h1 h2=>h (t+1) g6 rows (by simpa using h1) (by simpa using h2)⟩
def StM.kj (h:StM md s ts) (ht:total ts<=512):RZ md s 0 ts=0:=by
 unfold RZ;rw[aG rfl,aC (by omega),aG h.len,acY λt T rows h1 h2=>by
  obtain ⟨r1,r2⟩:=h.row t T rows h1 h2;exact aeQ r1 (by simp) r2,aG rfl]
end
def acW:∀{ts:iM},(∀rs∈ts,rs.length<=8)->total ts<=8*ts.length
 | [],_=>by simp[total]
 |rs::ts,h=>by
  have h1:=h rs (by simp)
  have h2:=acW (ts:=ts) λr hr=>h r (by simp[hr])
  simp only[total,iu];omega
def vQ.tot {md:Int} {s:ae} {ts:iM} (h:vQ md s ts):total ts<=8*ts.length:=acW λrs yP=>by
 obtain ⟨t,ht⟩:=V0 yP;have HJ:=(bO.1 ht).1;have hT:t<s.ah.length:=by rw[<-h.len];exact HJ
 exact (h.row t s.ah[t] rs (cZ hT) ht).1
end
def wK (m:aE) (a:Nat) (T T':ai):Prop:=T'.aH=T.aH/\∀(c:Nat) x,T.ag[c]? =V x->
 (tJ m a c=M/\∃(d:Nat) (y:cA),o9 m a c=(d:Int)/\T'.ag[d]? =V y/\y.aD=x.aD/\((c:Int)<T.aH->d=c))\/
 (tJ m a c=I/\jt m.bj=M/\o9 m a c= -1/\m.bj.aD=x.aD/\T.aH<=(c:Int))
def wK.same {m:aE} {a:Nat} {T g6:ai} (h7:¬(m.bf=7/\(a:Int)=m.av)) (h2:¬(m.bf=2/\(a:Int)=m.av)) (h3:¬(m.bf=3/\(a:Int)=m.av)) (hk:g6.aH=T.aH) (hc:∀(c:Nat) x,T.ag[c]? =V x->∃y,g6.ag[c]? =V y/\y.aD=x.aD):wK m a T g6:=⟨hk,λc x hx=>by
 obtain ⟨y,y1,y2⟩:=hc c x hx;refine .inl ⟨?_,c,y,?_,y1,y2,λ_=>rfl⟩
 ·simp only[tJ];rw[Dt h7,Dt λe=>h2 ⟨e.1,e.2.1⟩];rfl
 ·unfold o9;split
  ·rw[aC λe=>h7 ⟨‹_›,e⟩]
  ·split
   ·rw[aC λe=>h2 ⟨‹_›,e.1⟩]
   ·split
    ·rw[aC λe=>h3 ⟨‹_›,e.1⟩]
    ·rfl⟩
def JU:o9 D E (-1)= -1:=by
 unfold o9;split
 ·split<;>rfl
 ·split
  ·rw[aC λe=>absurd e.2 (by omega)]
  ·split
   ·rw[aC λe=>absurd e.2 (by omega)]
   ·rfl
def Q5 {m:aE} {t:Int} (h:m.bf=7->t≠m.av):tJ m t (-1)=M:=by
 simp only[tJ];rw[Dt λe=>h e.1 e.2,Dt λe=>absurd e.2.2.1 (by omega)];rfl
def kS.agF {s t':ae} {m:aE} (h:kS s m t') {a:Nat} {T:ai} (hT:s.ah[a]? =V T):(m.bf=7/\(a:Int)=m.av)\/
  ((m.bf=7->(a:Int)≠m.av)/\∃(a':Nat) (T':ai),jV m (a:Int)=(a':Int)/\t'.ah[a']? =V T'/\wK m a T T'):=by
 have keep:∀(g6:ai) (j:Nat) (ts:bw),m.bf≠7->m.av=(j:Int)->(a=j->wK m a T g6)->ts=s.ah.set j g6->(m.bf=7->(a:Int)≠m.av)/\∃(a':Nat) (T':ai),jV m (a:Int)=(a':Int)/\ts[a']? =V T'/\wK m a T T':=by
  intro g6 j ts n7 hj hU e;subst e;refine ⟨λh=>absurd h n7,a,_,by simp[jV,n7],auV hT,?_⟩
  split
  ·exact hU ‹_›
  ·rename_i ne;have et:¬(a:Int)=m.av:=by omega
   exact wK.same (λh=>et h.2) (λh=>et h.2) (λh=>et h.2) rfl λc x hx=>⟨x,hx,rfl⟩
 cases h with
 |arx j T0 h hj vG hv hk=>
  refine .inr (keep _ j _ (by omega) hj (λe=> ?_) rfl)
  subst e;rw[hT] at vG;cases vG;exact wK.same (by omega) (by omega) (by omega) rfl λc x hx=>⟨x,by
   show (T.ag++_)[c]? =_;rw[pd (bO.1 hx).1];exact hx,rfl⟩
 |apc j c0 T0 x0 h hj vG hc Me=>
  refine .inr (keep _ j _ (by omega) hj (λe=> ?_) rfl)
  subst e;rw[hT] at vG;cases vG;exact wK.same (by omega) (by omega) (by omega) rfl λc x hx=>⟨_,auV hx,by
   split
   ·rename_i e;subst e;rw[Me] at hx;cases hx;rfl
   ·rfl⟩
 |apb j T0 h hj vG=>
  refine .inr (keep _ j _ (by omega) hj (λe=> ?_) rfl)
  subst e;rw[hT] at vG;cases vG;exact wK.same (by omega) (by omega) (by omega) rfl λc x hx=>⟨x,hx,rfl⟩
 |DK j c0 T0 x0 h hj vG hc hx hk hp hu=>
  exact .inr ⟨λe=>by omega,a,T,by simp[jV,h],hT,wK.same (by omega) (by omega) (by omega) rfl λc x hx=>⟨x,hx,rfl⟩⟩
 |arw h=>
  exact .inr ⟨λe=>by omega,a,T,by simp[jV,h],by
   show (s.ah++ [m.bp])[a]? =V T;rw[pd (bO.1 hT).1,hT],wK.same (by omega) (by omega) (by omega) rfl λc x hx=>⟨x,hx,rfl⟩⟩
 |aaT j T0 h hj vG hr=>
  by_cases e:(a:Int)=m.av
  ·exact .inl ⟨h,e⟩
  ·have ne:a≠j:=λh=>e (by rw[h,hj])
   have Ft:=(bO.1 vG).1;have fin:∀a':Nat,(s.ah.take j++s.ah.drop (j+1))[a']? =V T->jV m (a:Int)=(a':Int)->((m.bf=7->(a:Int)≠m.av)/\∃(a':Nat) (T':ai),jV m (a:Int)=(a':Int)/\((s.ah.take j++s.ah.drop (j+1)).map (mY (j:Int)))[a']? =V T'/\wK m a T T'):=λa' ha' hf=>
    ⟨λ_=>e,a',mY (j:Int) T,hf,by rw[nQ,ha'];rfl,wK.same (λq=>e q.2) (λq=>e q.2) (λq=>e q.2) rfl λc x hx=>⟨x,hx,rfl⟩⟩
   right;by_cases hl:j<a
   ·refine fin (a-1) ?_ ?_
    ·rw[nF (by rw[dz];omega),dz,fo (by omega),fp,show j+1+(a-1-j)=a by omega,hT]
    ·have:m.av<(a:Int):=by omega
     simp only[jV,h,e,this,aw,au];omega
   ·refine fin a ?_ ?_
    ·rw[pd (by rw[dz];omega),eZ,aG (by omega),hT]
    ·have:¬m.av<(a:Int):=by omega
     simp[jV,h,e,this]
 |aaU j c0 T0 x0 h hj vG hc Me hk hv yj hu=>
  refine .inr (keep _ j _ (by omega) hj (λe=> ?_) rfl)
  subst e;rw[hT] at vG;cases vG;have hl:c0<T.ag.length:=(bO.1 Me).1;have et:(a:Int)=m.av:=hj.symm;refine ⟨rfl,λc x hx=> ?_⟩
  have eY:=(bO.1 hx).1;have ec:o9 m a c=if (c:Int)=m.aY then -1 else if m.aY<(c:Int) then (c:Int)-1 else (c:Int):=by simp[o9,h,et]
  have es:tJ m a c= !iL ((c:Int)=m.aY):=by simp[tJ,h,et]
  rw[ec,es,hc];by_cases q:c=c0
  ·subst q;rw[Me] at hx;cases hx;exact .inr ⟨by simp,hv,by simp,yj,hk⟩
  ·have q':¬(c:Int)=(c0:Int):=by omega
   refine .inl ⟨by simp[q'],if c0<c then c-1 else c,x,?_,?_,rfl,λhq=> ?_⟩
   ·rw[aC q'];split<;>split<;>omega
   ·show (T.ag.take c0++T.ag.drop (c0+1))[_]? =_;split
    ·rw[nF (by rw[dz];omega),dz,fo (by omega),fp,show c0+1+(c-1-c0)=c by omega,hx]
    ·rw[pd (by rw[dz];omega),eZ,aG (by omega),hx]
   ·rw[aC (by omega)]
 |move j c0 d T0 h hj vG hc hd k1 k2 hk yk=>
  refine .inr (keep _ j _ (by omega) hj (λe=> ?_) rfl)
  subst e;rw[hT] at vG;cases vG;have et:(a:Int)=m.av:=hj.symm;refine ⟨rfl,λc x hx=> ?_⟩
  have eY:=(bO.1 hx).1;have ec:o9 m a c=KY c c0 d:=by simp[o9,h,et,hc,hd]
  have es:tJ m a c=M:=by simp[tJ,h]
  rw[ec,es];have hm:0<=KY (c:Int) c0 d/\KY (c:Int) c0 d<(T.ag.length:Int)/\((c:Int)<T.aH->KY (c:Int) c0 d=c):=by
   unfold KY;split
   ·exact ⟨by omega,by omega,by omega⟩
   ·split
    ·exact ⟨by omega,by omega,by omega⟩
    ·split<;>exact ⟨by omega,by omega,by omega⟩
  have hq:((KY (c:Int) c0 d).toNat:Int)=KY (c:Int) c0 d:=VZ hm.1;refine .inl ⟨rfl,(KY (c:Int) c0 d).toNat,x,hq.symm,?_,rfl,λjO=>by have:=hm.2.2 jO;omega⟩
  show (wV T.ag c0 d)[_]? =_;rw[amz k1 k2 (by omega),hq]
  have:fS (d:Int) (c0:Int) (KY (c:Int) c0 d)=(c:Int):=by
   unfold fS KY;repeat' split
   all_goals omega
  rw[this];exact hx
def Cf:Prop:=K.length<=1000/\∀p∈K,p.f0.aD=p.f1.aD/\jt p.f0=M
def abh:Prop:=f8.aD=O.aD/\(jt O=M->jt f8=M)
def ayD (n0:Nat) (l:gf) (hl:Cf l) (v z:aS):∀(x:gf) (i k:Nat),l.drop i=x->x.length<k->Ok (zd (I1 n0) k 1 l (l.length:Int) (i:Int) v z) (abh v)
 | [],i,k+1,hd,hk=>by
  have hq:¬((i:Int)<(l.length:Int)):=by
   have:l.length<=i:=by simpa using hd
   omega
  simp only[zd,I2,hq,aR,ax,au,I1];exact Ok.pure ⟨rfl,id⟩
 |p::x,i,k+1,hd,hk=>by
  obtain ⟨g1,g2,g3,hq⟩:=dK hd
  have Ea:=hl.1;simp at hk;simp only[zd,I2,hq,aO,aw,bB,g1,ak];have e10:((1:Int)==0)=I:=rfl;have e11:((1:Int)==1)=M:=rfl;simp only[e10,e11,ax,au,aw];unfold No;have w0:aW (1-1)=0:=cU (by omega) (by omega)
  rw[w0,bT g3 (by omega)]
  refine Ok.ite (λhe=> ?_) λ_=>ayD n0 l hl v z x (i+1) k g2 (by omega)
  have e00:((0:Int)==0)=M:=rfl;simp only[e00,aw];obtain ⟨p1,p2⟩:=hl.2 p (bQ g1);simp only[bG,sq] at he;exact Ok.pure ⟨p1.trans he.1,λ_=>p2⟩
 |_,_,0,_,hk=>by omega
def aOR (hl:Cf K) (v:aS) (hn:2000<A):Ok (aip A K v 1) (abh v):=
 ayD A K hl v _ K 0 A rfl (by have:=hl.1;omega)
def ayF (n0:Nat) (p:dL) (hp:∀l∈p.cR,Cf l) (hl:p.cR.length<=1000) (z:aS):∀(i k:Nat) (v:aS),i<=p.cR.length->i+2100<k->Ok (ze (I6 n0) k ((i:Int)-1) p v z) λr=>abh v r/\(i=0->r=v)
 |0,k+1,v,_,_=>by
  have hq:(((0:Nat):Int)-1)<0:=by omega
  simp only[ze,I7,hq,aO,dd,ax,au,I6];exact Ok.pure ⟨⟨rfl,id⟩,λ_=>rfl⟩
 |i+1,k+1,v,hi,hk=>by
  have e:(((i+1:Nat):Int)-1)=(i:Int):=by omega
  rw[e];have hq:¬((i:Int)<0):=by omega
  have hg:p.cR[i]? =V p.cR[i]:=cZ (by omega)
  simp only[ze,I7,hq,aR,gq,aw,bB,hg,ak];refine Ok.bind (aOR k _ (hp _ (p6 _)) v (by omega)) λr hr=> ?_
  rw[cU (by omega) (by omega)]
  exact (ayF n0 p hp hl z i k r (by omega) (by omega)).mono λq hq=>⟨⟨hq.1.1.trans hr.1,λh=>hq.1.2 (hr.2 h)⟩,λh=>by omega⟩
 |_,0,_,_,hk=>by omega
def aOV (hp:∀l∈aQ.cR,Cf l) (hl:aQ.cR.length<=1000) (v:aS) (hn:4000<A):Ok (Ry A aQ v) λr=>abh v r/\(aQ.cR= []->r=v):=by
 unfold Ry VI;rw[cU (by omega) (by omega)]
 exact (ayF A aQ hp hl _ aQ.cR.length A v (de _) (by omega)).mono λr hr=>⟨hr.1,λh=>hr.2 (by rw[h];rfl)⟩
section
def AtK (T:ai) (c:Int) (sv:Bool) (fx:aS) (k0 c0:Int):Prop:=(c0<0/\c= -1/\sv=M)\/(0<=c0/\sv=M/\∃(d:Nat) (y:cA),c=(d:Int)/\T.ag[d]? =V y/\y.aD=k0/\(c0<T.aH->c=c0))\/(0<=c0/\sv=I/\c= -1/\jt fx=M/\fx.aD=k0/\T.aH<=c0)
def AtK.rng {T:ai} {k0 c0:Int} {fx:aS} (h:AtK T c sv fx k0 c0): -1<=c/\c<(T.ag.length:Int):=by
 rcases h with ⟨_,h,_⟩|⟨_,_,d,y,h1,h2,_⟩|⟨_,_,h,_⟩
 ·omega
 ·have:=(bO.1 h2).1;omega
 ·omega
structure arR (sN:ae) (w B0 k0 c0:Int) (p:dL):Prop where
 bY:p.gM=w
 afb:∀l∈p.cR,Cf l
 few:p.cR.length<=1000
 off:w<0->p.dI=I
 on:0<=w->∃(a:Nat) (T:ai),w=(a:Int)/\sN.ah[a]? =V T/\T.aH=B0/\AtK T p.fP p.dI p.fO k0 c0/\(0<=c0->c0<B0->p.cR= [])
def gF.kndR {k:Int} (h:gF l) (hp:wT k l=M):Cf l:=by
 obtain ⟨h1,h2⟩:=h.knd hp;exact ⟨h1,λp hm=>⟨h2 p hm,(Jt hp p hm).1⟩⟩
def arY (n0:Nat) (all:bX) (hl:all.length<=8) (B0 k0 c0:Int) (gS:∀m∈all,MB m/\(m.bf=8->gF m.ck)) (b6:dL):∀(x:bX) (i k:Nat) (s:ae) (ts:fU) (a:Nat) (T:ai) (c:Int) (p:dL),all.drop i=x->x.length+5000<k->k<4294967296->fL s=0->dA s x ts->s.ah[a]? =V T->T.aH=B0->AtK T c p.dI p.fO k0 c0->
  p.gM=(a:Int)->p.fP=c->(∀l∈p.cR,Cf l)->p.cR.length<=100+i->i<=8->(0<=c0->c0<B0->p.cR= [])->
  Ok (xn (CW n0) k all (all.length:Int) (i:Int) b6 p p.cR) (arR ((s::ts).getLast (by simp)) (eu x (a:Int)) B0 k0 c0)
 | [],i,k+1,s,ts,a,T,c,p,hd,hk,jO,hs,hc,hT,hK,hA,e1,e2,hr,qD,hi,h0=>by
  obtain rfl:ts= []:=by cases ts with|nil=>rfl|cons=>cases hc
  have hq:¬((i:Int)<(all.length:Int)):=by
   have:all.length<=i:=by simpa using hd
   omega
  simp only[xn,PJ,hq,aR,ax,au,CW];exact Ok.pure ⟨e1,hr,by show p.cR.length<=_;omega,λh=>by simp only[eu] at h;omega,λ_=>⟨a,T,rfl,hT,hK,by show AtK T p.fP _ _ _ _;rw[e2];exact hA,h0⟩⟩
 |m::x,i,k+1,s,ts,a,T,c,p,hd,hk,jO,hs,hc,hT,hK,hA,e1,e2,hr,qD,hi,h0=>by
  obtain ⟨g1,g2,g3⟩:=qg hd;have hm:=gS m (bQ g1);obtain ⟨t',vn,rfl⟩:∃t' vn,ts=t'::vn:=by cases ts with|nil=>cases hc|cons t' vn=>exact ⟨t',vn,rfl⟩
  obtain ⟨hb,kH,D7,nL⟩:=hc;have hG:=SG.of hs;have Fu:=hG.bY T (bQ hT);have eY:T.ag.length<=8:=Fu.cols;have uY:a<8:=by have:=(bO.1 hT).1;have:=hG.len;omega
  obtain ⟨c1,c2⟩:=hA.rng;have hq:(i:Int)<(all.length:Int):=by omega
  have rz:((s::t'::vn).getLast (by simp))=((t'::vn).getLast (by simp)):=by simp
  rw[rz];simp at hk;simp only[xn,PJ,hq,aO,aw,bB,g1,ak];have rest:∀(rs:sW) (b6':dL),(∀l∈rs,Cf l)->rs.length<=101+i->(0<=c0->c0<B0->rs= [])->Ok (AX (xn (CW n0) k) k all (all.length:Int) (i:Int) b6' ⟨p.gM,p.fP,p.dI,p.fO,rs⟩ m rs) (arR ((t'::vn).getLast (by simp)) (eu (m::x) (a:Int)) B0 k0 c0):=λrs b6' yP hrl' hr0=>by
   unfold AX;simp only[e1,e2];rw[aoj k m hm.1.FG (a:Int) c (by omega) (by omega) c1 (by omega),ak]
   rcases kH.agF hT with ⟨h7,ha⟩|⟨hn7,a',T',f1,f2,f3,f4⟩
   ·have:jV m (a:Int)= -1:=by simp[jV,h7,ha]
    simp only[this,show ((-1:Int)<0) from by omega,aO,aw]
    refine Ok.pure ⟨by simp[eu,this],λl hl=>by simp at hl,by simp,λ_=>rfl,λh=> ?_⟩
    simp[eu,this] at h
   ·have dq:¬(jV m (a:Int)<0):=by omega
    have hw:eu (m::x) (a:Int)=eu x (a':Int):=by simp only[eu];rw[aC dq,f1]
    simp only[dq,aR,ax,au];rw[hw,f1];have stay:tJ m a c=M->AtK T' (o9 m a c) p.dI p.fO k0 c0:=λru=>by
     rcases hA with ⟨a1,a2,a3⟩|⟨a1,a2,d,y,a3,a4,a5,a6⟩|⟨a1,a2,a3,a4,a5,a6⟩
     ·exact .inl ⟨a1,by rw[a2,JU],a3⟩
     ·rcases f4 d y a4 with ⟨_,d',y',b1,b2,b3,b4⟩|⟨b1,_⟩
      ·exact .inr (.inl ⟨a1,a2,d',y',by rw[a3,b1],b2,b3.trans a5,λh=>by
        have h6:=a6 (by omega)
        have:=b4 (by omega)
        rw[a3,b1];omega⟩)
      ·rw[a3,b1] at ru;cases ru
     ·exact .inr (.inr ⟨a1,a2,by rw[a3,JU],a4,a5,by omega⟩)
    refine Ok.ite (λru=> ?_) λru=> ?_
    ·have ru:tJ m a c=I:=by simpa using ru
     obtain ⟨a1,d,y,a3,a4,a5,a6⟩:0<=c0/\∃(d:Nat) (y:cA),c=(d:Int)/\T.ag[d]? =V y/\y.aD=k0/\(c0<T.aH->c=c0):=by
      rcases hA with ⟨_,a2,_⟩|⟨a1,_,h⟩|⟨_,_,a2,_⟩
      ·rw[a2,Q5 hn7] at ru;cases ru
      ·exact ⟨a1,h⟩
      ·rw[a2,Q5 hn7] at ru;cases ru
     obtain ⟨hv,hcm,yj,Yx⟩:jt m.bj=M/\o9 m a c= -1/\m.bj.aD=y.aD/\T.aH<=c:=by
      rcases f4 d y a4 with ⟨b1,_⟩|⟨_,b⟩
      ·rw[a3,b1] at ru;cases ru
      ·rw[a3];exact b
     refine Ok.bind (aOV k ⟨(a:Int),c,p.dI,p.fO,rs⟩ yP (by show rs.length<=_;omega) m.bj (by omega)) λy' hy=> ?_
     unfold KB;rw[bT g3 (by omega)]
     exact arY n0 all hl B0 k0 c0 gS _ x (i+1) k t' vn a' T' (o9 m a c) ⟨(a':Int),o9 m a c,I,y',rs⟩ g2 (by omega) (by omega) D7 nL f2 (by omega) (.inr (.inr ⟨a1,rfl,hcm,hy.1.2 hv,hy.1.1.trans (yj.trans a5),by
      by_cases h:c0<T.aH
      ·have:=a6 h;omega
      ·omega⟩)) rfl rfl yP (by show rs.length<=_;omega) (by omega) hr0
    ·have ru:tJ m a c=M:=by simpa using ru
     unfold KB;rw[bT g3 (by omega)]
     exact arY n0 all hl B0 k0 c0 gS _ x (i+1) k t' vn a' T' (o9 m a c) ⟨(a':Int),o9 m a c,p.dI,p.fO,rs⟩ g2 (by omega) (by omega) D7 nL f2 (by omega) (stay ru) rfl rfl yP (by show rs.length<=_;omega) (by omega) hr0
  refine Ok.ite (λh8=>Ok.ite (λht=>Ok.ite (λhc=> ?_) λ_=>rest _ _ hr (by omega) h0) λ_=>rest _ _ hr (by omega) h0) λ_=>rest _ _ hr (by omega) h0
  have h8:m.bf=8:=by simpa using h8
  have ht:m.av=p.gM:=by simpa using ht
  have hc:m.aY=p.fP:=by simpa using hc
  rw[dx _ _ (by simp;omega),ak]
  obtain ⟨hk,Yx⟩:Cf m.ck/\T.aH<=c:=by
   cases kH with
   |DK j c1 T0 x0 h hj vG sR hx hk hp hu=>
    have:j=a:=by omega
    rw[this,hT] at vG;cases vG;exact ⟨(hm.2 h8).kndR hp,by omega⟩
   |_=>omega
  refine rest _ _ (λl hl=>(eV.1 hl).elim (hr l) λh=>by rw[gL.1 h];exact hk) (by simp;omega) λz1 z2=> ?_
  rcases hA with ⟨a1,_⟩|⟨_,_,d,y,_,_,_,a6⟩|⟨_,_,a3,_⟩
  ·omega
  ·have:=a6 (by omega);omega
  ·have:=Fu.uL;omega
 |_,_,0,_,_,_,_,_,_,_,hk,_,_,_,_,_,_,_,_,_,_,_,_=>by omega
def aUn (hn:6000<A) (fw:A<4294967296) (s:ae) (ms:bX) (ts:fU) (hl:ms.length<=8) (gS:∀m∈ms,MB m/\(m.bf=8->gF m.ck)) (hs:fL s=0) (hc:dA s ms ts) {a:Nat} {T:ai} (hT:s.ah[a]? =V T) {k0:Int} (hA:∀fx,AtK T c M fx k0 c):
  Ok (F63 A ms (a:Int) c) (arR ((s::ts).getLast (by simp)) (eu ms (a:Int)) T.aH k0 c):=
 arY A ms hl T.aH k0 c gS _ ms 0 A s ts a T c ⟨(a:Int),c,M,_,[]⟩ rfl (by omega) fw hs hc hT rfl (hA _) rfl rfl (λl hl=>by simp at hl) (by simp) (by omega) (λ_ _=>rfl)
def AtK.FG {T:ai} {c:Nat} {x:cA} (h:T.ag[c]? =V x) (fx:aS):AtK T (c:Int) M fx x.aD (c:Int):=.inr (.inl ⟨by omega,rfl,c,x,rfl,h,rfl,λ_=>rfl⟩)
section
variable {s:ae} {ms:bX} {ts:fU} {a:Nat} {T:ai}
end
end
section
section
variable {N:ae} {w:Nat} {T':ai} {key:Int} {ks:aP} {row:bt} {ps:kJ}
end
section
variable {u N:ae} {ms:bX} {ts r:fU} {st:iM} {a w:Nat} {T T':ai} {ps:kJ} {rows:bK}
end
section
variable {n:Nat} {s u:ae} {ms:bX} {ts:fU} {k:Nat} {st:iM}
end
section
variable {N u:ae} {ms:bX} {st lo:iM}
end
end
def qM:gf->aS->aS
 | [],v=>v
 |p::l,v=>if xQ p.f1 v=M then p.f0 else qM l v
def ve:sW->aS->aS
 | [],v=>v
 |l::ls,v=>qM l (ve ls v)
def J9 (l:gf) (v:aS):∀ls:sW,ve (ls++ [l]) v=ve ls (qM l v)
 | []=>rfl
 |x::ls=>by rw[wa,ve,J9 l v ls];rfl
def anH (n0:Nat) (l:gf) (hl:l.length<=1000) (v z:aS):∀(x:gf) (i k:Nat),l.drop i=x->x.length<k->zd (I1 n0) k 1 l (l.length:Int) (i:Int) v z=V (qM x v)
 | [],i,k+1,hd,hk=>by
  have hq:¬((i:Int)<(l.length:Int)):=by
   have:l.length<=i:=by simpa using hd
   omega
  simp only[zd,I2,hq,aR,ax,au,I1,qM]
 |p::x,i,k+1,hd,hk=>by
  obtain ⟨g1,g2,g3,hq⟩:=dK hd
  simp at hk;have e10:((1:Int)==0)=I:=rfl;have e11:((1:Int)==1)=M:=rfl;have e00:((0:Int)==0)=M:=rfl;have w0:aW (1-1)=0:=cU (by omega) (by omega)
  have ih:=anH n0 l hl v z x (i+1) k g2 (by omega)
  simp only[zd,I2,hq,aO,aw,bB,g1,ak,e10,e11,ax,au,No,w0,bT g3 (by omega:l.length<4294967296),ih,e00]
  by_cases h:xQ p.f1 v=M
  ·rw[show qM (p::x) v=p.f0 from aG h];exact aG h
  ·rw[show qM (p::x) v=qM x v from aC h];exact aC h
 |_,_,0,_,hk=>by omega
def aIG (hl:K.length<=1000) (v:aS) (hn:2000<A):aip A K v 1=V (qM K v):=
 anH A K hl v _ K 0 A rfl (by omega)
def anK (n0:Nat) (p:dL) (hp:∀l∈p.cR,l.length<=1000) (hl:p.cR.length<=1000) (z:aS):∀(i k:Nat) (v:aS),i<=p.cR.length->i+2100<k->ze (I6 n0) k ((i:Int)-1) p v z=V (ve (p.cR.take i) v)
 |0,k+1,v,_,_=>by
  have hq:(((0:Nat):Int)-1)<0:=by omega
  simp only[ze,I7,hq,aO,dd,ax,au,I6,yx,ve]
 |i+1,k+1,v,hi,hk=>by
  have e:(((i+1:Nat):Int)-1)=(i:Int):=by omega
  rw[e];have hq:¬((i:Int)<0):=by omega
  have hg:p.cR[i]? =V p.cR[i]:=cZ (by omega)
  have ih:=anK n0 p hp hl z i k (qM p.cR[i] v) (by omega) (by omega)
  have w:aW ((i:Int)-1)=(i:Int)-1:=cU (by omega) (by omega)
  simp only[ze,I7,hq,aR,gq,aw,bB,hg,ak,aIG k _ (hp _ (p6 _)) v (by omega),w,ih]
  rw[pU,hg,G1,J9]
 |_,0,_,_,hk=>by omega
def aok (hp:∀l∈aQ.cR,l.length<=1000) (hl:aQ.cR.length<=1000) (v:aS) (hn:4000<A):Ry A aQ v=V (ve aQ.cR v):=by
 unfold Ry VI;rw[cU (by omega) (by omega),anK A aQ hp hl _ aQ.cR.length A v (de _) (by omega),uo]
def DL:Bool:=(D.bf==8)&&((D.av==E)&&(D.aY==H))
def lV:bX->Int->Int->(Int->aS)->aS
 | [],_,c,f=>f c
 |m::ms,t,c,f=>if DL m t c=M then qM m.ck (if tJ m t c=M then lV ms (jV m t) (o9 m t c) f else m.bj) else if tJ m t c=M then lV ms (jV m t) (o9 m t c) f else m.bj
def aqY (f:Int->aS):lV (D::al) S ad f=lV [D] S ad λc'=>lV al (jV D S) c' f:=rfl
structure ahq (w:Int) (ex:(Int->aS)->aS) (p:dL):Prop where
 bY:p.gM=w
 afb:∀l∈p.cR,l.length<=1000
 few:p.cR.length<=1000
 val:0<=w->∀f,ex f=if p.dI=M then ve p.cR (f p.fP) else p.fO
def asG (T:ai) (c:Int):Prop:=c= -1\/∃(d:Nat) (y:cA),c=(d:Int)/\T.ag[d]? =V y
def asG.rng {T:ai} (h:asG T c): -1<=c/\c<(T.ag.length:Int):=by
 rcases h with h|⟨d,y,h1,h2⟩
 ·omega
 ·have:=(bO.1 h2).1;omega
def gF.few (h:gF l):l.length<=1000:=by
 rcases h with ⟨a,rfl⟩|⟨a,b,_,rfl⟩<;>simp
def arZ (n0:Nat) (all:bX) (hl:all.length<=8) (gS:∀m∈all,MB m/\(m.bf=8->gF m.ck)) (b6:dL):∀(x:bX) (i k:Nat) (s:ae) (ts:fU) (a:Nat) (T:ai) (c:Int) (p:dL),all.drop i=x->x.length+5000<k->k<4294967296->fL s=0->dA s x ts->s.ah[a]? =V T->asG T c->(p.dI=I->c= -1)->
  p.gM=(a:Int)->p.fP=c->(∀l∈p.cR,l.length<=1000)->p.cR.length<=100+i->i<=8->
  Ok (xn (CW n0) k all (all.length:Int) (i:Int) b6 p p.cR) (ahq (eu x (a:Int)) λf=>if p.dI=M then ve p.cR (lV x (a:Int) c f) else p.fO)
 | [],i,k+1,s,ts,a,T,c,p,hd,hk,jO,hs,hc,hT,hA,hB,e1,e2,hr,qD,hi=>by
  have hq:¬((i:Int)<(all.length:Int)):=by
   have:all.length<=i:=by simpa using hd
   omega
  simp only[xn,PJ,hq,aR,ax,au,CW];exact Ok.pure ⟨e1,hr,by show p.cR.length<=_;omega,λ_ f=>by simp only[lV,e2]⟩
 |m::x,i,k+1,s,ts,a,T,c,p,hd,hk,jO,hs,hc,hT,hA,hB,e1,e2,hr,qD,hi=>by
  obtain ⟨g1,g2,g3⟩:=qg hd;have hm:=gS m (bQ g1);obtain ⟨t',vn,rfl⟩:∃t' vn,ts=t'::vn:=by cases ts with|nil=>cases hc|cons t' vn=>exact ⟨t',vn,rfl⟩
  obtain ⟨hb,kH,D7,nL⟩:=hc;have hG:=SG.of hs;have Fu:=hG.bY T (bQ hT);have eY:T.ag.length<=8:=Fu.cols;have uY:a<8:=by have:=(bO.1 hT).1;have:=hG.len;omega
  obtain ⟨c1,c2⟩:=hA.rng;have hq:(i:Int)<(all.length:Int):=by omega
  simp at hk;simp only[xn,PJ,hq,aO,aw,bB,g1,ak];have rest:∀(rs:sW) (b6':dL),(∀l∈rs,l.length<=1000)->rs.length<=101+i->(∀v,ve rs v=ve p.cR (if DL m (a:Int) c=M then qM m.ck v else v))->Ok (AX (xn (CW n0) k) k all (all.length:Int) (i:Int) b6' ⟨p.gM,p.fP,p.dI,p.fO,rs⟩ m rs) (ahq (eu (m::x) (a:Int)) λf=>if p.dI=M then ve p.cR (lV (m::x) (a:Int) c f) else p.fO):=λrs b6' yP hrl' hrv=>by
   unfold AX;simp only[e1,e2];rw[aoj k m hm.1.FG (a:Int) c (by omega) (by omega) c1 (by omega),ak]
   rcases kH.agF hT with ⟨h7,ha⟩|⟨hn7,a',T',f1,f2,f3,f4⟩
   ·have:jV m (a:Int)= -1:=by simp[jV,h7,ha]
    simp only[this,show ((-1:Int)<0) from by omega,aO,aw]
    refine Ok.pure ⟨by simp[eu,this],λl hl=>by simp at hl,by simp,λh=> ?_⟩
    simp[eu,this] at h
   ·have dq:¬(jV m (a:Int)<0):=by omega
    have hw:eu (m::x) (a:Int)=eu x (a':Int):=by simp only[eu];rw[aC dq,f1]
    simp only[dq,aR,ax,au];rw[hw,f1];refine Ok.ite (λru=> ?_) λru=> ?_
    ·have ru:tJ m a c=I:=by simpa using ru
     obtain ⟨d,y,a3,a4⟩:∃(d:Nat) (y:cA),c=(d:Int)/\T.ag[d]? =V y:=by
      rcases hA with a2|h
      ·rw[a2,Q5 hn7] at ru;cases ru
      ·exact h
     have hsv:p.dI=M:=by
      cases h:p.dI with
      |true=>rfl
      |false=>have:=hB h;omega
     have hcm:o9 m a c= -1:=by
      rcases f4 d y a4 with ⟨b1,_⟩|⟨_,_,b,_⟩
      ·rw[a3,b1] at ru;cases ru
      ·rw[a3];exact b
     rw[aok k ⟨(a:Int),c,p.dI,p.fO,rs⟩ yP (by show rs.length<=_;omega) m.bj (by omega),ak]
     unfold KB;rw[bT g3 (by omega)]
     refine (arZ n0 all hl gS _ x (i+1) k t' vn a' T' (o9 m a c) ⟨(a':Int),o9 m a c,I,ve rs m.bj,rs⟩ g2 (by omega) (by omega) D7 nL f2 (.inl hcm) (λ_=>hcm) rfl rfl yP (by show rs.length<=_;omega) (by omega)).mono λq hq=>⟨hq.bY,hq.afb,hq.few,λh0 f=> ?_⟩
     rw[<-hq.val h0 f];simp only[hsv,aw,ax,au,lV,ru];rw[hrv]
    ·have ru:tJ m a c=M:=by simpa using ru
     unfold KB;rw[bT g3 (by omega)]
     refine (arZ n0 all hl gS _ x (i+1) k t' vn a' T' (o9 m a c) ⟨(a':Int),o9 m a c,p.dI,p.fO,rs⟩ g2 (by omega) (by omega) D7 nL f2 ?_ (λh=>by rw[hB h,JU]) rfl rfl yP (by show rs.length<=_;omega) (by omega)).mono λq hq=>⟨hq.bY,hq.afb,hq.few,λh0 f=> ?_⟩
     ·rcases hA with a2|⟨d,y,a3,a4⟩
      ·exact .inl (by rw[a2,JU])
      ·rcases f4 d y a4 with ⟨_,d',y',b1,b2,_⟩|⟨b1,_⟩
       ·exact .inr ⟨d',y',by rw[a3,b1],b2⟩
       ·rw[a3,b1] at ru;cases ru
     ·rw[<-hq.val h0 f];simp only[lV,ru,aw,f1];rw[hrv]
  have no:DL m (a:Int) c=I->Ok (AX (xn (CW n0) k) k all (all.length:Int) (i:Int) b6 ⟨p.gM,p.fP,p.dI,p.fO,p.cR⟩ m p.cR) (ahq (eu (m::x) (a:Int)) λf=>if p.dI=M then ve p.cR (lV (m::x) (a:Int) c f) else p.fO):=λh=>rest _ _ hr (by omega) λv=>by simp[h]
  refine Ok.ite (λh8=>Ok.ite (λht=>Ok.ite (λhc=> ?_) λh=>no ?_) λh=>no ?_) λh=>no ?_
  ·have h8':m.bf=8:=by simpa using h8
   rw[dx _ _ (by simp;omega),ak]
   refine rest _ _ (λl hl=>(eV.1 hl).elim (hr l) λh=>by rw[gL.1 h];exact (hm.2 h8').few) (by simp;omega) λv=> ?_
   rw[J9,aG (show DL m (a:Int) c=M from ?_)];unfold DL;rw[<-e1,<-e2,h8,ht,hc];rfl
  all_goals (unfold DL;rw[<-e1,<-e2,h];simp)
 |_,_,0,_,_,_,_,_,_,_,hk,_,_,_,_,_,_,_,_,_,_,_=>by omega
def aGi (hn:6000<A) (fw:A<4294967296) (s:ae) (ms:bX) (ts:fU) (hl:ms.length<=8) (gS:∀m∈ms,MB m/\(m.bf=8->gF m.ck)) (hs:fL s=0) (hc:dA s ms ts) {a:Nat} {T:ai} (hT:s.ah[a]? =V T) (hA:asG T c):
  Ok (F63 A ms (a:Int) c) (ahq (eu ms (a:Int)) (lV ms (a:Int) c)):=
 (arZ A ms hl gS _ ms 0 A s ts a T c ⟨(a:Int),c,M,_,[]⟩ rfl (by omega) fw hs hc hT hA (λh=>by cases h) rfl rfl (λl hl=>by simp at hl) (by simp) (by omega)).mono λq hq=>⟨hq.bY,hq.afb,hq.few,hq.val⟩
def azA {a b:aS} (h:xQ a b=M):a.aD=b.aD:=by
 unfold xQ at h;simp only[bG,sq] at h;exact h.1
def aHX (hl:Cf l) (v:aS):qM l v=v\/(jt (qM l v)=M/\(qM l v).aD=v.aD):=by
 obtain ⟨hlen,h⟩:=hl;induction l with
 |nil=>exact .inl rfl
 |cons p l ih=>
  by_cases e:xQ p.f1 v=M
  ·rw[show qM (p::l) v=p.f0 from aG e];obtain ⟨h1,h2⟩:=h p (by simp)
   exact .inr ⟨h2,h1.trans (azA e)⟩
  ·rw[show qM (p::l) v=qM l v from aC e];exact ih (by simp at hlen;omega) λq hq=>h q (dQ _ hq)
def axU {md key:Int} {k:Int} (hl:Cf l) (h:nD md key i k v=M):nD md key i k (qM l v)=M:=by
 rcases aHX hl v with e|⟨h1,h2⟩
 ·rw[e];exact h
 ·unfold jt at h1;rw[bG] at h1;unfold nD at h ⊢;rw[bG] at h ⊢;exact ⟨h1.1,by rw[h2];exact h.2⟩
def Jj {md key:Int}:∀{i:Nat} {ks:aP} {vs:bt} {q:Nat} {k:Int},gB md key i ks vs=M->ks[q]? =V k->∃v,vs[q]? =V v/\nD md key (i+q) k v=M
 |i,k::ks,v::vs,0,k',h,hk=>by
  simp only[gB,bG] at h;simp at hk;subst hk;exact ⟨v,rfl,h.1⟩
 |i,k::ks,v::vs,q+1,k',h,hk=>by
  simp only[gB,bG] at h;obtain ⟨w,w1,w2⟩:=Jj (q:=q) h.2 (by simpa using hk)
  exact ⟨w,by simpa using w1,by rw[show i+(q+1)=i+1+q by omega];exact w2⟩
 |_,[],_,_,_,_,hk=>by simp at hk
 |_,_::_,[],_,_,h,_=>by simp[gB] at h
def X4 {md key:Int}:∀{i:Nat} {ks:aP} {vs:bt},vs.length=ks.length->(∀(q:Nat) k v,ks[q]? =V k->vs[q]? =V v->nD md key (i+q) k v=M)->gB md key i ks vs=M
 |_,[],[],_,_=>rfl
 |i,k::ks,v::vs,hl,h=>by
  simp only[gB,bG];exact ⟨h 0 k v rfl rfl,X4 (by simpa using hl) λq k' w hk hw=>by
   have:=h (q+1) k' w (by simpa using hk) (by simpa using hw)
   rwa[show i+(q+1)=i+1+q by omega] at this⟩
 |_,[],_::_,hl,_=>by simp at hl
 |_,_::_,[],hl,_=>by simp at hl
def p9:aS:=(ge[S.toNat]?).getD zv
def aBO {md key:Int} {d:Nat} {k:Int} (h:nD md key d k v=M) (hd:(i:Int)<key->d=i):nD md key i k v=M:=by
 unfold nD at h ⊢;simp only[bG,jA] at h ⊢;refine ⟨h.1,h.2.imp id λh=>⟨λhi=>h.1 ?_,h.2⟩⟩
 rw[hd hi];exact hi
def BE {md:Int}:∀{ms:bX} {u:ae} {ts:fU} {a w:Nat} {T T':ai} {i:Nat} {x:cA} {row:bt},(∀m∈ms,MB m/\(m.bf=8->gF m.ck))->fL u=0->dA u ms ts->u.ah[a]? =V T->eu ms (a:Int)=(w:Int)->((u::ts).getLast (by simp)).ah[w]? =V T'->T.ag[i]? =V x->gB md T'.aH 0 (eh T') row=M->
  T'.aH=T.aH/\nD md T.aH i x.aD (lV ms (a:Int) (i:Int) (p9 row))=M/\((i:Int)<T.aH->lV ms (a:Int) (i:Int) (p9 row)=p9 row (i:Int))
 | [],u,ts,a,w,T,T',i,x,row,hm,hs,hc,hT,hw,j6,hx,hr=>by
  obtain rfl:ts= []:=by cases ts with|nil=>rfl|cons=>cases hc
  have haw:a=w:=by simp only[eu] at hw;omega
  rw[<-haw] at j6;have j6:u.ah[a]? =V T':=j6;rw[hT] at j6;cases j6;obtain ⟨v,v1,v2⟩:=Jj hr (Jz hx);have e:p9 row (i:Int)=v:=by unfold p9;rw[show ((i:Int)).toNat=i by simp,v1];rfl
  refine ⟨rfl,?_,λ_=>rfl⟩
  show nD md T.aH i x.aD (p9 row (i:Int))=M;rw[e];rw[cg] at v2;exact v2
 |m::ms,u,ts,a,w,T,T',i,x,row,hm,hs,hc,hT,hw,j6,hx,hr=>by
  obtain ⟨t',vn,rfl⟩:∃t' vn,ts=t'::vn:=by cases ts with|nil=>cases hc|cons t' vn=>exact ⟨t',vn,rfl⟩
  obtain ⟨hb,kH,D7,nL⟩:=hc;have Fu:=(SG.of hs).bY T (bQ hT);rw[show ((u::t'::vn).getLast (by simp))=((t'::vn).getLast (by simp)) by simp] at j6
  have ry:=λq hq=>hm q (dQ _ hq)
  rcases kH.agF hT with ⟨h7,ha⟩|⟨hn7,a',g6,f1,f2,f3,f4⟩
  ·have:jV m (a:Int)= -1:=by simp[jV,h7,ha]
   simp[eu,this] at hw
  have dq:¬(jV m (a:Int)<0):=by omega
  have sQ:eu ms (a':Int)=(w:Int):=by rw[<-hw];simp only[eu];rw[aC dq,f1]
  have hrec:DL m (a:Int) (i:Int)=M->Cf m.ck/\T.aH<=(i:Int):=λhr=>by
   unfold DL at hr;simp only[bG,sq] at hr;obtain ⟨h8,h2,h3⟩:=hr;cases kH with
   |DK j c1 T0 x0 h hj vG sR Me hk hp hu=>
    have:j=a:=by omega
    rw[this,hT] at vG;cases vG;exact ⟨((hm m (by simp)).2 h8).kndR hp,by omega⟩
   |_=>omega
  have fin:∀v:aS,nD md T.aH i x.aD v=M->nD md T.aH i x.aD (if DL m (a:Int) (i:Int)=M then qM m.ck v else v)=M:=λv hv=>by
   split
   ·rename_i h;exact axU (hrec h).1 hv
   ·exact hv
  have nok:(i:Int)<T.aH->∀v:aS,(if DL m (a:Int) (i:Int)=M then qM m.ck v else v)=v:=λhi v=>by
   rw[aC];intro h;have:=(hrec h).2;omega
  have key:T'.aH=T.aH:=by
   have hU0:0<g6.ag.length:=by have hU:=(SG.of D7).bY g6 (bQ f2);have h1:=hU.uL;have h2:=hU.jF;omega
   exact (BE ry D7 nL f2 sQ j6 (cZ hU0) hr).1.trans f3
  have eC:∀v,(if tJ m (a:Int) (i:Int)=M then lV ms (jV m (a:Int)) (o9 m (a:Int) (i:Int)) (p9 row) else m.bj)=v->lV (m::ms) (a:Int) (i:Int) (p9 row)=if DL m (a:Int) (i:Int)=M then qM m.ck v else v:=λv hv=>by subst hv;rfl
  refine ⟨key,?_⟩;rcases f4 i x hx with ⟨b1,d,y,b2,b3,b4,b5⟩|⟨b1,b2,b3,b4,b5⟩
  ·obtain ⟨_,i1,i2⟩:=BE ry D7 nL f2 sQ j6 b3 hr;rw[eC (lV ms (a':Int) (d:Int) (p9 row)) (by rw[b1,aG rfl,f1,b2])]
   refine ⟨fin _ ?_,λhi=> ?_⟩
   ·rw[f3,b4] at i1;exact aBO i1 b5
   ·rw[nok hi,i2 (by rw[b5 hi,f3];exact hi),b5 hi]
  ·rw[eC m.bj (by rw[b1];rfl)]
   refine ⟨fin _ ?_,λhi=>by omega⟩
   exact ZM b4 b2
def nR:bt:=(List.range af).map λ(i:Nat)=>lV al S (i:Int) (p9 ab)
def xr:(nR al S af ab).length=af:=by simp[nR]
def DI {ms:bX} {t:Int} {n:Nat} {row:bt} (h:i<n):(nR ms t n row)[i]? =V (lV ms t (i:Int) (p9 row)):=by simp[nR,h]
def DJ {md:Int} {ms:bX} {u:ae} {ts:fU} {a w:Nat} {T T':ai} {row:bt} (hm:∀m∈ms,MB m/\(m.bf=8->gF m.ck)) (hs:fL u=0) (hc:dA u ms ts) (hT:u.ah[a]? =V T) (hw:eu ms (a:Int)=(w:Int)) (j6:((u::ts).getLast (by simp)).ah[w]? =V T') (hr:gB md T'.aH 0 (eh T') row=M):
  T'.aH=T.aH/\gB md T.aH 0 (eh T) (nR ms (a:Int) T.ag.length row)=M/\(nR ms (a:Int) T.ag.length row).take T.aH.toNat=row.take T.aH.toNat:=by
 have Fu:=(SG.of hs).bY T (bQ hT);have k1:=Fu.uL;have k2:=Fu.jF;have h0:0<T.ag.length:=by omega
 have hk:=(BE hm hs hc hT hw j6 (cZ h0) hr).1;refine ⟨hk,X4 (by rw[xr,pF]) λq k v hq hv=> ?_,vV λq=> ?_⟩
 ·have hql:q<T.ag.length:=by have:=(bO.1 hv).1;rw[xr] at this;exact this
  have hx:T.ag[q]? =V T.ag[q]:=cZ hql;rw[Jz hx] at hq;rw[DI hql] at hv;cases hq;cases hv;rw[cg];exact (BE hm hs hc hT hw j6 hx hr).2.1
 ·rw[eZ,eZ];split
  ·rename_i hq;have hql:q<T.ag.length:=by omega
   have hx:T.ag[q]? =V T.ag[q]:=cZ hql;rw[DI hql,(BE hm hs hc hT hw j6 hx hr).2.2 (by omega)]
   have qD:=gT hr;have Cn:q<row.length:=by
    have:∃f9,((u::ts).getLast (by simp)).ah[w]? =V f9:=⟨T',j6⟩
    have yk:T'.aH<=(T'.ag.length:Int):=by
     rcases da.1 (NM (l:=u::ts) (by simp)) with h|h
     ·rw[h] at j6;exact ((SG.of hs).bY T' (bQ j6)).jF
     ·exact ((SG.of (hc.kj _ h)).bY T' (bQ j6)).jF
    omega
   unfold p9;rw[show ((q:Int)).toNat=q by simp,cZ Cn]
   rfl
  ·rfl
end Go.Proofs.YtbnkhmoelnfjoaaGreat
end
