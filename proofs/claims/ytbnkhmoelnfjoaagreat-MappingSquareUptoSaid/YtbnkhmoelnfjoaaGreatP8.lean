/- Part. -/
import Derived.Test.YtbnkhmoelnfjoaaGreatP7
import Derived.Test.YtbnkhmoelnfjoaaGreatP6
set_option linter.all false
set_option maxRecDepth 100000
open List renaming length->O,drop->B',take->C',range->DO,replicate->Va
open Option renaming some->V,none->A
open Bool renaming true->I,false->U
open Int renaming toNat->Eb
open Decidable renaming decide->A'
open List.Pairwise renaming nil->ad9
noncomputable section
namespace Go.Proofs.YtbnkhmoelnfjoaaGreat
open Go.bM
variable (rt:Nat) (C:af) (D:cj) (F:gQ) (Z:Int) (H:Nat) (E:aU) (qr:aW) (vQ:ah) (ab:gg) (ad:cj) (aa:cG) (aj:Int) (ak:aW) (al:bz) (an:aU) (ao:bz) (aD:lJ) (aH:Nat) (aI:af) (aA:gQ) (aJ:aW) (aL:jX) (aS:dF) (aT:cG)
variable {i b' j:Nat} {Y:Type} {xs vs nA:aU} {p:dF} {ks zs mt rK:aN} {lw:aW} {o:Int} {io:bz}
def lG:gM->aP->aP
 | [],v=>v
 |p::l,v=>if qi p.f1 v=I then p.f0 else lG l v
def rL:qF->aP->aP
 | [],v=>v
 |l::ls,v=>lG l (rL ls v)
def akG (l:gM) (v:aP):∀ls:qF,rL (ls++ [l]) v=rL ls (lG l v)
 | []=>rfl
 |x::ls=>by rw[xa,rL,akG l v ls];rfl
def aqt (n0:Nat) (l:gM) (hl:O l<=1000) (v z:aP):∀(x:gM) (i k:Nat),B' i l=x->O x<k->vu (AF n0) k 1 l (O l:Int) (i:Int) v z=V (lG x v)
 | [],i,k+1,hd,hk=>by
  have hq:¬((i:Int)<(O l:Int)):=by
   have:O l<=i:=by simpa using hd
   omega
  simp only[vu,C8,hq,aR,ay,aw,AF,lG]
 |p::x,i,k+1,hd,hk=>by
  let ⟨g1,g2,g3,hq⟩:=dN hd
  simp at hk;have e10:((1:Int)==0)=U:=rfl;have e11:((1:Int)==1)=I:=rfl;have e00:((0:Int)==0)=I:=rfl;have w0:ba (1-1)=0:=cR W W
  have ih:=aqt n0 l hl v z x (i+1) k g2 W
  simp only[vu,C8,hq,aO,az,bh,g1,ai,e10,e11,ay,aw,GF,w0,bS g3 (W:O l<4294967296),ih,e00]
  by_cases h:qi p.f1 v=I
  .rw[show lG (p::x) v=p.f0 from ax h];exact ax h
  .rw[show lG (p::x) v=lG x v from au h];exact au h
 |_,_,0,_,hk=>W
def aLi (l:gM) (hl:O l<=1000) (v:aP) (hn:2000<rt):RM rt l v 1=V (lG l v):=
 aqt rt l hl v _ l 0 rt rfl W
def aqx (n0:Nat) (p:dF) (hp:∀l∈p.bT,O l<=1000) (hl:O p.bT<=1000) (z:aP):∀(i k:Nat) (v:aP),i<=O p.bT->i+2100<k->As (KG n0) k ((i:Int)-1) p v z=V (rL (C' i p.bT) v)
 |0,k+1,v,_,_=>by
  have hq:(((0:Nat):Int)-1)<0:=by omega
  simp only[As,KH,hq,aO,cO,ay,aw,KG,zn,rL]
 |i+1,k+1,v,hi,hk=>by
  have e:(((i+1:Nat):Int)-1)=(i:Int):=by omega
  rw[e];have hq:¬((i:Int)<0):=by omega
  have hg:p.bT[i]? =V p.bT[i]:=bJ W
  have ih:=aqx n0 p hp hl z i k (lG p.bT[i] v) W W
  have w:ba ((i:Int)-1)=(i:Int)-1:=cR W W
  simp only[As,KH,hq,aR,gb,az,bh,hg,ai,aLi k _ (hp _ (nf _)) v W,w,ih]
  rw[qO,hg,Er,akG]
 |_,0,_,_,hk=>W
def aqX (hp:∀l∈aS.bT,O l<=1000) (hl:O aS.bT<=1000) (v:aP) (hn:4000<rt):Tz rt aS v=V (rL aS.bT v):=by
 unfold Tz XU;rw[cR W W,aqx rt aS hp hl _ (O aS.bT) rt v (cM _) W,nj]
def Fh (m:aF) (t c:Int):Bool:=(m.aQ==8)&&((m.aq==t)&&(m.bc==c))
def qD:cj->Int->Int->(Int->aP)->aP
 | [],_,c,f=>f c
 |m::ms,t,c,f=>if Fh m t c=I then lG m.cg (if lZ m t c=I then qD ms (fp m t) (jC m t c) f else m.bp) else if lZ m t c=I then qD ms (fp m t) (jC m t c) f else m.bp
structure NV (w:Int) (wy:Int×Bool) (or:(Int->aP)->aP) (p:dF):Prop where
 bG:p.gd=w
 v7:p.dQ=wy.1
 MK:p.cI=wy.2
 zK:∀l∈p.bT,fq l
 Jz:p.bT.length<=1000
 val:0<=w->∀f,or f=if p.cI=I then rL p.bT (f p.dQ) else p.eQ
def Y7 (T:ah) (c:Int):Prop:=c= -1\/∃(d:Nat) (y:bW),c=(d:Int)/\T.L[d]? =V y
def Y7.rng {T:ah} {c:Int} (h:Y7 T c): -1<=c/\c<(O T.L:Int):=by
 rcases h with h|⟨d,y,h1,h2⟩
 .omega
 .have:=(bk.1 h2).1;omega
def fq.Jz {l:gM} (h:fq l):O l<=1000:=by
 rcases h with ⟨a,rfl⟩|⟨a,b,_,rfl⟩<;>simp
def auO (n0:Nat) (all:cj) (hl:O all<=8) (fH:∀m∈all,MB m/\(m.aQ=8->fq m.cg)) (b6:dF):∀(x:cj) (i k:Nat) (s:af) (ts:gg) (a:Nat) (T:ah) (c:Int) (p:dF),B' i all=x->O x+5000<k->k<4294967296->fo s=0->di s x ts->s.ag[a]? =V T->Y7 T c->(p.cI=U->c= -1)->
  p.gd=(a:Int)->p.dQ=c->(∀l∈p.bT,fq l)->O p.bT<=100+i->i<=8->
  Ok (yj (El n0) k all (O all:Int) (i:Int) b6 p p.bT) (NV (eA x (a:Int)) (nM x (a:Int) c p.cI) λf=>if p.cI=I then rL p.bT (qD x (a:Int) c f) else p.eQ)
 | [],i,k+1,s,ts,a,T,c,p,hd,hk,jz,hs,hc,hT,hA,hB,e1,e2,hr,mM,hi=>by
  have hq:¬((i:Int)<(O all:Int)):=by
   have:O all<=i:=by simpa using hd
   omega
  simp only[yj,Rr,hq,aR,ay,aw,El];exact Ok.pure ⟨e1,e2,rfl,hr,by show O p.bT<=_;omega,λ_ f=>by simp only[qD,e2]⟩
 |m::x,i,k+1,s,ts,a,T,c,p,hd,hk,jz,hs,hc,hT,hA,hB,e1,e2,hr,mM,hi=>by
  let ⟨g1,g2,g3⟩:=oY hd;have hm:=fH m (bF g1);obtain ⟨t',jS,rfl⟩:∃t' jS,ts=t'::jS:=by cases ts with|nil=>cases hc|cons t' jS=>exact ⟨t',jS,rfl⟩
  let ⟨hb,dV,MR,jm⟩:=hc;have hG:=SG.of hs;have DK:=hG.bG T (bF hT);have dX:O T.L<=8:=DK.cols;have hal:a<8:=by have:=(bk.1 hT).1;have:=hG.len;omega
  let ⟨c1,c2⟩:=hA.rng;have hq:(i:Int)<(O all:Int):=by omega
  simp at hk;simp only[yj,Rr,hq,aO,az,bh,g1,ai];have rest:∀(rs:qF) (b6':dF),(∀l∈rs,fq l)->O rs<=101+i->(∀v,rL rs v=rL p.bT (if Fh m ↑a c=I then lG m.cg v else v))->Ok (Cc (yj (El n0) k) k all (O all:Int) ↑i b6' ⟨p.gd,p.dQ,p.cI,p.eQ,rs⟩ m rs) (NV (eA (m::x) ↑a) (nM (m::x) ↑a c p.cI) λf=>if p.cI=I then rL p.bT (qD (m::x) ↑a c f) else p.eQ):=λrs b6' wF hrl' hrv=>by
   unfold Cc;simp only[e1,e2];rw[aqW k m hm.1.v7 ↑a c W W c1 W,ai]
   rcases dV.Lz hT with ⟨h7,ha⟩|⟨hn7,a',T',f1,f2,f3,f4⟩
   .have:fp m (a:Int)= -1:=by simp[fp,h7,ha]
    simp only[this,show ((-1:Int)<0) from W,aO,az]
    refine Ok.pure ⟨by simp[eA,this],by simp[nM,this],by simp[nM,this],λl hl=>by simp at hl,am,λh=> ?_⟩
    simp[eA,this] at h
   .have cT:¬(fp m (a:Int)<0):=by omega
    have hw:eA (m::x) (a:Int)=eA x (a':Int):=by simp only[eA];rw[au cT,f1]
    simp only[cT,aR,ay,aw];rw[hw,show nM (m::x) ↑a c p.cI=nM x ↑a' (jC m a c) (p.cI&&lZ m a c) by simp only[nM];rw[au cT,f1],f1]
    refine Ok.ite (λqt=> ?_) λqt=> ?_
    .have qt:lZ m a c=U:=by simpa using qt
     rw[qt,yP];obtain ⟨d,y,a3,a4⟩:∃(d:Nat) (y:bW),c=(d:Int)/\T.L[d]? =V y:=by
      rcases hA with a2|h
      .rw[a2,aiA hn7] at qt;cases qt
      .exact h
     have pW:p.cI=I:=by
      cases h:p.cI with
      |true=>rfl
      |false=>have:=hB h;omega
     have hcm:jC m a c= -1:=by
      rcases f4 d y a4 with ⟨b1,_⟩|⟨_,_,b,_⟩
      .rw[a3,b1] at qt;cases qt
      .rw[a3];exact b
     rw[aqX k ⟨(a:Int),c,p.cI,p.eQ,rs⟩ (λl hl=>(wF l hl).Jz) (by show O rs<=_;omega) m.bp W,ai]
     unfold Mv;rw[bS g3 W]
     refine (auO n0 all hl fH _ x (i+1) k t' jS a' T' (jC m a c) ⟨(a':Int),jC m a c,U,rL rs m.bp,rs⟩ g2 W W MR jm f2 (.inl hcm) (λ_=>hcm) rfl rfl wF (by show O rs<=_;omega) W).mono λq hq=>⟨hq.bG,hq.v7,hq.MK,hq.zK,hq.Jz,λh0 f=> ?_⟩
     rw[<-hq.val h0 f];simp only[pW,az,ay,aw,qD,qt];rw[hrv]
    .have qt:lZ m a c=I:=by simpa using qt
     rw[qt,Bool.and_true];unfold Mv;rw[bS g3 W]
     refine (auO n0 all hl fH _ x (i+1) k t' jS a' T' (jC m a c) ⟨(a':Int),jC m a c,p.cI,p.eQ,rs⟩ g2 W W MR jm f2 ?_ (λh=>by rw[hB h,LA]) rfl rfl wF (by show O rs<=_;omega) W).mono λq hq=>⟨hq.bG,hq.v7,hq.MK,hq.zK,hq.Jz,λh0 f=> ?_⟩
     .rcases hA with a2|⟨d,y,a3,a4⟩
      .exact .inl (by rw[a2,LA])
      .rcases f4 d y a4 with ⟨_,d',y',b1,b2,_⟩|⟨b1,_⟩
       .exact .inr ⟨d',y',by rw[a3,b1],b2⟩
       .rw[a3,b1] at qt;cases qt
     .rw[<-hq.val h0 f];simp only[qD,qt,az,f1];rw[hrv]
  have no:Fh m ↑a c=U->Ok (Cc (yj (El n0) k) k all (O all:Int) ↑i b6 ⟨p.gd,p.dQ,p.cI,p.eQ,p.bT⟩ m p.bT) (NV (eA (m::x) ↑a) (nM (m::x) ↑a c p.cI) λf=>if p.cI=I then rL p.bT (qD (m::x) ↑a c f) else p.eQ):=λh=>rest _ _ hr W λv=>by simp[h]
  refine Ok.ite (λh8=>Ok.ite (λht=>Ok.ite (λhc=> ?_) λh=>no ?_) λh=>no ?_) λh=>no ?_
  .have h8':m.aQ=8:=by simpa using h8
   rw[dm _ _ ap,ai]
   refine rest _ _ (λl hl=>(fk.1 hl).elim (hr l) λh=>by rw[gy.1 h];exact hm.2 h8') ap λv=> ?_
   rw[akG,ax (show Fh m ↑a c=I from ?_)];unfold Fh;rw[<-e1,<-e2,h8,ht,hc];rfl
  all_goals (unfold Fh;rw[<-e1,<-e2,h];simp)
 |_,_,0,_,_,_,_,_,_,_,hk,_,_,_,_,_,_,_,_,_,_,_=>W
def auU (hn:6000<rt) (fB:rt<4294967296) (s:af) (ms:cj) (ts:gg) (hl:O ms<=8) (fH:∀m∈ms,MB m/\(m.aQ=8->fq m.cg)) (hs:fo s=0) (hc:di s ms ts) {a:Nat} {T:ah} (hT:s.ag[a]? =V T) {c:Int} (hA:Y7 T c):
  Ok (F63 rt ms (a:Int) c) (NV (eA ms (a:Int)) (nM ms (a:Int) c I) (qD ms (a:Int) c)):=
 (auO rt ms hl fH _ ms 0 rt s ts a T c ⟨(a:Int),c,I,_,[]⟩ rfl W fB hs hc hT hA (λh=>by cases h) rfl rfl (λl hl=>by simp at hl) am W).mono λq hq=>⟨hq.bG,hq.v7,hq.MK,hq.zK,hq.Jz,hq.val⟩
def aBW {a b:aP} (h:qi a b=I):a.aB=b.aB:=by
 unfold qi at h;simp only[bI,tD] at h;exact h.1
def apG {l:gM} (hl:Au l) (v:aP):lG l v=v\/(fJ (lG l v)=I/\(lG l v).aB=v.aB):=by
 obtain ⟨li,h⟩:=hl;induction l with
 |nil=>exact .inl rfl
 |cons p l ih=>
  by_cases e:qi p.f1 v=I
  .rw[show lG (p::l) v=p.f0 from ax e];let ⟨h1,h2⟩:=h p am
   exact .inr ⟨h2,h1.trans (aBW e)⟩
  .rw[show lG (p::l) v=lG l v from au e];exact ih (by simp at li;omega) λq hq=>h q (fj _ hq)
def aAE {md key:Int} {k:Int} {v:aP} {l:gM} (hl:Au l) (h:nL md key i k v=I):nL md key i k (lG l v)=I:=by
 rcases apG hl v with e|⟨h1,h2⟩
 .rw[e];exact h
 .unfold fJ at h1;rw[bI] at h1;unfold nL at h ⊢;rw[bI] at h ⊢;exact ⟨h1.1,by rw[h2];exact h.2⟩
def KZ {md key:Int}:∀{i:Nat} {ks:aN} {vs:aU} {q:Nat} {k:Int},fL md key i ks vs=I->ks[q]? =V k->∃v,vs[q]? =V v/\nL md key (i+q) k v=I
 |i,k::ks,v::vs,0,k',h,hk=>by
  simp only[fL,bI] at h;simp at hk;subst hk;exact ⟨v,rfl,h.1⟩
 |i,k::ks,v::vs,q+1,k',h,hk=>by
  simp only[fL,bI] at h;obtain ⟨w,w1,w2⟩:=KZ (q:=q) h.2 (by simpa using hk)
  exact ⟨w,by simpa using w1,by rw[show i+(q+1)=i+1+q by omega];exact w2⟩
 |_,[],_,_,_,_,hk=>by simp at hk
 |_,_::_,[],_,_,h,_=>by simp[fL] at h
def aab {md key:Int}:∀{i:Nat} {ks:aN} {vs:aU},O vs=O ks->(∀(q:Nat) k v,ks[q]? =V k->vs[q]? =V v->nL md key (i+q) k v=I)->fL md key i ks vs=I
 |_,[],[],_,_=>rfl
 |i,k::ks,v::vs,hl,h=>by
  simp only[fL,bI];exact ⟨h 0 k v rfl rfl,aab (by simpa using hl) λq k' w hk hw=>by
   have:=h (q+1) k' w (by simpa using hk) (by simpa using hw)
   rwa[show i+(q+1)=i+1+q by omega] at this⟩
 |_,[],_::_,hl,_=>by simp at hl
 |_,_::_,[],hl,_=>by simp at hl
def sQ:aP:=(E[Eb aj]?).getD zv
def aEA {md key:Int} {d:Nat} {k:Int} {v:aP} (h:nL md key d k v=I) (hd:(i:Int)<key->d=i):nL md key i k v=I:=by
 unfold nL at h ⊢;simp only[bI,lB] at h ⊢;refine ⟨h.1,h.2.imp id λh=>⟨λhi=>h.1 ?_,h.2⟩⟩
 rw[hd hi];exact hi
def CY {md:Int}:∀{ms:cj} {u:af} {ts:gg} {a w:Nat} {T T':ah} {i:Nat} {x:bW} {row:aU},(∀m∈ms,MB m/\(m.aQ=8->fq m.cg))->fo u=0->di u ms ts->u.ag[a]? =V T->eA ms (a:Int)=(w:Int)->((u::ts).getLast am).ag[w]? =V T'->T.L[i]? =V x->fL md T'.av 0 (db T') row=I->
  T'.av=T.av/\nL md T.av i x.aB (qD ms (a:Int) (i:Int) (sQ row))=I/\((i:Int)<T.av->qD ms (a:Int) (i:Int) (sQ row)=sQ row (i:Int))
 | [],u,ts,a,w,T,T',i,x,row,hm,hs,hc,hT,hw,eI,hx,hr=>by
  obtain rfl:ts= []:=by cases ts with|nil=>rfl|cons=>cases hc
  have haw:a=w:=by simp only[eA] at hw;omega
  rw[<-haw] at eI;have eI:u.ag[a]? =V T':=eI;rw[hT] at eI;cases eI;let ⟨v,v1,v2⟩:=KZ hr (oh hx);have e:sQ row (i:Int)=v:=by unfold sQ;rw[show Eb ((i:Int))=i by simp,v1];rfl
  refine ⟨rfl,?_,λ_=>rfl⟩
  show nL md T.av i x.aB (sQ row ↑i)=I;rw[e];rw[cN] at v2;exact v2
 |m::ms,u,ts,a,w,T,T',i,x,row,hm,hs,hc,hT,hw,eI,hx,hr=>by
  obtain ⟨t',jS,rfl⟩:∃t' jS,ts=t'::jS:=by cases ts with|nil=>cases hc|cons t' jS=>exact ⟨t',jS,rfl⟩
  let ⟨hb,dV,MR,jm⟩:=hc;have DK:=(SG.of hs).bG T (bF hT);rw[show ((u::t'::jS).getLast am)=((t'::jS).getLast am) by simp] at eI
  have tX:=λq hq=>hm q (fj _ hq)
  rcases dV.Lz hT with ⟨h7,ha⟩|⟨hn7,a',ul,f1,f2,f3,f4⟩
  .have:fp m (a:Int)= -1:=by simp[fp,h7,ha]
   simp[eA,this] at hw
  have cT:¬(fp m (a:Int)<0):=by omega
  have vV:eA ms (a':Int)=(w:Int):=by rw[<-hw];simp only[eA];rw[au cT,f1]
  have hrec:Fh m ↑a (i:Int)=I->Au m.cg/\T.av<=(i:Int):=λhr=>by
   unfold Fh at hr;simp only[bI,tD] at hr;let ⟨h8,h2,h3⟩:=hr;cases dV with
   |Cy j c1 T0 x0 h hj lF rl G6 hk hp hu=>
    have:j=a:=by omega
    rw[this,hT] at lF;cases lF;exact ⟨((hm m am).2 h8).kndR hp,W⟩
   |_=>omega
  have fin:∀v:aP,nL md T.av i x.aB v=I->nL md T.av i x.aB (if Fh m ↑a (i:Int)=I then lG m.cg v else v)=I:=λv hv=>by
   split
   .rename_i h;exact aAE (hrec h).1 hv
   .exact hv
  have nok:(i:Int)<T.av->∀v:aP,(if Fh m ↑a (i:Int)=I then lG m.cg v else v)=v:=λhi v=>by
   rw[au];intro h;have:=(hrec h).2;omega
  have key:T'.av=T.av:=by
   have hU0:0<O ul.L:=by have hU:=(SG.of MR).bG ul (bF f2);have h1:=hU.lV;have h2:=hU.iA;omega
   exact (CY tX MR jm f2 vV eI (bJ hU0) hr).1.trans f3
  have eC:∀v,(if lZ m ↑a (i:Int)=I then qD ms (fp m ↑a) (jC m ↑a (i:Int)) (sQ row) else m.bp)=v->qD (m::ms) ↑a (i:Int) (sQ row)=if Fh m ↑a (i:Int)=I then lG m.cg v else v:=λv hv=>by subst hv;rfl
  refine ⟨key,?_⟩;rcases f4 i x hx with ⟨b1,d,y,b2,b3,b4,b5⟩|⟨b1,b2,b3,b4,b5⟩
  .let ⟨_,i1,i2⟩:=CY tX MR jm f2 vV eI b3 hr;rw[eC (qD ms ↑a' (d:Int) (sQ row)) (by rw[b1,ax rfl,f1,b2])]
   refine ⟨fin _ ?_,λhi=> ?_⟩
   .rw[f3,b4] at i1;exact aEA i1 b5
   .rw[nok hi,i2 (by rw[b5 hi,f3];exact hi),b5 hi]
  .rw[eC m.bp (by rw[b1];rfl)]
   refine ⟨fin _ ?_,λhi=>W⟩
   exact ack b4 b2
def qb:aU:=(DO H).map λ(i:Nat)=>qD D Z ↑i (sQ E)
def uz:O (qb D Z H E)=H:=by simp[qb]
def Bk {ms:cj} {t:Int} {n:Nat} {row:aU} (h:i<n):(qb ms t n row)[i]? =V (qD ms t (i:Int) (sQ row)):=by simp[qb,h]
def Ff {md:Int} {ms:cj} {u:af} {ts:gg} {a w:Nat} {T T':ah} {row:aU} (hm:∀m∈ms,MB m/\(m.aQ=8->fq m.cg)) (hs:fo u=0) (hc:di u ms ts) (hT:u.ag[a]? =V T) (hw:eA ms (a:Int)=(w:Int)) (eI:((u::ts).getLast am).ag[w]? =V T') (hr:fL md T'.av 0 (db T') row=I):
  T'.av=T.av/\fL md T.av 0 (db T) (qb ms (a:Int) (O T.L) row)=I/\C' (Eb T.av) (qb ms (a:Int) (O T.L) row)=C' (Eb T.av) row:=by
 have DK:=(SG.of hs).bG T (bF hT);have k1:=DK.lV;have k2:=DK.iA;have h0:0<O T.L:=by omega
 have hk:=(CY hm hs hc hT hw eI (bJ h0) hr).1;refine ⟨hk,aab (by rw[uz,kK]) λq k v hq hv=> ?_,pK λq=> ?_⟩
 .have CL:q<O T.L:=by have:=(bk.1 hv).1;rw[uz] at this;exact this
  have hx:T.L[q]? =V T.L[q]:=bJ CL;rw[oh hx] at hq;rw[Bk CL] at hv;cases hq;cases hv;rw[cN];exact (CY hm hs hc hT hw eI hx hr).2.1
 .rw[eO,eO];split
  .rename_i hq;have CL:q<O T.L:=by omega
   have hx:T.L[q]? =V T.L[q]:=bJ CL;rw[Bk CL,(CY hm hs hc hT hw eI hx hr).2.2 W]
   have mM:=fC hr;have zY:q<O row:=by
    have:∃pu,((u::ts).getLast am).ag[w]? =V pu:=⟨T',eI⟩
    have xV:T'.av<=(O T'.L:Int):=by
     rcases cU.1 (IL (l:=u::ts) am) with h|h
     .rw[h] at eI;exact ((SG.of hs).bG T' (bF eI)).iA
     .exact ((SG.of (hc.kS _ h)).bG T' (bF eI)).iA
    omega
   unfold sQ;rw[show Eb ((q:Int))=q by simp,bJ zY]
   rfl
  .rfl
section
def Ok.and {x:G Y} {P Q:Y->Prop} (h1:Ok x P) (h2:Ok x Q):Ok x λv=>P v/\Q v:=by
 let ⟨v,e,p⟩:=h1;let ⟨v',e',q⟩:=h2;rw[e] at e';cases e';exact ⟨v,e,p,q⟩
def Ti (k0:Int) (i:Nat) (p:dF):Prop:=YJ C (eA D Z) aj k0 ↑i p/\NV (eA D Z) (nM D Z ↑i I) (qD D Z ↑i) p/\p.dQ=(nM D Z ↑i I).1/\p.cI=(nM D Z ↑i I).2
section
variable {s:af} {ms:cj} {ts:gg} {a:Nat} {T:ah}
def akx (n0:Nat) (hl:O ms<=8) (fH:∀m∈ms,MB m/\(m.aQ=8->fq m.cg)) (hs:fo s=0) (hc:di s ms ts) (hT:s.ag[a]? =V T) (r:gg):∀(j i k:Nat) (acc:lJ),i+j=O T.L->j+7000<k->k<4294967296->O acc=i->(∀(q:Nat) p,acc[q]? =V p->∃k0,Ti ((s::ts).getLast am) ms (a:Int) T.av k0 q p)->
  Ok (Kj (XX n0) k (a:Int) (O T.L:Int) (i:Int) ⟨r,ms⟩ acc) λps=>O ps=O T.L/\∀(q:Nat) p,ps[q]? =V p->∃k0,Ti ((s::ts).getLast am) ms (a:Int) T.av k0 q p
 |0,i,k+1,acc,hi,hk,jz,hal,hw=>by
  have hq:¬((i:Int)<(O T.L:Int)):=by omega
  simp only[Kj,XY,hq,aR,ay,aw,XX];exact Ok.pure ⟨W,hw⟩
 |j+1,i,k+1,acc,hi,hk,jz,hal,hw=>by
  have dX:=((SG.of hs).bG T (bF hT)).cols;have hq:(i:Int)<(O T.L:Int):=by omega
  have mr:i<O T.L:=by omega
  have hx:T.L[i]? =V T.L[i]:=bJ mr;simp only[Kj,XY,hq,aO,az];refine Ok.bind ((auT k W W s ms ts hl fH hs hc hT (HO.v7 hx)).and (auU k W W s ms ts hl fH hs hc hT (.inr ⟨i,_,rfl,hx⟩))) λp ⟨rP,N3⟩=> ?_
  rw[dm _ _ ap,ai,bS (ae:=O T.L) W W]
  refine akx n0 hl fH hs hc hT r j (i+1) k (acc++ [p]) W W W ap λq y zY=> ?_
  by_cases he:q<O acc
  .rw[nc he] at zY;exact hw q y zY
  .have hqi:q=i:=by
    have:=(bk.1 zY).1;simp at this;omega
   subst hqi;rw[nW W,hal,qT] at zY
   simp at zY;subst zY;exact ⟨_,rP,N3,N3.v7,N3.MK⟩
 |_,_,0,_,_,hk,_,_,_=>W
def aXt (hn:8000<rt) (fB:rt<4294967296) (hl:O ms<=8) (fH:∀m∈ms,MB m/\(m.aQ=8->fq m.cg)) (hs:fo s=0) (hc:di s ms ts) (hT:s.ag[a]? =V T) (r:gg):
  Ok (F57 rt ⟨s::r,ms⟩ (a:Int)) λq=>q.1=eA ms (a:Int)/\O q.2=O T.L/\∀(i:Nat) p,q.2[i]? =V p->∃k0,Ti ((s::ts).getLast am) ms (a:Int) T.av k0 i p:=by
 have dX:=((SG.of hs).bG T (bF hT)).cols;unfold F57 awc;refine Ok.bind (P:=λps=>O ps=O T.L/\∀(i:Nat) p,ps[i]? =V p->∃k0,Ti ((s::ts).getLast am) ms ↑a T.av k0 i p) ?_ λps ⟨h1,h2⟩=> ?_
 .unfold R4 XW;rw[VM,ai,bh,hT,ai];exact akx rt hl fH hs hc hT (s::r) (O T.L) 0 rt [] W W fB rfl λi p h=>by simp at h
 .refine Ok.bind (auU rt W fB s ms ts hl fH hs hc hT (.inl rfl)) λp hp=> ?_
  exact Ok.pure ⟨hp.bG,h1,h2⟩
end
section
variable {N:af} {ms:cj} {a:Int} {w:Nat} {T':ah} {key:Int} {row:aU} {ps:lJ}
def aBt (n0:Nat) (hw:eA ms a=(w:Int)) (hT:N.ag[w]? =V T') (hr:O row=O T'.L) (hp:∀(i:Nat) p,ps[i]? =V p->∃k0,Ti N ms a key k0 i p) (um:O ps<=1000):∀(x:lJ) (i k:Nat) (acc:aU),B' i ps=x->i<=O ps->O x+5000<k->acc=C' i (qb ms a (O ps) row)->
  Gx (Pn n0) k row ps (O ps:Int) (i:Int) acc=V (qb ms a (O ps) row)
 | [],i,k+1,acc,hd,sD,hk,Yh=>by
  let ⟨hi,hq⟩:=eu hd
  simp only[Gx,XV,hq,aR,ay,aw,Pn];rw[Yh,jc (by rw[uz];exact hi)]
 |p::x,i,k+1,acc,hd,sD,hk,Yh=>by
  let ⟨g1,g2,g3,hq⟩:=dN hd
  let ⟨k0,hpi,hpc,_⟩:=hp i p g1;let ⟨w',T2,e1,e2,e3,hA,h0⟩:=hpi.on W
  have FB:w'=w:=by omega
  rw[FB,hT] at e2;have e2:=kh e2;subst e2;simp at hk;have hV:=hpc.val W (sQ row)
  have hal:O acc=i:=by rw[Yh,dv,uz];omega
  have step:Po (Gx (Pn n0) k) k row ps (O ps:Int) ↑i acc (qD ms a ↑i (sQ row))=V (qb ms a (O ps) row):=by
   unfold Po;rw[dm _ _ ap,ai,bS g3 W]
   refine aBt n0 hw hT hr hp um x (i+1) k _ g2 W W ?_
   rw[Yh,qO,Bk g3];rfl
  simp only[Gx,XV,hq,aO,az,bh,g1,ai];rcases hA with ⟨a1,_⟩|⟨a1,a2,d,y,a3,a4,a5,a6⟩|⟨a1,a2,a3,a4,a5,a6⟩
  .omega
  .have qI:d<O row:=by rw[hr];exact (bk.1 a4).1
   have hg:row[d]? =V row[d]:=bJ qI;have ef:sQ row (d:Int)=row[d]:=by unfold sQ;rw[show Eb ((d:Int))=d by simp,hg];rfl
   rw[a2,ax rfl,a3,ef] at hV;rw[a2,ax rfl,a3,bh,hg,ai,aqX k p (λl hl=>(hpc.zK l hl).Jz) hpc.Jz row[d] W,ai,<-hV]
   exact step
  .rw[a2,au nY] at hV;rw[a2,au nY,<-hV];exact step
 |_,_,0,_,_,_,hk,_=>W
def aRT (hn:7000<rt) (hw:eA ms a=(w:Int)) (hT:N.ag[w]? =V T') (hr:O row=O T'.L) (AQ:row≠ []) (hp:∀(i:Nat) p,ps[i]? =V p->∃k0,Ti N ms a key k0 i p) (um:O ps<=1000):
  Sr rt row ps=V (qb ms a (O ps) row):=by
 unfold Sr amP;have h0:((O row:Int)==0)=U:=by cases row with
  |nil=>exact absurd rfl AQ
  |cons=>exact avg ap
 rw[h0,au nY];exact aBt rt hw hT hr hp um ps 0 rt [] rfl W W am
end
def yn:bz:=if eA D (H:Int)<0 then [] else ((F[Eb (eA D ↑H)]?).getD []).map (qb D ↑H (O vQ.L))
def j1:gQ:=(DO (O aI.ag)).map λ(q:Nat)=>((aI.ag[q]?).map (yn D aA q)).getD []
def aiU:O (j1 D aI aA)=O aI.ag:=by simp[j1]
def CW {ms:cj} {u:af} {st:gQ} {q:Nat} {T:ah} (h:u.ag[q]? =V T):(j1 ms u st)[q]? =V (yn ms st q T):=by
 let ⟨h1,e⟩:=bk.1 h;simp[j1,h1,e]
section
variable {u N:af} {ms:cj} {ts r:gg} {st:gQ} {a w:Nat} {T T':ah} {ps:lJ} {ii:bz} {md:Int}
def aqo {R:G (aE×Int)} (k:Int->Int->aE->aE->ga->aE->dA->G (aE×Int)) (t49 t50:Int) (b9:aE) (cJ:ga) (B:gQ)
  (hw:eA ms (a:Int)=(w:Int)) (hT:N.ag[w]? =V T') (hr:∀r∈ii,O r=O T'.L/\r≠ []) (hp:∀(i:Nat) p,ps[i]? =V p->∃k0,Ti N ms (a:Int) T.av k0 i p) (um:O ps=O T.L) (hpl2:O ps<=1000) (mM:O ii<=1000)
  (hk:k t49 t50 b9 ⟨[]⟩ cJ ⟨B⟩ B=R):
  ∀(x:bz) (i m:Nat) (td wP:aE) (b:gQ),B' i ii=x->i<=O ii->O x+8000<m->b[a]? =V ((C' i ii).map (qb ms (a:Int) (O T.L)))->b.set a (ii.map (qb ms (a:Int) (O T.L)))=B->
  Ra k m (a:Int) ps t49 t50 ii (O ii:Int) (i:Int) b9 td cJ wP b=R
 | [],i,m+1,td,wP,b,hd,sD,hm,hb,hB=>by
  let ⟨hi,hq⟩:=eu hd
  simp only[Ra,ZZ,hq,aR,ay,aw];rw[jc hi] at hb;let ⟨q1,q2⟩:=bk.1 hb;have:b=B:=by rw[<-hB,<-q2];exact (IB q1).symm
  rw[this];exact hk
 |row::x,i,m+1,td,wP,b,hd,sD,hm,hb,hB=>by
  let ⟨g1,g2,g3,hq⟩:=dN hd
  have rm:=(bk.1 hb).1;let ⟨r1,r2⟩:=hr row (bF g1);simp at hm;simp only[Ra,ZZ,hq,aO,az,bh,g1,ai,gx rm,cN,hb,aRT m W hw hT r1 r2 hp hpl2,um]
  rw[dm _ _ ap,ai,dD _ rm,ai,bS g3 W]
  refine aqo k t49 t50 b9 cJ B hw hT hr hp um hpl2 mM hk x (i+1) m _ _ _ g2 W W ?_ ?_
  .rw[lR rm,qO,g1];simp
  .rw[vy];exact hB
 |_,_,0,_,_,_,_,_,hm,_,_=>W
def aqn (n0:Nat) (hl:O ms<=8) (fH:∀m∈ms,MB m/\(m.aQ=8->fq m.cg)) (hs:fo u=0) (hc:di u ms ts) (G9:fo ((u::ts).getLast am)=0) (dV:mu md ((u::ts).getLast am) st):
  ∀(j i m:Nat) (td wP:aE) (b:gQ),i+j=O u.ag->j+10000<m->m<4294967296->O b=O u.ag->(∀q,q<i->b[q]? =(j1 ms u st)[q]?)->(∀q,i<=q->q<O b->b[q]? =V [])->
  HH (RD n0) m (O u.ag:Int) (i:Int) ⟨st⟩ td ⟨u::r,ms⟩ wP b=V (⟨j1 ms u st⟩,0)
 |0,i,m+1,td,wP,b,hi,hm,tX,hb,h1,h2=>by
  have hq:¬((i:Int)<(O u.ag:Int)):=by omega
  simp only[HH,Za,hq,aR,ay,aw,RD];have:b=j1 ms u st:=pK λq=>by
   by_cases hq:q<i
   .exact h1 q hq
   .rw[mw W,mw (by rw[aiU];omega)]
  rw[this]
 |j+1,i,m+1,td,wP,b,hi,hm,tX,hb,h1,h2=>by
  have hq:(i:Int)<(O u.ag:Int):=by omega
  have hul:=(SG.of hs).len;have mr:i<O u.ag:=by omega
  have hu:u.ag[i]? =V u.ag[i]:=bJ mr;have dX:=((SG.of hs).bG _ (nf mr)).cols;have hbi:=h2 i (cM _) W
  have nx:∀(b9:aE) (b':gQ),b'=b.set i (yn ms st i u.ag[i])->RE (HH (RD n0) m) m (O u.ag:Int) ↑i ⟨st⟩ ⟨[]⟩ ⟨u::r,ms⟩ ⟨b'⟩ b'=V (⟨j1 ms u st⟩,0):=λb9 b' e=>by
   unfold RE;rw[bS mr W]
   subst e;refine aqn n0 hl fH hs hc G9 dV j (i+1) m _ _ _ W W W (by rw[iy];omega) (λq hq=> ?_) λq hq hqb=> ?_
   .by_cases he:q=i
    .rw[he,lR W,CW hu]
    .rw[ni (tu he)];exact h1 q W
   .rw[iy] at hqb;rw[ni W]
    exact h2 q W W
  simp only[HH,Za,hq,aO,az];let ⟨z,ez,z1,z2,z3⟩:=aXt m W W hl fH hs hc hu r
  rw[ez,ai];by_cases hw:z.1<0
  .simp only[hw,aO,az];refine nx ⟨[]⟩ b ?_;have:yn ms st i u.ag[i]= []:=by unfold yn;rw[ax W]
   rw[this];let ⟨q1,q2⟩:=bk.1 hbi;rw[<-q2];exact (IB q1).symm
  .simp only[hw,aR,ay,aw];obtain ⟨w,FB⟩:∃w:Nat,z.1=(w:Int):=⟨Eb z.1,W⟩
   have vV:eA ms (i:Int)=(w:Int):=by omega
   obtain ⟨T',eI⟩:∃T',((u::ts).getLast am).ag[w]? =V T':=by
    have h0:0<O z.2:=by have h1:=((SG.of hs).bG _ (nf mr)).lV;have h2:=((SG.of hs).bG _ (nf mr)).iA;omega
    let ⟨_,z4,_⟩:=z3 0 z.2[0] (bJ h0);let ⟨w',T',e1,e2,_⟩:=z4.on W
    have:w'=w:=by omega
    rw[this] at e2;exact ⟨T',e2⟩
   have G7:w<O st:=by rw[dV.len];exact (bk.1 eI).1
   have fK:st[w]? =V st[w]:=bJ G7;let ⟨rw1,rw2⟩:=dV.row w T' st[w] eI fK;have hT2:fP T':=(mW G9).bG ↑w T' (by rw[bh];exact eI)
   have hk1:=hT2.lV;have xV:=hT2.iA;have et:yn ms st i u.ag[i]=st[w].map (qb ms ↑i (O u.ag[i].L)):=by
    unfold yn;rw[au W,vV,show Eb ((w:Int))=w by simp,fK];rfl
   rw[FB,bh,fK,ai];exact aqo (RE (HH (RD n0) m) m) (O u.ag:Int) ↑i ⟨st⟩ ⟨u::r,ms⟩ _ vV eI (λy hy=>by
    have:=fC (rw2 y hy);exact ⟨this,λe=>by rw[e] at this;simp at this;omega⟩) z3 z2 W W (nx ⟨st⟩ _ (by rw[et])) st[w] 0 m _ _ b rfl W W (by simpa using hbi) rfl
 |_,_,0,_,_,_,_,hm,_,_,_,_=>W
end
section
variable {n:Nat} {s u:af} {ms:cj} {ts:gg} {k:Nat} {st:gQ} {md:Int}
def aXx (vn:BL md) (hn:3000000<n) (fB:n<4294967296) (hs:fo s=0) (hm:∀m∈ms,MB m/\(m.aQ=8->fq m.cg)) (hl:O ms<=8) (hv:s.aC+(O ms:Int)<=1000) (hc:di s ms ts) (hk:k<=O ts) (hu:(s::ts)[k]? =V u) (dV:mu md ((s::ts).getLast am) st):
  F21 n s ms (s.aC+(k:Int)) md ⟨st⟩=V (⟨j1 (B' k ms) u st⟩,0):=by
 have li:=hc.len;let ⟨u',e1,e2,e3,e4,e5⟩:=di.drop hs hc hk;rw[hu] at e1;have e1:=kh e1;rw[<-e1] at e2 e3 e4;have e5:(u::B' k ts).getLast am=(s::ts).getLast am:=by
  rw[<-e5];congr 1;rw[e1]
 have G9:fo ((s::ts).getLast am)=0:=by
  rcases cU.1 (IL (l:=s::ts) am) with h|h
  .rw[h];exact hs
  .exact hc.kS _ h
 have hGN:=SG.of G9;have hul:=(SG.of e4).len;have hNl:=hGN.len;have Ol:=dV.tot;have AP:=dV.len;have SU:rT (O u.ag:Int) ([]:bz)=V (Va (O u.ag) []):=by
  unfold rT;rw[ax ⟨W,W⟩];rfl
 have FO:=VQ n ((s::ts).getLast am) (λT hT=>(hGN.bG T hT).yX) W fB
 rw[G9] at FO;have h26:=auW vn n _ 0 FO (λ_=>mW G9) ⟨st⟩ (by show O st+total st<=2000000;omega) W
 rw[StM.kS dV.m W] at h26
 unfold F21 awx;rw[aBx W fB hs hm hl hv hc hk,ai,e2]
 simp only[iw,ay,aw];rw[aRy ap,ai,e5,h26,ai]
 simp only[iw,ay,aw];rw[VM,ai,SU,ai,vz];rw[<-e5] at dV G9;exact aqn n ap (λm tX=>hm m (nh tX)) e4 e3 G9 dV (O u.ag) 0 n _ _ _ W W fB am (λq h=>W) λq _ hq=>by
  rw[vz] at hq;simp[hq]
def ze (hs:fo u=0) (hm:∀m∈ms,MB m/\(m.aQ=8->fq m.cg)) (hc:di u ms ts) (dV:mu md ((u::ts).getLast am) st):mu md u (j1 ms u st):=by
 have main:∀(t:Nat) T ii,u.ag[t]? =V T->(j1 ms u st)[t]? =V ii->(O ii<=24/\∀r∈ii,fL md T.av 0 (db T) r=I)/\Ord T ii:=λt T ii hT hr=>by
  rw[CW hT] at hr;cases hr;unfold yn;split
  .exact ⟨⟨am,λr hr=>by simp at hr⟩,ad9⟩
  .rename_i hw;obtain ⟨w,FB⟩:∃w:Nat,eA ms (t:Int)=(w:Int):=⟨Eb (eA ms ↑t),W⟩
   rw[FB,show Eb ((w:Int))=w by simp]
   cases hg:st[w]? with
   |none=>exact ⟨⟨am,λr hr=>by simp at hr⟩,ad9⟩
   |some ii=>
    have G7:w<O ((u::ts).getLast am).ag:=by rw[<-dV.len];exact (bk.1 hg).1
    have eI:=bJ G7;let ⟨r1,r2⟩:=dV.row w _ ii eI hg;have r3:=dV.ord w _ ii eI hg;refine ⟨⟨by simpa using r1,λr hr=> ?_⟩,?_⟩
    .obtain ⟨row,N1,rfl⟩:=dL.1 (show r∈ii.map _ from hr);exact (Ff hm hs hc hT FB eI (r2 row N1)).2.1
    .refine avj.2 (r3.imp_of_mem λ{a b} ha hb FM=> ?_)
     let ⟨k1,_,k2⟩:=Ff hm hs hc hT FB eI (r2 a ha);let ⟨_,_,k3⟩:=Ff hm hs hc hT FB eI (r2 b hb);show lt (eV T _) (eV T _);unfold eV;rw[k2,k3,<-k1];exact FM
 exact ⟨aiU _ _ _,λt T ii hT hr=>(main t T ii hT hr).1,λt T ii hT hr=>(main t T ii hT hr).2⟩
end
end
section
def ajk {m:aF} {a b:Int} (h:fp m a=fp m b) (h0:0<=fp m a):a=b:=by
 unfold fp at h h0;split at h
 .split at h
  .rename_i h7 e;rw[ax h7,ax e] at h0;omega
  .rename_i h7 e;rw[ax h7,au e] at h0;by_cases q:m.aq<a
   .rw[ax q] at h h0;split at h
    .omega
    .split at h<;>omega
   .rw[au q] at h h0;split at h
    .omega
    .split at h<;>omega
 .exact h
def aiM:∀{ms:cj} {a b:Int},eA ms a=eA ms b->0<=eA ms a->a=b
 | [],_,_,h,_=>h
 |m::ms,a,b,h,h0=>by
  simp only[eA] at h h0;split at h
  .rename_i e;rw[ax e] at h0;omega
  .rename_i e;rw[au e] at h0;split at h
   .omega
   .exact ajk (aiM h h0) W
def zR:aU:=if E= [] then [] else qb D Z H E
def Aw (md:Int) (N:af) (c:cG):Prop:=∃(w:Nat) (T:ah),c.aq=(w:Int)/\N.ag[w]? =V T/\(c.jt≠ []\/c.iv≠ [])/\(c.jt≠ []->fL md T.av 0 (db T) c.jt=I)/\(c.iv≠ []->fL md T.av 0 (db T) c.iv=I)/\(c.jt≠ []->c.iv≠ []->eV T c.jt=eV T c.iv)
def za {ms:cj} {t:Int} {n:Nat} {row:aU} (hn:0<n):zR ms t n row= []↔row= []:=by
 unfold zR;split
 .simp[*]
 .rename_i h;constructor
  .intro e;have:=bH O e;rw[uz] at this;simp at this;omega
  .intro e;exact absurd e h
def aBw (ha:O E<4294967296) (hn:O E<rt):F87 rt E an=V (eJ E an==0):=by
 unfold F87 avK;rw[yc rt E an ha hn];rfl
section
variable {N:af} {md:Int} {c:cG} {n:Nat}
def Jm {r:aU}:A' (0<(O r:Int))= !r.isEmpty:=by cases r<;>simp
def ara (vn:BL md) (hN:nF N) {w:Nat} {T:ah} (hw:c.aq=(w:Int)) (hT:N.ag[w]? =V T) {row:aU} (hr:row≠ []->fL md T.av 0 (db T) row=I) (k:Int->Iq->Int->af->cG->G Bool) (t36:Iq) (t37:Int) (hn:1000<n):V3 k n md row t36 t37 N c=k md t36 (ba (t37+1)) N c:=by
 have ht:fP T:=hN.bG ↑w T (by rw[bh];exact hT)
 have vp:idx N.ag (w:Int)=V T:=by rw[bh];exact hT
 unfold V3;rw[Jm];by_cases h:row= []
 .subst h;simp
 .have e:row.isEmpty=U:=by cases row with
   |nil=>exact absurd rfl h
   |cons=>rfl
  rw[e];simp only[gb,az];rw[hw,auS vn vp ht row hn,ai,hr h];simp
def aRu (vn:BL md) (hN:nF N) (hc:Aw md N c) (hn:2000<n):F78 n N md c=V I:=by
 let ⟨w,T,hw,hT,h1,h2,h3,h4⟩:=hc;have ht:fP T:=hN.bG ↑w T (by rw[bh];exact hT)
 have vp:idx N.ag (w:Int)=V T:=by rw[bh];exact hT
 have G7:=(bk.1 hT).1;have q1:¬((w:Int)<0):=by omega
 have q2:(w:Int)<(O N.ag:Int):=by omega
 obtain ⟨m,rfl⟩:∃m,n=m+3:=⟨n-3,W⟩
 have w1:ba (0+1)=1:=cR W W
 have w2:ba (1+1)=2:=cR W W
 have d0:A' ((0:Int)<2)=I:=rfl;have d1:A' ((1:Int)<2)=I:=rfl;have d2:A' ((2:Int)<2)=U:=rfl;have e00:((0:Int)==0)=I:=rfl;have e10:((1:Int)==0)=U:=rfl;have e11:((1:Int)==1)=I:=rfl;have main:V1 (m+3) md N c=V I:=by
  unfold V1;simp only[QP,V2,d0,az,e00];rw[ara vn hN hw hT h2 _ _ _ W,w1]
  simp only[QP,V2,d1,az,e10,ay,aw,e11];rw[ara vn hN hw hT h3 _ _ _ W,w2]
  simp only[QP,V2,d2,ay,aw,avN];rw[OB,OB];by_cases g1:c.jt= []
  .simp[g1]
  .by_cases g2:c.iv= []
   .simp[g2]
   .have i1:c.jt.isEmpty=U:=by simpa using g1
    have i2:c.iv.isEmpty=U:=by simpa using g2
    have l1:=fC (h2 g1);have l2:=fC (h3 g2);have h8:=ht.cols;rw[i1,i2];simp only[ay,aw];rw[hw,C6 vp ht _ l1,ai,C6 vp ht _ l2,ai,aBw _ _ _ ap ap,ai]
    have e:=h4 g1 g2;unfold eV at e;rw[e,sn];rfl
 unfold F78 avM;rw[hw];simp only[q1,q2,aR,aO,cO,ay,aw];rw[OB,OB,main];by_cases g1:c.jt= []
 .have g2:c.iv≠ []:=h1.resolve_left λh=>h g1
  have i2:c.iv.isEmpty=U:=by simpa using g2
  rw[g1,i2];simp
 .have i1:c.jt.isEmpty=U:=by simpa using g1
  rw[i1];simp
def lp:aU:=eV vQ (if aa.jt.isEmpty=I then aa.iv else aa.jt)
def aXn (hN:nF N) {w:Nat} {T:ah} (hw:c.aq=(w:Int)) (hT:N.ag[w]? =V T) (hc:Aw md N c):F88 n N c=V (lp T c):=by
 let ⟨w',T',vV,eI,h1,h2,h3,_⟩:=hc;have:w'=w:=by omega
 rw[this,hT] at eI;cases eI;have ht:fP T:=hN.bG ↑w T (by rw[bh];exact hT)
 have vp:idx N.ag (w:Int)=V T:=by rw[bh];exact hT
 unfold F88 avJ lp;rw[Jm,hw];by_cases g1:c.jt= []
 .have g2:c.iv≠ []:=h1.resolve_left λh=>h g1
  rw[g1];simp only[Eo,cO,ay,aw,az];rw[C6 vp ht _ (fC (h3 g2))];rfl
 .have i1:c.jt.isEmpty=U:=by simpa using g1
  rw[i1];simp only[gb,az,ay,aw];rw[C6 vp ht _ (fC (h2 g1))];rfl
end
def uF:aU:=((C.ag[Eb aa.aq]?).map λT=>lp T aa).getD []
def OE:Int:=if aa.aq=aT.aq then eJ (uF C aa) (uF C aT) else aa.aq-aT.aq
section
variable {N:af} {md:Int} {n:Nat}
def Qk {c:cG} {w:Nat} {T:ah} (hw:c.aq=(w:Int)) (hT:N.ag[w]? =V T):uF N c=lp T c:=by
 unfold uF;rw[hw,show Eb ((w:Int))=w by simp,hT];rfl
def RW:Prop:=aL.Pairwise λc d=>0<OE C d c
end
def akA (h:O E<=1000):F77 rt E=V E:=by
 unfold F77 avO;rw[dm _ _ ap];simp
section
variable {N:af} {md:Int} {n:Nat}
def Aw.lens (hN:nF N) {c:cG} (h:Aw md N c):O c.jt<=8/\O c.iv<=8:=by
 let ⟨w,T,hw,hT,_,h2,h3,_⟩:=h;have ht:fP T:=hN.bG ↑w T (by rw[bh];exact hT)
 have h8:=ht.cols;constructor
 .by_cases g:c.jt= []
  .rw[g];simp
  .have:=fC (h2 g);omega
 .by_cases g:c.iv= []
  .rw[g];simp
  .have:=fC (h3 g);omega
end
end
section
def jP (T:ah) (k:aU) (ii:bz) (r:aU):Prop:=(r∈ii/\r≠ []/\eV T r=k)\/(r= []/\∀y∈ii,eV T y≠k)
section
variable {T:ah} {k k':aU} {ii:bz} {r r':aU}
def jP.one (hO:Ord T ii) (h:jP T k ii r) (h':jP T k ii r'):r=r':=by
 rcases h with ⟨h1,h2,h3⟩|⟨h1,h2⟩<;>rcases h' with ⟨g1,g2,g3⟩|⟨g1,g2⟩
 .obtain ⟨i,hi,rfl⟩:=IE h1;obtain ⟨j,hj,rfl⟩:=IE g1;rcases Nat.lt_trichotomy i j with h|h|h
  .have:=tz.1 hO i j hi hj h;rw[h3,g3] at this;exact absurd this (lt_irrefl _)
  .subst h;rfl
  .have:=tz.1 hO j i hj hi h;rw[h3,g3] at this;exact absurd this (lt_irrefl _)
 .exact absurd h3 (g2 r h1)
 .exact absurd g3 (h2 r' g1)
 .rw[h1,g1]
def jP.put (hr:r≠ []->eV T r=k):jP T k (mX T k (lC r) ii) r:=by
 by_cases h:r= []
 .refine .inr ⟨h,λy hy=> ?_⟩
  rcases Br.1 hy with h1|h1
  .exact h1.2
  .rw[h] at h1;simp[lC] at h1
 .exact .inl ⟨Br.2 (.inr (by simp[lC,h])),h,hr h⟩
def jP.other (dd:k'≠k) (hr:r≠ []->eV T r=k) (h:jP T k' ii r'):jP T k' (mX T k (lC r) ii) r':=by
 rcases h with ⟨h1,h2,h3⟩|⟨h1,h2⟩
 .exact .inl ⟨Br.2 (.inl ⟨h1,λe=>dd (h3.symm.trans e)⟩),h2,h3⟩
 .refine .inr ⟨h1,λy hy=> ?_⟩
  rcases Br.1 hy with g|g
  .exact h2 y g.1
  .unfold lC at g;split at g
   .simp at g
   .rename_i h0;rw[gy.1 g,hr h0];exact λe=>dd e.symm
end
section
variable {N:af} {a b c d x:cG}
def same:Prop:=OE C aa aT=0
def aCm:same N c d↔c.aq=d.aq/\uF N c=uF N d:=by
 unfold same OE;by_cases h:c.aq=d.aq
 .rw[ax h,BY];simp[h]
 .rw[au h];constructor
  .intro e;omega
  .intro e;exact absurd e.1 h
end
section
variable {N:af} {md:Int} {c d f l:cG}
def aiB {T:ah} (h:c.jt≠ []):lp T c=eV T c.jt:=by
 have:c.jt.isEmpty=U:=by simpa using h
 unfold lp;rw[this];rfl
def Li {T:ah} (h:c.iv≠ []) (hk:c.jt≠ []->c.iv≠ []->eV T c.jt=eV T c.iv):lp T c=eV T c.iv:=by
 by_cases g:c.jt= []
 .unfold lp;rw[g];rfl
 .rw[aiB g,hk g h]
end
structure DP (md:Int) (N:af) (b:Nat) (st:gQ):Prop where
 len:st.length=N.ag.length
 row:∀(t:Nat) T rows,N.ag[t]? =V T->st[t]? =V rows->rows.length<=b/\(∀r∈rows,fL md T.av 0 (db T) r=I)/\Ord T rows
def mu.b8 {md:Int} {N:af} {st:gQ} (h:mu md N st) (hf:RU st):DP md N 8 st:=⟨h.len,λt T ii hT hr=>⟨hf t ii hr,(h.row t T ii hT hr).2,h.ord t T ii hT hr⟩⟩
def mu.b {md:Int} {N:af} {st:gQ} (h:mu md N st):DP md N 24 st:=⟨h.len,λt T ii hT hr=>⟨(h.row t T ii hT hr).1,(h.row t T ii hT hr).2,h.ord t T ii hT hr⟩⟩
def DP.g {md:Int} {N:af} {b:Nat} {st:gQ} (h:DP md N b st) (hb:b<=24):mu md N st:=⟨h.len,λt T ii hT hr=>⟨lO (h.row t T ii hT hr).1 hb,(h.row t T ii hT hr).2.1⟩,λt T ii hT hr=>(h.row t T ii hT hr).2.2⟩
def jP.ex {T:ah} {ii:bz} (k:aU) (h0:∀y∈ii,y≠ []):∃r,jP T k ii r:=by
 by_cases h:∃y∈ii,eV T y=k
 .let ⟨y,h1,h2⟩:=h;exact ⟨y,.inl ⟨h1,h0 y h1,h2⟩⟩
 .exact ⟨[],.inr ⟨rfl,λy hy e=>h ⟨y,hy,e⟩⟩⟩
def aXl:Prop:=∀(w:Nat) T ii io k r,C.ag[w]? =V T->F[w]? =V ii->aA[w]? =V io->(∀x∈aL,x.aq=(w:Int)->uF C x≠k)->jP T k ii r->jP T k io r
def L3 (N:af) (st:gQ) (c:cG) (r:aU):Prop:=∃(w:Nat) (T:ah) (ii:bz),c.aq=(w:Int)/\N.ag[w]? =V T/\st[w]? =V ii/\jP T (uF N c) ii r
structure Ao (N:af) (st kE:gQ) (out:jX):Prop where
 old:∀c∈out,L3 N st c c.jt
 new:∀c∈out,L3 N kE c c.iv
 rest:aXl N st kE out
section
variable {N:af} {md:Int} {c d f l:cG} {st st0:gQ} {r k:aU} {ch:jX} {b w:Nat} {T:ah} {ii:bz}
def L3.is (h:L3 N st c r) (hw:c.aq=(w:Int)) (hT:N.ag[w]? =V T) (hr:st[w]? =V ii) (hk:uF N c=k):jP T k ii r:=by
 let ⟨w',T',io,e1,e2,e3,e4⟩:=h;obtain rfl:w'=w:=by omega
 rw[hT] at e2;cases e2;rw[hr] at e3;cases e3;rw[hk] at e4;exact e4
end
def DP.ne {md:Int} {N:af} {b:Nat} {st:gQ} {w:Nat} {T:ah} {ii:bz} (hN:nF N) (h:DP md N b st) (hT:N.ag[w]? =V T) (hr:st[w]? =V ii):∀y∈ii,y≠ []:=λy hy e=>by
 have ht:=hN.bG ↑w T (by rw[bh];exact hT)
 have k1:=ht.lV;have k2:=ht.iA;have:=fC ((h.row w T ii hT hr).2.1 y hy);rw[e] at this;simp at this;omega
section
variable {u:af} {ms:cj} {ts:gg} {net:jX} {md:Int} {st kE:gQ} {q w:Nat} {T T':ah} {ii:bz} {r k:aU}
def jP.down (hs:fo u=0) (hm:∀m∈ms,MB m/\(m.aQ=8->fq m.cg)) (hc:di u ms ts) (hT:u.ag[q]? =V T) (hw:eA ms (q:Int)=(w:Int)) (eI:((u::ts).getLast am).ag[w]? =V T') (hr:∀r∈ii,fL md T'.av 0 (db T') r=I) (h:jP T' k ii r):
  jP T k (ii.map (qb ms (q:Int) (O T.L))) (zR ms (q:Int) (O T.L) r):=by
 have DK:=(SG.of hs).bG T (bF hT);have k1:=DK.lV;have k2:=DK.iA;have h0:0<O T.L:=by omega
 have key:∀y∈ii,eV T (qb ms ↑q (O T.L) y)=eV T' y:=λy hy=>by
  let ⟨f1,f2,f3⟩:=Ff hm hs hc hT hw eI (hr y hy);unfold eV;rw[f3,f1]
 rcases h with ⟨h1,h2,h3⟩|⟨h1,h2⟩
 .have e:zR ms ↑q (O T.L) r=qb ms ↑q (O T.L) r:=by unfold zR;rw[au h2]
  exact .inl ⟨by rw[e];exact dL.2 ⟨r,h1,rfl⟩,λe=>h2 ((za h0).1 e),by rw[e,key r h1];exact h3⟩
 .refine .inr ⟨(za h0).2 h1,λy hy=> ?_⟩
  obtain ⟨z,hz,rfl⟩:=dL.1 hy;rw[key z hz];exact h2 z hz
def Hl (hT:u.ag[q]? =V T) (hw:eA ms (q:Int)=(w:Int)) (hr:st[w]? =V ii):(j1 ms u st)[q]? =V (ii.map (qb ms (q:Int) (O T.L))):=by
 rw[CW hT];unfold yn;rw[au W,hw,show Eb ((w:Int))=w by simp,hr];rfl
end
end
section
def apg {T:ah}:∀{a b:bz},Ord T a->Ord T b->(∀y,y∈a↔y∈b)->a=b
 | [],[],_,_,_=>rfl
 | [],y::_,_,_,h=>by have:=(h y).2 am;cases this
 |x::_,[],_,_,h=>by have:=(h x).1 am;cases this
 |x::a,y::b,ha,hb,h=>by
  let ⟨a1,a2⟩:=nk.1 ha;let ⟨b1,b2⟩:=nk.1 hb;have e:x=y:=by
   rcases cU.1 ((h x).1 am) with e|h1
   .exact e
   rcases cU.1 ((h y).2 am) with e|h2
   .exact e.symm
   exact absurd (lt_trans (a1 y h2) (b1 x h1)) (lt_irrefl _)
  subst e;rw[apg a2 b2 λz=>⟨λhz=>(cU.1 ((h z).1 (by simp[hz]))).resolve_left λe=> ?_,λhz=>(cU.1 ((h z).2 (by simp[hz]))).resolve_left λe=> ?_⟩]
  .have:=a1 z hz;rw[e] at this;exact lt_irrefl _ this
  .have:=b1 z hz;rw[e] at this;exact lt_irrefl _ this
section
variable {N:af} {md:Int} {c:cG} {st kE:gQ} {out:jX} {b t:Nat} {T:ah} {ii:bz}
def Ao.fin (hN:nF N) (h0:DP md N b st) (h1:DP md N b' kE) (h:Ao N st kE []):st=kE:=pK λq=>by
 have l0:=h0.len;have l1:=h1.len;by_cases hq:q<O N.ag;rotate_left
 .rw[mw W,mw W]
 obtain ⟨T,hT⟩:∃T,N.ag[q]? =V T:=⟨_,bJ hq⟩;obtain ⟨R,hR⟩:∃R,st[q]? =V R:=⟨_,bJ W⟩
 obtain ⟨R',FN⟩:∃R',kE[q]? =V R':=⟨_,bJ W⟩
 rw[hR,FN];have n0:=h0.ne hN hT hR;have n1:=h1.ne hN hT FN;have to:∀{k r},jP T k R r->jP T k R' r:=λ{k r} hr=>h.rest q T R R' k r hT hR FN am hr
 have mem:∀{X:bz} {k r},r≠ []->jP T k X r->r∈X:=λhn hr=>by
  rcases hr with hr|hr
  .exact hr.1
  .exact absurd hr.1 hn
 rw[apg (h0.row q T R hT hR).2.2 (h1.row q T R' hT FN).2.2 λy=>⟨λhy=>mem (n0 y hy) (to (.inl ⟨hy,n0 y hy,rfl⟩)),λhy=> ?_⟩]
 let ⟨r0,AQ⟩:=jP.ex (T:=T) (eV T y) n0;have e:=(to AQ).one (h1.row q T R' hT FN).2.2 (.inl ⟨hy,n1 y hy,rfl⟩);rw[e] at AQ;exact mem (n1 y hy) AQ
def DP.put (h:DP md N b st) (hC:Aw md N c) (hw:c.aq=(t:Int)) (hT:N.ag[t]? =V T) (hr:st[t]? =V ii):DP md N (b+1) (st.set t (mX T (lp T c) (lC c.iv) ii)):=by
 have vW:=(bk.1 hr).1;let ⟨s1,s2,s3⟩:=h.row t T ii hT hr;let ⟨w,T',w1,w2,w3,w4,w5,w6⟩:=hC;obtain rfl:w=t:=by omega
 rw[hT] at w2;cases w2;refine ⟨by rw[iy];exact h.len,λq T' io eI iN=> ?_⟩
 by_cases hq:q=w
 .subst hq;rw[hT] at eI;cases eI;rw[lR vW] at iN;cases iN;have hl:=avv (T:=T) (lp T c) (lC c.iv) ii;have ho:O (lC c.iv)<=1:=by unfold lC;split<;>simp
  refine ⟨W,λy hy=> ?_,ahQ s3 ?_⟩
  .rcases Br.1 hy with g|g
   .exact s2 y g.1
   .unfold lC at g;split at g
    .cases g
    .rename_i hn;rw[gy.1 g];exact w5 hn
  .unfold lC;split
   .exact .inl rfl
   .rename_i hn;exact .inr ⟨_,rfl,(Li hn w6).symm⟩
 .rw[ni (tu hq)] at iN;let ⟨a1,a2⟩:=h.row q T' io eI iN;exact ⟨W,a2⟩
def Ao.step (hN:nF N) (dV:DP md N b st) (hC:Aw md N c) (hO:RW N (c::out)) (h:Ao N st kE (c::out)) (hw:c.aq=(t:Int)) (hT:N.ag[t]? =V T) (hr:st[t]? =V ii):
  Ao N (st.set t (mX T (lp T c) (lC c.iv) ii)) kE out:=by
 have vW:=(bk.1 hr).1;have hp:=dV.put hC hw hT hr;let ⟨s1,s2,s3⟩:=dV.row t T ii hT hr;let ⟨o1,o2⟩:=nk.1 hO;have hwr:c.iv≠ []->eV T c.iv=lp T c:=λe=>by
  let ⟨w,T',w1,w2,w3,w4,w5,w6⟩:=hC;obtain rfl:w=t:=by omega
  rw[hT] at w2;cases w2;exact (Li e w6).symm
 have hk:uF N c=lp T c:=Qk hw hT;have qt:∀x∈out,x.aq=(t:Int)->uF N x≠lp T c:=λx hx e1 e2=>by
  have h1:=o1 x hx;have h2:OE N x c=0:=aCm.2 ⟨e1.trans hw.symm,e2.trans hk.symm⟩;omega
 refine ⟨λx hx=> ?_,λx hx=>h.new x (fj _ hx),λq T' rq rq' k r eI g1 g2 hx iN=> ?_⟩
 .let ⟨q,T',rq,e1,e2,e3,e4⟩:=h.old x (fj _ hx);by_cases hq:q=t
  .subst hq;rw[hT] at e2;cases e2;rw[hr] at e3;cases e3;exact ⟨q,T,_,e1,hT,lR vW,e4.other (qt x hx e1) hwr⟩
  .exact ⟨q,T',rq,e1,e2,by rw[ni (tu hq)];exact e3,e4⟩
 .by_cases hq:q=t
  .subst hq;rw[hT] at eI;cases eI;have hOp:=(hp.row q T rq hT g1).2.2;rw[lR vW] at g1;cases g1;by_cases e:k=lp T c
   .rw[iN.one hOp (by rw[e];exact jP.put hwr)]
    exact (h.new c am).is hw hT g2 (hk.trans e.symm)
   .let ⟨r0,AQ⟩:=jP.ex (T:=T) (ii:=ii) k (dV.ne hN hT hr);rw[iN.one hOp (AQ.other e hwr)];exact h.rest q T ii rq' k r0 hT hr g2 (λx hx1 e1 e2=>by
     rcases cU.1 hx1 with rfl|hx1
     .exact e (e2.symm.trans hk)
     .exact hx x hx1 e1 e2) AQ
  .rw[ni (tu hq)] at g1;exact h.rest q T' rq rq' k r eI g1 g2 (λx hx1 e1 e2=>by
    rcases cU.1 hx1 with rfl|hx1
    .omega
    .exact hx x hx1 e1 e2) iN
end
end
section
def half (h:rt+H<=2000000):ba (Int.fdiv (IntKind.wrap .u64 (ba ((rt:Int)+(H:Int)))) 2)=(((rt+H) / 2:Nat):Int):=by
 rw[cR (x:=(rt:Int)+(H:Int)) W W,IntWalk.u64_in _ W,Int.fdiv_eq_ediv_of_nonneg _ W,cR W W]
 omega
structure Place (T:ah) (key:aU) (rows:bz) (p:Nat):Prop where
 le:p<=rows.length
 lo:∀k r,rows[k]? =V r->k<p->lt (eV T r) key
 hi:∀k r,rows[k]? =V r->p<=k->¬lt (eV T r) key
def Ord.get {T:ah} {ii:bz} (h:Ord T ii) {a b:aU} (hi:ii[i]? =V a) (hj:ii[j]? =V b) (Ha:i<j):lt (eV T a) (eV T b):=by
 obtain ⟨h1,rfl⟩:=bk.1 hi;obtain ⟨h2,rfl⟩:=bk.1 hj;exact tz.1 h i j h1 h2 Ha
def atK:G aU->Bool
 |some r=>eJ (eV vQ r) an==0
 |none=>U
def aaT {xs:List Y} {k:Nat} (h:k<=O xs):Ij xs (k:Int) (k:Int)=V (C' k xs):=by
 unfold Ij;rw[ax ⟨rfl,W,W⟩];rfl
def LP {xs:List Y} {k:Nat} (h:k<=O xs):cut xs (V (k:Int)) A=V (B' k xs):=by
 unfold cut;simp only[AY,IK,Pv,IM];rw[ax ⟨W,W,h,W⟩,nj]
section
variable {s:af} {t n:Nat} {T:ah} {c:cG} {key:aU} {ii:bz} {md:Int}
def aqT (hT:idx s.ag (t:Int)=V T) (ht:fP T) (hc:c.aq=(t:Int)) (row key:aU) (hr:O row=O T.L) (hn:1000<n):xu n row key s c=V (eJ (eV T row) key,s,c):=by
 have h8:=ht.cols;unfold xu amC;rw[hc,C6 hT ht row hr,ai,yc n _ key ap ap]
 rfl
def abg (n0:Nat) (hT:idx s.ag (t:Int)=V T) (ht:fP T) (hc:c.aq=(t:Int)) (key:aU) (hl:O ii<=1000000) (hr:∀r∈ii,O r=O T.L) (hO:Ord T ii):
  ∀(d i j m:Nat),j-i<=d->d+1000<m->i<=j->j<=O ii->(∀k r,ii[k]? =V r->k<i->lt (eV T r) key)->(∀k r,ii[k]? =V r->j<=k->¬lt (eV T r) key)->
   ∃p,Place T key ii p/\Ke (Ph n0) m ii key (O ii:Int) (i:Int) (j:Int) s c=Ph n0 ii key (O ii:Int) (p:Int) s c
 |d,i,j,0,_,hm,_,_,_,_=>W
 |d,i,j,m+1,hd,hm,Ha,hj,hlo,hhi=>by
  by_cases h:i<j
  .have hq:(i:Int)<(j:Int):=by omega
   have hh:(i+j) / 2<O ii:=by omega
   have hg:ii[(i+j) / 2]? =V ii[(i+j) / 2]:=bJ hh;have mM:=hr _ (nf hh);simp only[Ke,XH,hq,aO,az,half i j W,bh,hg,ai,aqT hT ht hc _ key mM (W:1000<m)]
   by_cases jm:eJ (eV T ii[(i+j) / 2]) key<0
   .have e:ba ((((i+j) / 2:Nat):Int)+1)=(((i+j) / 2+1:Nat):Int):=by rw[cR W W];omega
    simp only[jm,aO,az,e];refine abg n0 hT ht hc key hl hr hO (d-1) ((i+j) / 2+1) j m W W W hj (λk r hk cT=> ?_) hhi
    by_cases jz:k=(i+j) / 2
    .subst jz;rw[hg] at hk;cases hk;exact xf.1 jm
    .exact lt_trans (hO.get hk hg W) (xf.1 jm)
   .simp only[jm,aR,ay,aw];refine abg n0 hT ht hc key hl hr hO (d-1) i ((i+j) / 2) m W W W W hlo (λk r hk lm=> ?_)
    by_cases jz:k=(i+j) / 2
    .subst jz;rw[hg] at hk;cases hk;exact λh=>jm (xf.2 h)
    .exact λh=>jm (xf.2 (lt_trans (hO.get hg hk W) h))
  .have e:i=j:=by omega
   subst e;have hq:¬((i:Int)<(i:Int)):=by omega
   refine ⟨i,⟨hj,hlo,hhi⟩,?_⟩;simp only[Ke,XH,hq,aR,ay,aw]
def aLx (hT:idx s.ag (t:Int)=V T) (ht:fP T) (hc:c.aq=(t:Int)) (key:aU) (hl:O ii<=100000) (hr:∀r∈ii,O r=O T.L) (hO:Ord T ii) (hn:200000<n):
  ∃p,Place T key ii p/\Tk n ii key s c=V ((p:Int),atK T key ii[p]?,s,c):=by
 let ⟨p,h1,h2⟩:=abg n hT ht hc key W hr hO (O ii) 0 (O ii) n W W W (cM _) (λk r _ h=>W) (λk r hk h=>by
  have:=(bk.1 hk).1;omega)
 refine ⟨p,h1,?_⟩;unfold Tk amD;rw[show (0:Int)=((0:Nat):Int) from rfl,h2];unfold Ph;by_cases h:p<O ii
 .have hq:(p:Int)<(O ii:Int):=by omega
  have hg:ii[p]? =V ii[p]:=bJ h;have mM:=hr _ (nf h);simp only[hq,aO,az,bh,hg,ai,aqT hT ht hc _ key mM (W:1000<n),atK]
 .have hq:¬(p:Int)<(O ii:Int):=by omega
  have hg:ii[p]? =A:=mw W
  simp only[hq,aR,ay,aw,hg,atK]
def alq (hl:O al+O ao<=1000000):V0 n al ao=V (al++ao,I):=by
 unfold V0;rw[aaT (cM _),nj,ai];cases ao with
 |nil=>simp
 |cons y ao=>rw[dm _ _ hl];rfl
def alp (hl:O al+O ao<=999999) (hn:O c.iv<=1000):VZ n al ao c=V (al++lC c.iv++ao,I):=by
 unfold VZ lC;rw[Jm];cases hc:c.iv with
 |nil=>simp only[Eo,cO,ay,aw,az,rE];exact alq al ao W
 |cons y l=>
  rw[hc] at hn;simp only[List.isEmpty_cons,gb,az,akA n (y::l) hn,ai,au (List.cons_ne_nil _ _)];rw[dm _ _ ap,ai]
  exact alq _ ao ap
def aRt (hN:nF s) (hC:Aw md s c) (hT:s.ag[t]? =V T) (hc:c.aq=(t:Int)) (hl:O ii<=100000) (hr:∀r∈ii,O r=O T.L) (hO:Ord T ii) (h:jP T (lp T c) ii c.jt) (hn:200000<n):F79 n s ii c=V (mX T (lp T c) (lC c.iv) ii,I):=by
 have vp:idx s.ag (t:Int)=V T:=by rw[bh];exact hT
 have ht:=hN.bG ↑t T vp;have h8:=ht.cols;let ⟨_,hnl⟩:=hC.lens hN;let ⟨p,hp,hf⟩:=aLx (n:=n) vp ht hc (lp T c) hl hr hO hn;have hA:∀r∈C' p ii,lt (eV T r) (lp T c):=λr iN=>by
  obtain ⟨k,hk,rfl⟩:=IJ.1 iN;rw[dv] at hk;exact hp.lo k _ (by rw[List.getElem_take];exact bJ _) W
 have hB:∀k r,ii[k]? =V r->p<=k->eV T r≠lp T c->lt (lp T c) (eV T r):=λk r hk lm dd=>by
  rcases UU (eV T r) (lp T c) with h|h|h
  .exact absurd h (hp.hi k r hk lm)
  .exact absurd h dd
  .exact h
 have um:=hp.le;unfold F79 avL;rw[aXn hN hc hT hC,ai,hf,ai];simp only[Jm];rcases h with ⟨h2,h1,ek⟩|⟨h1,h3⟩
 .have eo:c.jt.isEmpty=U:=by simpa using h1
  let ⟨k,hk⟩:=lP h2;have hkp:p<=k:=by
   by_cases hh:p<=k
   .exact hh
   .exact absurd (hp.lo k _ hk W) (by rw[ek];exact lt_irrefl _)
  have xU:=(bk.1 hk).1;have hpk:p=k:=by
   by_cases hh:p=k
   .exact hh
   .exact absurd (hO.get (bJ W) hk (W:p<k)) (by rw[ek];exact hp.hi p _ (bJ W) (cM _))
  subst hpk;have e:atK T (lp T c) (V c.jt)=I:=by simp only[atK,ek,sn,gV]
  have Jr:=hr _ h2;simp only[e,eo,gb,gV,cO,ay,aw,az,bh,hk,ai,aBw n c.jt c.jt W W,sn]
  unfold VY;have hw:ba ((p:Int)+1)=((p+1:Nat):Int):=by rw[cR W W];omega
  rw[aaT um,ai,LP um,ai,ax rfl,hw,LP W,ai,alp _ _ ap W]
  have hs:ii=C' p ii++c.jt::B' (p+1) ii:=by
   let ⟨h3,h4⟩:=bk.1 hk;rw[<-h4,<-tE h3,vC]
  conv=>rhs;rw[hs]
  rw[ayg hA ek (λr iN=>by
   let ⟨k,jz⟩:=lP iN;rw[fF] at jz;rw[<-ek];exact hO.get hk jz W)]
 .have e:atK T (lp T c) ii[p]? =U:=by
   cases hg:ii[p]? with
   |none=>rfl
   |some r=>
    simp only[atK,asz];exact λhe=>h3 r (bF hg) (tO he)
  simp only[e,h1,Eo,cO,gV,ay,aw];unfold VY;rw[aaT um,ai,LP um,ai,au am,alp _ _ ap W]
  rw[<-aCt (k:=lp T c) (N:=lC c.iv) hA (B:=B' p ii) (λr iN=>by
   let ⟨k,hk⟩:=lP iN;rw[fF] at hk;exact hB (p+k) r hk W (h3 r (bF hk))),vC]
end
end
section
def abK:∀{ts:gQ} {t:Nat} {ii io:bz},ts[t]? =V ii->total (ts.set t io)+O ii=total ts+O io
 | [],_,_,_,h=>by simp at h
 |y::ts,0,ii,io,h=>by
  simp at h;subst h;simp only[List.set_cons_zero,total];omega
 |y::ts,t+1,ii,io,h=>by
  have:=abK (io:=io) (show ts[t]? =V ii by simpa using h)
  simp only[List.set_cons_succ,total];omega
def aRx (hl:O F+total F<=2000000) (hn:O F<rt):F65 rt ⟨F⟩=V ((total F:Nat):Int):=by
 have h:=akh (V8 rt) F hl F 0 rt 0 rfl hn W
 unfold F65 Zn;simp only[show ((0:Nat):Int)=0 from rfl,cN] at h;rw[h];rfl
section
variable {N:af} {md:Int} {st kE:gQ} {cs:jX} {n:Nat}
def aqi {R:G (aE×Int)} (k:Int->jX->gQ->Int->Int->af->aE->aE->gQ->G (aE×Int)) (ts:gQ) (a b:Int) (tt:Nat) (B:gQ) (ii:bz) (hl:O ii<=1000) (hr:∀r∈ii,O r<=1000) (hk:k md cs ts a b N ⟨[]⟩ ⟨B⟩ B=R):∀(x:bz) (i m:Nat) (z1 z2:aE) (bb:gQ),B' i ii=x->i<=O ii->O x<m->bb[tt]? =V (C' i ii)->bb.set tt ii=B->
  Q1 k m md cs (tt:Int) ts a b ii (O ii:Int) (i:Int) N z1 z2 bb=R
 | [],i,m+1,z1,z2,bb,hd,sD,hm,hb,hB=>by
  let ⟨hi,hq⟩:=eu hd
  simp only[Q1,aeY,hq,aR,ay,aw];rw[jc hi] at hb;let ⟨q1,q2⟩:=bk.1 hb;have:bb=B:=by rw[<-hB,<-q2];exact (IB q1).symm
  rw[this];exact hk
 |r::x,i,m+1,z1,z2,bb,hd,sD,hm,hb,hB=>by
  let ⟨g1,g2,g3,hq⟩:=dN hd
  have rm:=(bk.1 hb).1;simp at hm;simp only[Q1,aeY,hq,aO,az,bh,g1,ai,gx rm,cN,hb,akA m r (hr r (bF g1))];rw[dm _ _ ap,ai,dD _ rm,ai,bS g3 (W:O ii<4294967296)]
  refine aqi k ts a b tt B ii hl hr hk x (i+1) m _ _ _ g2 W W ?_ ?_
  .rw[lR rm,qO,g1];simp
  .rw[vy];exact hB
 |_,_,0,_,_,_,_,_,hm,_,_=>W
def aqh (n0:Nat) (ts:gQ) (cT:O ts<=1000) (hl:∀ii∈ts,O ii<=1000/\∀r∈ii,O r<=1000):∀(j i m:Nat) (z1 z2:aE) (bb:gQ),i+j=O ts->j+2000<m->O bb=O ts->(∀q,q<i->bb[q]? =ts[q]?)->(∀q,i<=q->q<O bb->bb[q]? =V [])->
  Me (Ry n0) m md cs ts (O ts:Int) (i:Int) N z1 z2 bb=Ry n0 md cs N ⟨[]⟩ ⟨ts⟩ ts
 |0,i,m+1,z1,z2,bb,hi,hm,hb,h1,h2=>by
  have hq:¬((i:Int)<(O ts:Int)):=by omega
  simp only[Me,aeW,hq,aR,ay,aw];have:bb=ts:=pK λq=>by
   by_cases hq:q<i
   .exact h1 q hq
   .rw[mw W,mw W]
  rw[this]
 |j+1,i,m+1,z1,z2,bb,hi,hm,hb,h1,h2=>by
  have hq:(i:Int)<(O ts:Int):=by omega
  have mr:i<O ts:=by omega
  have hg:ts[i]? =V ts[i]:=bJ mr;let ⟨r1,r2⟩:=hl ts[i] (nf mr);simp only[Me,aeW,hq,aO,az,bh,hg,ai];refine aqi (aeX (Me (Ry n0) m) m) ts (O ts:Int) ↑i i (bb.set i ts[i]) ts[i] r1 r2 ?_ ts[i] 0 m _ _ bb rfl W W (by simpa using h2 i (cM _) W) rfl
  unfold aeX;rw[bS mr (W:O ts<4294967296)]
  refine aqh n0 ts cT hl j (i+1) m _ _ _ W W (by rw[iy];exact hb) (λq hq=> ?_) λq hq hqb=> ?_
  .by_cases he:q=i
   .rw[he,lR W,hg]
   .rw[ni (tu he)];exact h1 q W
  .rw[iy] at hqb;rw[ni W]
   exact h2 q W hqb
 |_,_,0,_,_,_,_,hm,_,_,_=>W
def aqg (vn:BL md) (hN:nF N) (n0 b':Nat) (dX:O cs<=1000) (hC:∀c∈cs,Aw md N c) (h1:DP md N b' kE):∀(x:jX) (i m b:Nat) (st:gQ) (z1 z2:aE),B' i cs=x->O x+300000<m->DP md N b st->b+O x<=1000->RW N x->Ao N st kE x->total st+O x<=512->
  Q0 (aeU n0) m md ((total st:Nat):Int) cs (O cs:Int) (i:Int) N z1 z2 st=V (⟨kE⟩,0)
 | [],i,m+1,b,st,z1,z2,hd,hm,hb,rm,hO,h,Ol=>by
  have zY:O cs<=i:=by simpa using hd
  have hq:¬((i:Int)<(O cs:Int)):=by omega
  simp only[Q0,aeV,aeU,hq,aR,ay,aw];rw[h.fin hN hb h1]
 |c::x,i,m+1,b,st,z1,z2,hd,hm,hb,rm,hO,h,Ol=>by
  let ⟨g1,g2,g3,hq⟩:=dN hd
  have fc:=hC c (bF g1);let ⟨t,T,ii,e1,e2,e3,e4⟩:=h.old c am
  rw[Qk e1 e2] at e4;let ⟨r1,r2,r3⟩:=hb.row t T ii e2 e3;have vW:=(bk.1 e3).1;have aDs:=hb.put fc e1 e2 e3;have Lr:=h.step hN hb fc hO e1 e2 e3;have mU:=abK (io:=mX T (lp T c) (lC c.iv) ii) e3;have um:=avv (T:=T) (lp T c) (lC c.iv) ii;have Jr:O (lC c.iv)<=1:=by unfold lC;split<;>simp
  simp at hm Ol rm;have ew:ba (((total st:Nat):Int)+ba ((O (mX T (lp T c) (lC c.iv) ii):Int)-(O ii:Int)))=((total (st.set t (mX T (lp T c) (lC c.iv) ii)):Nat):Int):=by
   rw[cR (x:=(O (mX T (lp T c) (lC c.iv) ii):Int)-(O ii:Int)) W W,cR W W]
   omega
  have e5:¬(512:Int)<((total (st.set t (mX T (lp T c) (lC c.iv) ii)):Nat):Int):=by omega
  simp only[Q0,aeV,hq,aO,az,bh,g1,ai,aRu (n:=m) vn hN fc W,cO,ay,aw,e1,gx vW,cN,e3,
   aRt (n:=m) hN fc e2 e1 W (λy hy=>fC (r2 y hy)) r3 e4 W,ew,e5,aR,dD _ vW,bS g3 (W:O cs<4294967296)]
  exact aqg vn hN n0 b' dX hC h1 x (i+1) m (b+1) _ _ _ g2 W aDs W (nk.1 hO).2 Lr W
 |_,_,0,_,_,_,_,_,hm,_,_,_,_,_=>W
def aJb (vn:BL md) (hN:nF N) (FO:Kq n N=V 0) (h0:mu md N st) (h1:mu md N kE) (hC:∀c∈cs,Aw md N c) (hO:RW N cs) (hl:O cs<=20) (h:Ao N st kE cs) (hn:2000100<=n):F32 n N md ⟨st⟩ cs=V (⟨kE⟩,0):=by
 have hl8:=hN.len;have li:=h0.len;have Ol:=h0.tot;have SU:rT (O st:Int) ([]:bz)=V (Va (O st) []):=by
  unfold rT;rw[ax ⟨W,W⟩];rfl
 have h26:=auW vn n N 0 FO (λ_=>hN) ⟨st⟩ (by show O st+total st<=2000000;omega) hn
 rw[StM.kS h0.m W] at h26
 unfold F32 awp;rw[h26,ai];simp only[iw,ay,aw];rw[SU,ai];rw[show (0:Int)=((0:Nat):Int) from rfl,aqh n st W (λii hr=>by
  let ⟨t,ht⟩:=lP hr;have vW:=(bk.1 ht).1;have hT:N.ag[t]? =V (N.ag[t]' W):=bJ W
  let ⟨r1,r2⟩:=h0.row t _ ii hT ht;have hk:=(hN.bG ↑t _ (by rw[bh];exact hT)).cols
  exact ⟨W,λr hr=>by have:=fC (r2 r hr);omega⟩) (O st) 0 n _ _ _ W W am (λq h=>W) λq _ hq=>by
   rw[vz] at hq;simp[hq]]
 unfold Ry;rw[aRx n st W W,ai]
 exact aqg vn hN n 24 W hC h1.b cs 0 n 24 st _ _ rfl W h0.b W hO h W
end
end
def aki (n0:Nat) (ii:bz) (hl:O ii<=1000) (hr:∀r∈ii,O r<=100):∀(x:bz) (i m:Nat),B' i ii=x->O x+200<m->QU (aeA n0) m ii ii (O ii:Int) (i:Int)=V I
 | [],i,m+1,hd,hm=>by
  have hq:¬((i:Int)<(O ii:Int)):=by
   have:O ii<=i:=by simpa using hd
   omega
  simp only[QU,aeB,hq,aR,ay,aw,aeA]
 |r::x,i,m+1,hd,hm=>by
  let ⟨g1,g2,g3,hq⟩:=dN hd
  have h1:=hr r (bF g1);simp at hm;simp only[QU,aeB,hq,aO,az,bh,g1,ai,VP m r r W W,sn,iw,ay,aw,bS g3 (W:O ii<4294967296)]
  exact aki n0 ii hl hr x (i+1) m g2 W
 |_,_,0,_,hm=>W
def aEV (hl:O al<=1000) (hr:∀r∈al,O r<=100) (hn:2000<rt):F62 rt al al=V I:=by
 unfold F62 awb;simp only[iw,ay,aw];exact aki rt al hl hr al 0 rt rfl W
def aks (n0:Nat) (st:gQ) (hl:O st<=1000) (hr:∀ii∈st,O ii<=1000/\∀r∈ii,O r<=100):∀(x:gQ) (i m:Nat),B' i st=x->O x+3000<m->Q9 (Zc n0) m (O st:Int) (i:Int) ⟨st⟩ ⟨st⟩=V I
 | [],i,m+1,hd,hm=>by
  have hq:¬((i:Int)<(O st:Int)):=by
   have:O st<=i:=by simpa using hd
   omega
  simp only[Q9,Zb,hq,aR,ay,aw,Zc]
 |r::x,i,m+1,hd,hm=>by
  let ⟨g1,g2,g3,hq⟩:=dN hd
  let ⟨h1,h2⟩:=hr r (bF g1);simp at hm;simp only[Q9,Zb,hq,aO,az,bh,g1,ai,aEV m r h1 h2 W,cO,ay,aw,bS g3 (W:O st<4294967296)]
  exact aks n0 st hl hr x (i+1) m g2 W
 |_,_,0,_,hm=>W
def aEW (hl:O F<=1000) (hr:∀ii∈F,O ii<=1000/\∀r∈ii,O r<=100) (hn:5000<rt):F23 rt ⟨F⟩ ⟨F⟩=V I:=by
 unfold F23 aww;simp only[iw,ay,aw];exact aks rt F hl hr F 0 rt rfl W
def avm {n:Nat} {u:af} (hu:fo u=0) (hn:2000000<n) (fB:n<4294967296):Kq n u=V 0:=by
 have h:=VQ n u (λT hT=>((SG.of hu).bG T hT).yX) W fB
 rw[hu] at h;exact h
def mu.same {N:af} {n:Nat} {md:Int} {st:gQ} (hN:nF N) (h:mu md N st) (hn:5000<n):F23 n ⟨st⟩ ⟨st⟩=V I:=by
 have hl:=h.len;have h8:=hN.len;refine aEW n st W (λii hr=> ?_) hn
 let ⟨t,ht⟩:=lP hr;have vW:=(bk.1 ht).1;have hT:N.ag[t]? =V (N.ag[t]' W):=bJ W
 let ⟨r1,r2⟩:=h.row t _ ii hT ht;have hk:=(hN.bG ↑t _ (by rw[bh];exact hT)).cols
 exact ⟨W,λr hr=>by have:=fC (r2 r hr);omega⟩
def aDS {l:gM} (h:fq l) (v:aP):lG l (lG l v)=v:=by
 rcases h with ⟨a,rfl⟩|⟨a,b,FM,rfl⟩
 .have e:∀v,lG [⟨a,a⟩] v=v:=λv=>by
   show (if qi a v=I then a else v)=v
   split
   .rename_i h;exact pO.1 h
   .rfl
  rw[e,e]
 .have e:∀v,lG [⟨a,b⟩,⟨b,a⟩] v=if qi b v=I then a else if qi a v=I then b else v:=λ_=>rfl
  have n1:¬qi b a=I:=λh=>by rw[pO.1 h,pO.2 rfl] at FM;cases FM
  by_cases h1:qi b v=I
  .rw[e v,ax h1,e,au n1,ax (pO.2 rfl)];exact pO.1 h1
  .by_cases h2:qi a v=I
   .rw[e v,au h1,ax h2,e,ax (pO.2 rfl)];exact pO.1 h2
   .rw[e v,au h1,au h2,e,au h1,au h2]
def aRo {l:gM} (h:fq l) (v z:aP) (k:Nat) (hk:3<k):vu (AF rt) k 0 l (O l:Int) 0 v z=V (lG l v):=by
 obtain ⟨k,rfl⟩:∃m,k=m+3:=⟨k-3,W⟩
 have w1:ba (1-0)=1:=cR W W
 have w2:ba (0+1)=1:=cR W W
 have w3:ba (1+1)=2:=cR W W
 have e00:((0:Int)==0)=I:=rfl;have e10:((1:Int)==0)=U:=rfl;have e11:((1:Int)==1)=I:=rfl;rcases h with ⟨a,rfl⟩|⟨a,b,_,rfl⟩
 .have d0:A' ((0:Int)<1)=I:=rfl;have d1:A' ((1:Int)<1)=U:=rfl;have i0:idx [gU.mk a a] 0=V ⟨a,a⟩:=rfl;have hl:(([gU.mk a a].length:Nat):Int)=1:=rfl;rw[hl];simp only[vu,C8,d0,d1,az,i0,ai,e00,GF,w1,w2,e10,e11,ay,aw,AF,lG];show (if qi a v=I then V a else V v)=V (if qi a v=I then a else v)
  split<;>rfl
 .have d0:A' ((0:Int)<2)=I:=rfl;have d1:A' ((1:Int)<2)=I:=rfl;have d2:A' ((2:Int)<2)=U:=rfl;have i0:idx [gU.mk a b,gU.mk b a] 0=V ⟨a,b⟩:=rfl;have i1:idx [gU.mk a b,gU.mk b a] 1=V ⟨b,a⟩:=rfl;have hl:(([gU.mk a b,gU.mk b a].length:Nat):Int)=2:=rfl;rw[hl];simp only[vu,C8,d0,d1,d2,az,i0,i1,ai,e00,GF,w1,w2,w3,e10,e11,ay,aw,AF,lG];show (if qi a v=I then V b else if qi b v=I then V a else V v)=V (if qi b v=I then a else if qi a v=I then b else v)
  by_cases h1:qi a v=I
  .by_cases h2:qi b v=I
   .rw[ax h1,ax h2,pO.1 h1,pO.1 h2]
   .rw[ax h1,au h2,ax h1]
  .rw[au h1];by_cases h2:qi b v=I
   .rw[ax h2,ax h2]
   .rw[au h2,au h2,au h1]
def pF:qF->aP->aP
 | [],v=>v
 |l::ls,v=>pF ls (lG l v)
def akX:∀{ls:qF},(∀l∈ls,fq l)->∀v,rL ls (pF ls v)=v
 | [],_,_=>rfl
 |l::ls,h,v=>by
  show lG l (rL ls (pF ls (lG l v)))=v;rw[akX (λq hq=>h q (fj _ hq)),aDS (h l am)]
def aiW:∀{ls:qF},(∀l∈ls,Au l)->∀{v},fJ v=I->fJ (pF ls v)=I/\(pF ls v).aB=v.aB
 | [],_,_,h=>⟨h,rfl⟩
 |l::ls,h,v,hv=>by
  have h1:fJ (lG l v)=I/\(lG l v).aB=v.aB:=by
   rcases apG (h l am) v with e|e
   .rw[e];exact ⟨hv,rfl⟩
   .exact e
  let ⟨h2,h3⟩:=aiW (λq hq=>h q (fj _ hq)) h1.1
  exact ⟨h2,h3.trans h1.2⟩
def aqu (n0:Nat) (p:dF) (hp:∀l∈p.bT,fq l) (hl:O p.bT<=1000):∀(x:qF) (i k:Nat) (v z:aP),B' i p.bT=x->O x+10<k->Kg (XL n0) k p.bT (O p.bT:Int) (i:Int) v z=V (pF x v)
 | [],i,k+1,v,z,hd,hk=>by
  let ⟨hi,hq⟩:=eu hd
  simp only[Kg,XM,hq,aR,ay,aw,XL,pF]
 |l::x,i,k+1,v,z,hd,hk=>by
  let ⟨g1,g2,g3,hq⟩:=dN hd
  simp at hk;have e:RM k l v 0=V (lG l v):=aRo k (hp l (bF g1)) v _ k W
  simp only[Kg,XM,hq,aO,az,bh,g1,ai,e,bS g3 (W:O p.bT<4294967296)]
  exact aqu n0 p hp hl x (i+1) k _ _ g2 W
 |_,_,0,_,_,_,hk=>W
def aqU (hp:∀l∈aS.bT,fq l) (hl:O aS.bT<=1000) (v:aP) (hn:2000<rt):xr rt aS v=V (pF aS.bT v):=by
 unfold xr amH;exact aqu rt aS hp hl aS.bT 0 rt v _ rfl W
def Way (ms:cj) (a c j:Nat):Prop:=nM ms ↑a (c:Int) I=((j:Int),I)
def ajS:∀(ms:cj) (t c:Int),(nM ms t c U).2=U
 | [],_,_=>rfl
 |m::ms,t,c=>by
  unfold nM;split
  .rfl
  .rw[ig];exact ajS ms _ _
def Way.cons {m:aF} {ms:cj} {a a' c j:Nat} (h:Way (m::ms) a c j) (hf:fp m (a:Int)=(a':Int)):lZ m (a:Int) (c:Int)=I/\nM ms (a':Int) (jC m a c) I=((j:Int),I):=by
 have cT:¬(fp m (a:Int)<0):=by omega
 have h:nM (m::ms) ↑a (c:Int) I=_:=h;simp only[nM] at h;rw[au cT,hf] at h;cases hs:lZ m ↑a (c:Int) with
 |true=>rw[hs] at h;exact ⟨rfl,h⟩
 |false=>
  rw[hs] at h;have:=ajS ms ↑a' (jC m a c);rw[jj] at h;rw[h] at this;cases this
def Way.mk {m:aF} {ms:cj} {a a' c d:Nat} (hf:fp m (a:Int)=(a':Int)) (hs:lZ m (a:Int) (c:Int)=I) (hc:jC m a c=(d:Int)) (h:Way ms a' d j):Way (m::ms) a c j:=by
 have cT:¬(fp m (a:Int)<0):=by omega
 show nM (m::ms) ↑a (c:Int) I=_;simp only[nM];rw[au cT,hf,hs,hc];exact h
def aDM {m:aF} {t:Int} {c c':Nat} (h1:lZ m t c=I) (h2:lZ m t c'=I) (e:jC m t c=jC m t c'):c=c':=by
 simp only[lZ,T6,T4,anK] at h1 h2;unfold jC at e;by_cases e7:m.aQ=7
 .rw[ax e7,ax e7] at e;by_cases et:t=m.aq
  .exact absurd ⟨e7,et⟩ h1.1
  .rw[au et,au et] at e;omega
 rw[au e7,au e7] at e;by_cases e2:m.aQ=2
 .rw[ax e2,ax e2] at e;by_cases et:t=m.aq
  .have n1:¬(c:Int)=m.bc:=λq=>h1.2 ⟨e2,et,W,q⟩
   have n2:¬(c':Int)=m.bc:=λq=>h2.2 ⟨e2,et,W,q⟩
   have p1:t=m.aq/\(0:Int)<=(c:Int):=⟨et,W⟩
   have p2:t=m.aq/\(0:Int)<=(c':Int):=⟨et,W⟩
   rw[ax p1,ax p2,au n1,au n2] at e;split at e<;>split at e<;>omega
  .rw[au λq=>et q.1,au λq=>et q.1] at e;omega
 rw[au e2,au e2] at e;by_cases e3:m.aQ=3
 .rw[ax e3,ax e3] at e;by_cases et:t=m.aq
  .have p1:t=m.aq/\(0:Int)<=(c:Int):=⟨et,W⟩
   have p2:t=m.aq/\(0:Int)<=(c':Int):=⟨et,W⟩
   rw[ax p1,ax p2] at e;unfold zO at e;repeat' (split at e)
   all_goals omega
  .rw[au λq=>et q.1,au λq=>et q.1] at e;omega
 .rw[au e3,au e3] at e;omega
def IZ:∀{ms:cj} {u:af} {ts:gg} {a c c' j:Nat} {T:ah},di u ms ts->u.ag[a]? =V T->c<O T.L->c'<O T.L->Way ms a c j->Way ms a c' j->c=c'
 | [],_,_,_,c,c',j,_,_,_,_,_,h,h'=>by
  have h1:=bH Prod.fst h;have h2:=bH Prod.fst h';simp only[nM] at h1 h2;omega
 |m::ms,u,ts,a,c,c',j,T,hc,hT,h1,h2,h,h'=>by
  obtain ⟨t',jS,rfl⟩:∃t' jS,ts=t'::jS:=by cases ts with|nil=>cases hc|cons t' jS=>exact ⟨t',jS,rfl⟩
  let ⟨_,dV,_,jm⟩:=hc;rcases dV.Lz hT with ⟨h7,ha⟩|⟨_,a',ul,f1,f2,_,f4⟩
  .have:fp m (a:Int)= -1:=by simp[fp,h7,ha]
   have h:nM (m::ms) ↑a (c:Int) I=_:=h;simp[nM,this] at h
  .let ⟨s1,w1⟩:=h.cons f1;let ⟨s2,w2⟩:=h'.cons f1;obtain ⟨d,y,b1,b2⟩:∃(d:Nat) (y:bW),jC m a c=(d:Int)/\ul.L[d]? =V y:=by
    rcases f4 c _ (bJ h1) with ⟨_,d,y,b1,b2,_⟩|⟨b1,_⟩
    .exact ⟨d,y,b1,b2⟩
    .rw[s1] at b1;cases b1
   obtain ⟨d',y',b1',b2'⟩:∃(d:Nat) (y:bW),jC m a c'=(d:Int)/\ul.L[d]? =V y:=by
    rcases f4 c' _ (bJ h2) with ⟨_,d,y,b1,b2,_⟩|⟨b1,_⟩
    .exact ⟨d,y,b1,b2⟩
    .rw[s2] at b1;cases b1
   rw[b1] at w1;rw[b1'] at w2;have e:=IZ jm f2 (bk.1 b2).1 (bk.1 b2').1 w1 w2;exact aDM s1 s2 (by rw[b1,b1',e])
def lA.src {s t':af} {m:aF} (h:lA s m t') {a a':Nat} {T ul:ah} (hT:s.ag[a]? =V T) (hf:fp m (a:Int)=(a':Int)) (hU:t'.ag[a']? =V ul) {d:Nat} (hd:d<O ul.L):
  (∃c,c<O T.L/\lZ m (a:Int) (c:Int)=I/\jC m a c=(d:Int))\/(m.aQ=1/\m.aq=(a:Int)/\d=O T.L):=by
 have keep:∀{ul:ah},¬(m.aQ=7/\(a:Int)=m.aq)->¬(m.aQ=2/\(a:Int)=m.aq)->¬(m.aQ=3/\(a:Int)=m.aq)->d<O T.L->∃c,c<O T.L/\lZ m ↑a (c:Int)=I/\jC m a c=(d:Int):=λ{ul} h7 h2 h3 hd=>by
  have hk:=Av.same (m:=m) (a:=a) (T:=T) (ul:=T) h7 h2 h3 rfl λc x hx=>⟨x,hx,rfl⟩
  rcases hk.2 d _ (bJ hd) with ⟨b1,d',y,b2,b3,_⟩|⟨b1,_,b2,_⟩
  .refine ⟨d,hd,b1,?_⟩;unfold jC;split
   .rw[au λe=>h7 ⟨‹_›,e⟩]
   .split
    .rw[au λe=>h2 ⟨‹_›,e.1⟩]
    .split
     .rw[au λe=>h3 ⟨‹_›,e.1⟩]
     .rfl
  .exfalso;simp only[lZ] at b1;rw[tv h7,tv λe=>h2 ⟨e.1,e.2.1⟩] at b1
   cases b1
 have set:∀{or:ah} {j:Nat},m.aQ≠7->t'.ag=s.ag.set j or->ul=(if a=j then or else T):=λ{or j} n7 e=>by
  have:fp m (a:Int)=(a:Int):=by simp[fp,n7]
  have haa:a'=a:=by omega
  rw[haa,e,Nx hT] at hU;exact (kh hU).symm
 cases h with
 |Te j T0 h hj lF hv hk=>
  have e:=set (or:=⟨T0.aK,T0.L++ [⟨m.aK,m.aB⟩],T0.av,T0.ar,T0.aM⟩) (j:=j) W rfl
  by_cases ej:a=j
  .rw[ax ej] at e;subst ej;rw[hT] at lF;cases lF;rw[e] at hd;have hd:d<O (T.L++ [bW.mk m.aK m.aB]):=hd;rw[gS,M6] at hd;by_cases qI:d<O T.L
   .exact .inl (keep (ul:=T) W W W qI)
   .exact .inr ⟨h,hj,W⟩
  .rw[au ej] at e;rw[e] at hd;exact .inl (keep (ul:=T) W W W hd)
 |SD j c0 T0 x0 h hj lF hc G6=>
  have e:=set (or:=⟨T0.aK,T0.L.set c0 ⟨m.aK,x0.aB⟩,T0.av,T0.ar,T0.aM⟩) (j:=j) W rfl
  refine .inl (keep (ul:=T) W W W ?_)
  by_cases ej:a=j
  .rw[ax ej] at e;subst ej;rw[hT] at lF;cases lF;rw[e] at hd;simpa using hd
  .rw[au ej] at e;rw[e] at hd;exact hd
 |SH j T0 h hj lF=>
  have e:=set (or:=⟨m.aK,T0.L,T0.av,T0.ar,T0.aM⟩) (j:=j) W rfl
  refine .inl (keep (ul:=T) W W W ?_)
  by_cases ej:a=j
  .rw[ax ej] at e;subst ej;rw[hT] at lF;cases lF;rw[e] at hd;exact hd
  .rw[au ej] at e;rw[e] at hd;exact hd
 |Cy j c0 T0 x0 h hj lF hc hx hk hp hu=>
  have haa:a'=a:=by
   have:fp m (a:Int)=(a:Int):=by simp[fp,h]
   omega
  have hU:s.ag[a']? =V ul:=hU;rw[haa,hT] at hU;cases hU;exact .inl (keep (ul:=T) W W W hd)
 |Nt h=>
  have haa:a'=a:=by
   have:fp m (a:Int)=(a:Int):=by simp[fp,h]
   omega
  have hU:(s.ag++ [m.bu])[a']? =V ul:=hU;rw[haa,nc (bk.1 hT).1,hT] at hU;cases hU;exact .inl (keep (ul:=T) W W W hd)
 |Vp j T0 h hj lF hr=>
  have ne:¬(a:Int)=m.aq:=λe=>by
   have:fp m (a:Int)= -1:=by simp[fp,h,e]
   omega
  have hU:((C' j s.ag++B' (j+1) s.ag).map (nK ↑j))[a']? =V ul:=hU;have FG:=(bk.1 lF).1;have hq:(C' j s.ag++B' (j+1) s.ag)[a']? =V T:=by
   have ef:fp m (a:Int)=if m.aq<(a:Int) then (a:Int)-1 else (a:Int):=by simp[fp,h,ne]
   rw[ef] at hf;by_cases hl:m.aq<(a:Int)
   .rw[ax hl] at hf;rw[nW (by rw[dv];omega),dv,fG W,fF,show j+1+(a'-j)=a by omega,hT]
   .rw[au hl] at hf;rw[nc (by rw[dv];omega),eO,ax W,show a'=a by omega,hT]
  rw[my,hq] at hU;cases hU;exact .inl (keep (ul:=T) (λe=>ne e.2) W W hd)
 |Vq j c0 T0 x0 h hj lF hc G6 hk hv xy hu=>
  have e:=set (or:=tT (gu ↑c0 (-1)) ⟨T0.aK,C' c0 T0.L++B' (c0+1) T0.L,T0.av,T0.ar,T0.aM⟩) (j:=j) W rfl
  by_cases ej:a=j
  .rw[ax ej] at e;subst ej;rw[hT] at lF;cases lF;have hl:=(bk.1 G6).1;rw[e] at hd;have hd:d<O (C' c0 T.L++B' (c0+1) T.L):=hd;rw[gS,dv,iz] at hd;have et:(a:Int)=m.aq:=hj.symm;have ec:∀c:Nat,jC m a c=if (c:Int)=m.bc then -1 else if m.bc<(c:Int) then (c:Int)-1 else (c:Int):=λc=>by simp[jC,h,et]
   have es:∀c:Nat,lZ m a c= !A' ((c:Int)=m.bc):=λc=>by simp[lZ,h,et]
   left;by_cases q:d<c0
   .exact ⟨d,W,by rw[es,tv W];rfl,by rw[ec,au W,au W]⟩
   .exact ⟨d+1,W,by rw[es,tv W];rfl,by rw[ec,au W,ax W];omega⟩
  .rw[au ej] at e;rw[e] at hd;exact .inl (keep (ul:=T) W W W hd)
 |move j c0 d0 T0 h hj lF hc hd0 k1 k2 hk xV=>
  have e:=set (or:=tT (gu ↑c0 (d0:Int)) ⟨T0.aK,vh T0.L c0 d0,T0.av,T0.ar,T0.aM⟩) (j:=j) W rfl
  by_cases ej:a=j
  .rw[ax ej] at e;subst ej;rw[hT] at lF;cases lF;rw[e] at hd;have hd:d<O (vh T.L c0 d0):=hd;have N5:O (vh T.L c0 d0)=O T.L:=by
    unfold vh;rw[bJ k1,Er,gS,gS,dv,iz,zf k1,M6];omega
   have et:(a:Int)=m.aq:=hj.symm;have ec:∀c:Nat,jC m a c=zO c c0 d0:=λc=>by simp[jC,h,et,hc,hd0]
   have es:∀c:Nat,lZ m a c=I:=λc=>by simp[lZ,h]
   left;have hm:∃c:Nat,c<O T.L/\zO ↑c c0 d0=(d:Int):=by
    by_cases q1:d=d0
    .exact ⟨c0,k1,by unfold zO;rw[ax rfl];omega⟩
    .by_cases q2:c0<=d/\d<d0
     .exact ⟨d+1,W,by unfold zO;rw[au W,ax W];omega⟩
     .by_cases q3:d0<d/\d<=c0
      .exact ⟨d-1,W,by unfold zO;rw[au W,au W,ax W];omega⟩
      .exact ⟨d,W,by unfold zO;rw[au W,au W,au W]⟩
   let ⟨c,c1,c2⟩:=hm;exact ⟨c,c1,es c,by rw[ec,c2]⟩
  .rw[au ej] at e;rw[e] at hd;exact .inl (keep (ul:=T) W W W hd)
section
def Iy (j:Nat):Prop:=∃(m:aF) (ui:af) (b:Nat) (Tb:ah),ad[aH]? =V m/\m.aQ=1/\ab[aH]? =V ui/\m.aq=(b:Int)/\ui.ag[b]? =V Tb/\eA (B' (aH+1) ad) (b:Int)=aj/\Way (B' (aH+1) ad) b (O Tb.L) j
def ajl {m:aF} (h:m.aQ=1) (a:Int):fp m a=a:=by
 unfold fp;rw[au W]
def cover:∀{ms:cj} {u:af} {ts:gg} {a w:Nat} {T T':ah},di u ms ts->u.ag[a]? =V T->eA ms (a:Int)=(w:Int)->((u::ts).getLast am).ag[w]? =V T'->∀{j:Nat},j<O T'.L->
  (∃c,c<O T.L/\Way ms a c j)\/∃i,Iy (u::ts) ms (w:Int) i j
 | [],u,ts,a,w,T,T',hc,hT,hw,eI,j,hj=>by
  obtain rfl:ts= []:=by cases ts with|nil=>rfl|cons=>cases hc
  have haw:a=w:=by simp only[eA] at hw;omega
  rw[<-haw] at eI;have eI:u.ag[a]? =V T':=eI;rw[hT] at eI;cases eI;exact .inl ⟨j,hj,rfl⟩
 |m::ms,u,ts,a,w,T,T',hc,hT,hw,eI,j,hj=>by
  obtain ⟨t',jS,rfl⟩:∃t' jS,ts=t'::jS:=by cases ts with|nil=>cases hc|cons t' jS=>exact ⟨t',jS,rfl⟩
  let ⟨_,dV,_,jm⟩:=hc;rw[show ((u::t'::jS).getLast am)=((t'::jS).getLast am) by simp] at eI
  rcases dV.Lz hT with ⟨h7,ha⟩|⟨_,a',ul,f1,f2,_⟩
  .have:fp m (a:Int)= -1:=by simp[fp,h7,ha]
   simp[eA,this] at hw
  have cT:¬(fp m (a:Int)<0):=by omega
  have vV:eA ms (a':Int)=(w:Int):=by rw[<-hw];simp only[eA];rw[au cT,f1]
  rcases cover jm f2 vV eI hj with ⟨d,hd,hW⟩|⟨i,m',ui,b,Tb,h1,h2,h3,h4,h5,h6,h7⟩
  .rcases dV.src hT f1 f2 hd with ⟨c,c1,c2,c3⟩|⟨c1,c2,c3⟩
   .exact .inl ⟨c,c1,hW.mk f1 c2 c3⟩
   .have haa:a'=a:=by have:=ajl c1 ↑a;omega
    subst haa;exact .inr ⟨0,m,u,a',T,rfl,c1,rfl,c2,hT,vV,by rw[<-c3];exact hW⟩
  .exact .inr ⟨i+1,m',ui,b,Tb,by simpa using h1,h2,by simpa using h3,h4,h5,by simpa using h6,by simpa using h7⟩
def aaX:∀{ms:cj} {u:af} {ts:gg} {a c j w i:Nat} {T:ah},di u ms ts->u.ag[a]? =V T->c<O T.L->eA ms (a:Int)=(w:Int)->Way ms a c j->¬Iy (u::ts) ms (w:Int) i j
 | [],_,_,_,_,_,_,i,_,_,_,_,_,_,⟨_,_,_,_,h,_⟩=>by simp at h
 |m::ms,u,ts,a,c,j,w,i,T,hc,hT,dX,hw,hW,⟨m',ui,b,Tb,h1,h2,h3,h4,h5,h6,h7⟩=>by
  obtain ⟨t',jS,rfl⟩:∃t' jS,ts=t'::jS:=by cases ts with|nil=>cases hc|cons t' jS=>exact ⟨t',jS,rfl⟩
  let ⟨_,dV,_,jm⟩:=hc;rcases dV.Lz hT with ⟨h7',ha⟩|⟨_,a',ul,f1,f2,_,f4⟩
  .have:fp m (a:Int)= -1:=by simp[fp,h7',ha]
   simp[eA,this] at hw
  have cT:¬(fp m (a:Int)<0):=by omega
  have vV:eA ms (a':Int)=(w:Int):=by rw[<-hw];simp only[eA];rw[au cT,f1]
  let ⟨s1,w1⟩:=hW.cons f1;obtain ⟨d,y,b1,b2⟩:∃(d:Nat) (y:bW),jC m a c=(d:Int)/\ul.L[d]? =V y:=by
   rcases f4 c _ (bJ dX) with ⟨_,d,y,b1,b2,_⟩|⟨b1,_⟩
   .exact ⟨d,y,b1,b2⟩
   .rw[s1] at b1;cases b1
  rw[b1] at w1;have qI:=(bk.1 b2).1;cases i with
  |zero=>
   have e1:m'=m:=by simpa using h1.symm
   subst e1;have e3:ui=u:=by simpa using h3.symm
   subst e3;have h6:eA ms (b:Int)=(w:Int):=h6;have h7:Way ms b (O Tb.L) j:=h7;have haa:a'=a:=by have:=ajl h2 ↑a;omega
   subst haa;have FM:=aiM (h6.trans vV.symm) W
   have FM:b=a':=by omega
   subst FM;rw[hT] at h5;cases h5;have hd:d=c:=by
    unfold jC at b1;rw[au W,au W,au W] at b1
    omega
   have hU:O ul.L=O T.L+1:=by
    cases dV with
    |Te k T0 h hk lF hv xy=>
     have ek:k=b:=by omega
     subst ek;rw[hT] at lF;cases lF;have f2:(ui.ag.set k ⟨T.aK,T.L++ [⟨m'.aK,m'.aB⟩],T.av,T.ar,T.aM⟩)[k]? =V ul:=f2;rw[Nx hT,ax rfl] at f2;cases f2;simp
    |_=>omega
   have:=IZ jm f2 qI W w1 h7
   omega
  |succ i=>
   exact aaX jm f2 qI vV w1 ⟨m',ui,b,Tb,by simpa using h1,h2,by simpa using h3,h4,h5,by simpa using h6,by simpa using h7⟩
def ym:∀{ms:cj} {u:af} {ts:gg} {a c j w:Nat} {T T':ah} {x:bW},di u ms ts->u.ag[a]? =V T->T.L[c]? =V x->eA ms (a:Int)=(w:Int)->((u::ts).getLast am).ag[w]? =V T'->Way ms a c j->T'.av=T.av/\∃y,T'.L[j]? =V y/\y.aB=x.aB
 | [],u,ts,a,c,j,w,T,T',x,hc,hT,hx,hw,eI,hW=>by
  obtain rfl:ts= []:=by cases ts with|nil=>rfl|cons=>cases hc
  have haw:a=w:=by simp only[eA] at hw;omega
  rw[<-haw] at eI;have eI:u.ag[a]? =V T':=eI;rw[hT] at eI;cases eI;have h1:=bH Prod.fst hW;simp only[nM] at h1;have h1:c=j:=by omega
  exact ⟨rfl,x,by rw[<-h1];exact hx,rfl⟩
 |m::ms,u,ts,a,c,j,w,T,T',x,hc,hT,hx,hw,eI,hW=>by
  obtain ⟨t',jS,rfl⟩:∃t' jS,ts=t'::jS:=by cases ts with|nil=>cases hc|cons t' jS=>exact ⟨t',jS,rfl⟩
  let ⟨_,dV,_,jm⟩:=hc;rw[show ((u::t'::jS).getLast am)=((t'::jS).getLast am) by simp] at eI
  rcases dV.Lz hT with ⟨h7,ha⟩|⟨_,a',ul,f1,f2,f3,f4⟩
  .have:fp m (a:Int)= -1:=by simp[fp,h7,ha]
   simp[eA,this] at hw
  have cT:¬(fp m (a:Int)<0):=by omega
  have vV:eA ms (a':Int)=(w:Int):=by rw[<-hw];simp only[eA];rw[au cT,f1]
  let ⟨s1,w1⟩:=hW.cons f1;rcases f4 c x hx with ⟨_,d,y,b1,b2,b3,_⟩|⟨b1,_⟩
  .rw[b1] at w1;let ⟨k1,z,z1,z2⟩:=ym jm f2 b2 vV eI w1;exact ⟨k1.trans f3,z,z1,z2.trans b3⟩
  .rw[s1] at b1;cases b1
def asK:∀{ms:cj} {u:af} {ts:gg} {a c w:Nat} {T:ah},di u ms ts->u.ag[a]? =V T->c<O T.L->(c:Int)<T.av->eA ms (a:Int)=(w:Int)->Way ms a c c
 | [],_,_,_,_,_,_,_,_,_,_,_=>rfl
 |m::ms,u,ts,a,c,w,T,hc,hT,hx,hk,hw=>by
  obtain ⟨t',jS,rfl⟩:∃t' jS,ts=t'::jS:=by cases ts with|nil=>cases hc|cons t' jS=>exact ⟨t',jS,rfl⟩
  let ⟨_,dV,_,jm⟩:=hc;rcases dV.Lz hT with ⟨h7,ha⟩|⟨_,a',ul,f1,f2,f3,f4⟩
  .have:fp m (a:Int)= -1:=by simp[fp,h7,ha]
   simp[eA,this] at hw
  have cT:¬(fp m (a:Int)<0):=by omega
  have vV:eA ms (a':Int)=(w:Int):=by rw[<-hw];simp only[eA];rw[au cT,f1]
  rcases f4 c _ (bJ hx) with ⟨s1,d,y,b1,b2,_,b4⟩|⟨_,_,_,_,b1⟩
  .have hd:=b4 hk;subst hd;exact (asK jm f2 (bk.1 b2).1 W vV).mk f1 s1 b1
  .omega
def ed {pp:Type}:List (Int×pp)->Int->G pp
 | [],_=>A
 |p::m,k=>if k=p.1 then V p.2 else ed m k
section
variable {pp:Type}
def wB:∀(m:List (Int×pp)) (k:Int) (v:pp) (j:Int),ed (jx m k v) j=if j=k then V v else ed m j
 | [],k,v,j=>rfl
 |p::m,k,v,j=>by
  unfold jx;by_cases h:k=p.1
  .rw[ax h];show (if j=k then V v else ed m j)=_
   by_cases hj:j=k
   .rw[ax hj,ax hj]
   .rw[au hj,au hj];show _=if j=p.1 then V p.2 else ed m j
    rw[au λe=>hj (e.trans h.symm)]
  .rw[au h];show (if j=p.1 then V p.2 else ed (jx m k v) j)=_
   rw[wB m k v j];show _=if j=k then V v else if j=p.1 then V p.2 else ed m j
   by_cases hj:j=k
   .rw[ax hj,ax hj,au λe=>h (hj.symm.trans e)]
   .rw[au hj,au hj]
def xO:∀(m:List (Int×pp)) (k:Int) (d:pp),gB m k d=(ed m k).getD d
 | [],_,_=>rfl
 |p::m,k,d=>by
  unfold gB ed;split
  .rfl
  .exact xO m k d
def G0:∀{m:List (Int×pp)} {k:Int},k∈m.map (·.1)↔ed m k≠A
 | [],_=>by simp[ed]
 |p::m,k=>by
  rw[j2,cU,G0 (m:=m)];show _↔(if k=p.1 then V p.2 else ed m k)≠A
  by_cases h:k=p.1
  .rw[ax h];simp[h]
  .rw[au h];simp[h]
def avw:∀(m:List (Int×pp)) (k:Int) (v:pp),(jx m k v).map (·.1)=if k∈m.map (·.1) then m.map (·.1) else m.map (·.1)++ [k]
 | [],k,v=>rfl
 |p::m,k,v=>by
  unfold jx;by_cases h:k=p.1
  .rw[ax h,ax (by rw[h];simp)]
   show k::m.map (·.1)=p.1::m.map (·.1)
   rw[h]
  .rw[au h];show p.1::(jx m k v).map (·.1)=if k∈p.1::m.map (·.1) then p.1::m.map (·.1) else p.1::m.map (·.1)++ [k]
   rw[avw m k v];by_cases g:k∈m.map (·.1)
   .rw[ax g,ax (fj _ g)]
   .rw[au g,au λe=>(cU.1 e).elim h g];rfl
def abV {m:List (Int×pp)} (h:(m.map (·.1)).Nodup) (k:Int) (v:pp):((jx m k v).map (·.1)).Nodup:=by
 rw[avw];split
 .exact h
 .rename_i g;exact Cf.2 ⟨h,am,λa ha b hb e=>g (by rw[gy.1 hb] at e;rw[<-e];exact ha)⟩
def aoL (m:List (Int×pp)) (k:Int) (v:pp):O (jx m k v)<=O m+1:=by
 have:=bH O (avw m k v);rw[ku] at this;split at this
 .rw[ku] at this;omega
 .rw[gS,ku,M6] at this;omega
end
def ahr {l:aN} (h:l.Nodup):(dJ l).Pairwise (· < ·):=by
 have hp:=pd l;have hn:(dJ l).Nodup:=hp.nodup_iff.2 h;have hs:=wi l;exact hs.imp_of_mem (R:=λa b=>a<=b) (S:=λa b=>a≠b->a<b) (λ{a b} _ _ h e=>W)|>.and hn|>.imp λ⟨h1,h2⟩=>h1 h2
def ayJ:∀{a b:aN},a.Pairwise (· < ·)->b.Pairwise (· < ·)->(∀x,x∈a↔x∈b)->a=b
 | [],[],_,_,_=>rfl
 | [],y::_,_,_,h=>by have:=(h y).2 am;cases this
 |x::_,[],_,_,h=>by have:=(h x).1 am;cases this
 |x::a,y::b,ha,hb,h=>by
  let ⟨a1,a2⟩:=nk.1 ha;let ⟨b1,b2⟩:=nk.1 hb;have e:x=y:=by
   rcases cU.1 ((h x).1 am) with e|h1
   .exact e
   rcases cU.1 ((h y).2 am) with e|h2
   .exact e.symm
   have:=a1 y h2;have:=b1 x h1;omega
  subst e;rw[ayJ a2 b2 λz=>⟨λhz=>(cU.1 ((h z).1 (by simp[hz]))).resolve_left λe=> ?_,λhz=>(cU.1 ((h z).2 (by simp[hz]))).resolve_left λe=> ?_⟩]
  .have:=a1 z hz;omega
  .have:=b1 z hz;omega
end
section
section
variable {n:Nat} {s v:af} {ms:cj} {ts:gg} {k:Nat} {st:gQ} {net:jX} {md:Int}
def di.at (hs:fo s=0) (hc:di s ms ts) (hi:i<O ms):∃u u' m,(s::ts)[i]? =V u/\(s::ts)[i+1]? =V u'/\ms[i]? =V m/\B' i ms=m::B' (i+1) ms/\lA u m u'/\fo u=0/\fo u'=0/\rA m=I/\di u' (B' (i+1) ms) (B' (i+1) ts)/\(u'::B' (i+1) ts).getLast am=(s::ts).getLast am:=by
 have li:=hc.len;let ⟨u,e1,e2,e3,e4,e5⟩:=di.drop (k:=i) hs hc W
 let ⟨u',g1,g2,g3,g4,g5⟩:=di.drop (k:=i+1) hs hc W
 have hm:ms[i]? =V ms[i]:=bJ hi;have d1:B' i ms=ms[i]::B' (i+1) ms:=tE hi;have d2:B' i ts=u'::B' (i+1) ts:=by
  have:ts[i]? =V u':=by simpa using g1
  let ⟨h1,h2⟩:=bk.1 this;rw[tE h1,h2]
 rw[d1,d2] at e3;let ⟨b1,b2,b3,b4⟩:=e3;exact ⟨u,u',ms[i],e1,g1,hm,d1,b2,e4,b3,b1,b4,g5⟩
end
end
section
structure RX (ms:cj) (a c:Nat) (p:dF):Prop where
 bG:p.gd=eA ms (a:Int)
 v7:p.dQ=(nM ms (a:Int) (c:Int) I).1
 MK:p.cI=(nM ms (a:Int) (c:Int) I).2
 zK:∀l∈p.bT,fq l
 knd:∀l∈p.bT,Au l
 Jz:p.bT.length<=1000
 val:0<=eA ms (a:Int)->∀f,qD ms (a:Int) (c:Int) f=if p.cI=I then rL p.bT (f p.dQ) else p.eQ
def RX.way {ms:cj} {a c:Nat} (h:RX ms a c p) (hs:p.cI=I) (hj:p.dQ=(j:Int)):Way ms a c j:=Prod.ext (h.v7.symm.trans hj) (h.MK.symm.trans hs)
def RX.of {ms:cj} {a c:Nat} (h:RX ms a c p) (hW:Way ms a c j):p.cI=I/\p.dQ=(j:Int):=⟨h.MK.trans (bH Prod.snd hW),h.v7.trans (bH Prod.fst hW)⟩
section
variable {u:af} {ms:cj} {ts:gg} {a w:Nat} {T T':ah}
def aXs (hn:6000<rt) (fB:rt<4294967296) (hl:O ms<=8) (fH:∀m∈ms,MB m/\(m.aQ=8->fq m.cg)) (hs:fo u=0) (hc:di u ms ts) (hT:u.ag[a]? =V T) {c:Nat} (h1:c<O T.L):
  Ok (F63 rt ms (a:Int) (c:Int)) λp=>RX ms a c p:=by
 have hx:T.L[c]? =V T.L[c]:=bJ h1;exact ((auT rt hn fB u ms ts hl fH hs hc hT (HO.v7 hx)).and (auU rt hn fB u ms ts hl fH hs hc hT (.inr ⟨c,_,rfl,hx⟩))).mono λp ⟨p1,p2⟩=>⟨p2.bG,p2.v7,p2.MK,p2.zK,p1.zK,p2.Jz,p2.val⟩
def LZ:Prop:=O aD=O vQ.L/\∀(c:Nat) p,aD[c]? =V p->RX D H c p
def aBB (hn:8000<rt) (fB:rt<4294967296) (hl:O ms<=8) (fH:∀m∈ms,MB m/\(m.aQ=8->fq m.cg)) (hs:fo u=0) (hc:di u ms ts) (hT:u.ag[a]? =V T) (r:gg):Ok (R4 rt ⟨u::r,ms⟩ (a:Int)) (LZ ms a T):=by
 have dX:=((SG.of hs).bG T (bF hT)).cols;unfold R4 XW;rw[VM,ai,bh,hT,ai];exact (akx rt hl fH hs hc hT (u::r) (O T.L) 0 rt [] W W fB rfl λi p h=>by simp at h).mono λps ⟨h1,h2⟩=>⟨h1,λc p hp=>by
  let ⟨_,p1,p2,p3,p4⟩:=h2 c p hp;exact ⟨p2.bG,p3,p4,p2.zK,p1.zK,p2.Jz,p2.val⟩⟩
def Cells (T:ah) (op:Int) (ip:aN) (cells:aU) (cs:List Nat):Prop:=O cs=O cells/\cs.Nodup/\(∀c∈cs,c<O T.L)/\∀(i:Nat) c,cs[i]? =V c->if op=2 then ip[i]? =V (c:Int) else c=i
def YF (cs:List Nat) (cells:aU) (j:Int) (x:aP):Prop:=∃(q c:Nat) (v:aP) (p:dF),cs[q]? =V c/\cells[q]? =V v/\aD[c]? =V p/\p.cI=I/\j=p.dQ/\x=pF p.bT v
def QR {ps:lJ} (qq:LZ ms a T ps) {wr:aW} {cs:List Nat} (oI:Cells T wr.aQ wr.L wr.cB cs) (hlc:O wr.cB<=1000) (K:Int->ga->aW->aW->aW->List (Int×aP)->aU->G (aW×Bool)) (to:Int) (l0:ga) (z7:aW) (cE:aU) (h7:z7=⟨z7.aQ,z7.aq,cE,[],[]⟩):∀(x:aU) (i m:Nat) (z4:aW) (b:List (Int×aP)),B' i wr.cB=x->O x+3000<m->(b.map (·.1)).Nodup->O b+O x<=O wr.cB->
  (∃z,Ap K m to wr.cB (O wr.cB:Int) (i:Int) l0 wr z4 z7 ps b cE=V (z,U))\/
  ∃(b':List (Int×aP)) (z:aW),Ap K m to wr.cB (O wr.cB:Int) (i:Int) l0 wr z4 z7 ps b cE=K to l0 wr z z7 b' cE/\(b'.map (·.1)).Nodup/\O b'<=O wr.cB/\(∀j,ed b j≠A->ed b' j≠A)/\(∀j x,ed b' j=V x->ed b j=V x\/YF ps cs wr.cB j x)/\
   ∀(q c:Nat) (v:aP) (p:dF),i<=q->cs[q]? =V c->wr.cB[q]? =V v->ps[c]? =V p->if p.cI=I then ed b' p.dQ≠A else v=p.eQ
 | [],i,m+1,z4,b,hd,hm,hn,hb=>by
  let ⟨hi,hq⟩:=eu hd
  refine .inr ⟨b,⟨z4.aQ,z4.aq,[],[],[]⟩,?_,hn,by simpa using hb,λ_ h=>h,λ_ _ h=>.inl h,λq c v p h1 h2 h3 _=> ?_⟩
  .simp only[Ap,Zr,hq,aR,ay,aw];rw[<-h7]
  .have:=(bk.1 h3).1;omega
 |v::x,i,m+1,z4,b,hd,hm,hn,hb=>by
  let ⟨g1,g2,g3,hq⟩:=dN hd
  let ⟨k1,k2,k3,k4⟩:=oI;have mr:i<O cs:=by omega
  have hc:cs[i]? =V cs[i]:=bJ mr;generalize cs[i]=c at hc;have dX:=k3 c (bF hc);have Jv:=k4 i c hc;have um:c<O ps:=by have:=qq.1;omega
  have hp:ps[c]? =V ps[c]:=bJ um;generalize ps[c]=p at hp;have hw:=qq.2 c p hp;simp at hm hb;have key:Ap K (m+1) to wr.cB (O wr.cB:Int) ↑i l0 wr z4 z7 ps b cE=V5 (Ap K m) m to ↑c wr.cB (O wr.cB:Int) ↑i l0 wr ⟨z4.aQ,z4.aq,[],[],[]⟩ z7 ps b v cE:=by
   simp only[Ap,Zr,hq,aO,az,bh,g1,ai];rw[<-h7];by_cases h2:wr.aQ=2
   .rw[ax h2] at Jv;have e:(wr.aQ==2)=I:=by simpa using h2
    rw[e,Jv];rfl
   .rw[au h2] at Jv;have e:(wr.aQ==2)=U:=by simpa using h2
    rw[e,Jv];rfl
  rw[key];unfold V5;rw[gx um,ai,cN,hp,ai,<-h7];by_cases pW:p.cI=I
  .rw[ax pW,aqU m p hw.zK hw.Jz v W,ai,bS g3 (W:O wr.cB<4294967296)]
   rcases QR qq ⟨k1,k2,k3,k4⟩ hlc K to l0 z7 cE h7 x (i+1) m _ (jx b p.dQ (pF p.bT v)) g2 W (abV hn _ _) (by have:=aoL b p.dQ (pF p.bT v);omega) with ⟨z,hz⟩|⟨b',z,h1,h2,h3,h4,h5,h6⟩
   .exact .inl ⟨z,hz⟩
   .refine .inr ⟨b',z,h1,h2,h3,λj hj=>h4 j ?_,λj y hy=> ?_,λq c' v' p' q1 q2 q3 q4=> ?_⟩
    .rw[wB];split
     .simp
     .exact hj
    .rcases h5 j y hy with h|h
     .rw[wB] at h;split at h
      .rename_i e;exact .inr ⟨i,c,v,p,hc,g1,hp,pW,e,(kh h).symm⟩
      .exact .inl h
     .exact .inr h
    .by_cases e:q=i
     .subst e;rw[hc] at q2;cases q2;rw[hp] at q4;cases q4;rw[ax pW];exact h4 _ (by rw[wB,ax rfl];simp)
     .exact h6 q c' v' p' W q2 q3 q4
  .rw[au pW];by_cases he:qi v p.eQ=I
   .have Ju:((v.aB==p.eQ.aB)&&((v.dt==p.eQ.dt)&&((A' (v.cH=p.eQ.cH))&&I)))=I:=he;rw[Ju,au am,bS g3 (W:O wr.cB<4294967296)]
    rcases QR qq ⟨k1,k2,k3,k4⟩ hlc K to l0 z7 cE h7 x (i+1) m _ b g2 W hn W with ⟨z,hz⟩|⟨b',z,h1,h2,h3,h4,h5,h6⟩
    .exact .inl ⟨z,hz⟩
    .refine .inr ⟨b',z,h1,h2,h3,h4,h5,λq c' v' p' q1 q2 q3 q4=> ?_⟩
     by_cases e:q=i
     .subst e;rw[hc] at q2;cases q2;rw[hp] at q4;cases q4;rw[g1] at q3;cases q3;rw[au pW];exact pO.1 he
     .exact h6 q c' v' p' W q2 q3 q4
   .have Ju:((v.aB==p.eQ.aB)&&((v.dt==p.eQ.dt)&&((A' (v.cH=p.eQ.cH))&&I)))=U:=by
     cases h:qi v p.eQ with
     |true=>exact absurd h he
     |false=>exact h
    rw[Ju,ax am]
    exact .inl ⟨_,rfl⟩
 |_,_,0,_,_,_,hm,_,_=>W
end
end
section
def IY:∀{ms:cj} {u:af} {ts:gg} {a c:Nat} {T:ah},di u ms ts->u.ag[a]? =V T->c<O T.L->(nM ms (a:Int) (c:Int) I).2=I->∃j,Way ms a c j
 | [],_,_,_,c,_,_,_,_,_=>⟨c,rfl⟩
 |m::ms,u,ts,a,c,T,hc,hT,hx,h=>by
  obtain ⟨t',jS,rfl⟩:∃t' jS,ts=t'::jS:=by cases ts with|nil=>cases hc|cons t' jS=>exact ⟨t',jS,rfl⟩
  let ⟨_,dV,_,jm⟩:=hc;rcases dV.Lz hT with ⟨h7,ha⟩|⟨_,a',ul,f1,f2,f3,f4⟩
  .have:fp m (a:Int)= -1:=by simp[fp,h7,ha]
   simp[nM,this] at h
  have cT:¬(fp m (a:Int)<0):=by omega
  simp only[nM] at h;rw[au cT,f1] at h;rcases f4 c _ (bJ hx) with ⟨s1,d,y,b1,b2,_⟩|⟨s1,_⟩
  .rw[s1,b1] at h;let ⟨j,hj⟩:=IY jm f2 (bk.1 b2).1 h;exact ⟨j,hj.mk f1 s1 b1⟩
  .rw[s1,yP,ajS] at h;cases h
section
variable {u:af} {ms:cj} {ts:gg} {a w:Nat} {T T':ah}
def adZ (T':ah) (j:Int) (x:aP):Prop:=∃(i J:Nat) (y:bW),j=(J:Int)/\Iy ab ad ↑aH i J/\T'.L[J]? =V y/\fJ x=I/\x.aB=y.aB
def avn (hl:O ms<=8) (fH:∀m∈ms,MB m/\(m.aQ=8->fq m.cg)) (hs:fo u=0) (hc:di u ms ts) (eI:((u::ts).getLast am).ag[w]? =V T'):∀(d i m:Nat) (b:List (Int×aP)),i+d=O ms->d+7000<m->m<4294967296->(b.map (·.1)).Nodup->
  Ok (Ar m (w:Int) ms (O ms:Int) (i:Int) b ⟨u::ts,ms⟩) λb'=>(b'.map (·.1)).Nodup/\O b'<=O b+d/\(∀j,ed b j≠A->ed b' j≠A)/\(∀j x,ed b' j=V x->ed b j=V x\/adZ (u::ts) ms w T' j x)/\∀i' J,i<=i'->Iy (u::ts) ms (w:Int) i' J->ed b' (J:Int)≠A
 |0,i,m+1,b,hi,hm,tX,hn=>by
  have hq:¬((i:Int)<(O ms:Int)):=by omega
  simp only[Ar,XK,hq,aR,ay,aw];exact Ok.pure ⟨hn,cM _,λ_ h=>h,λ_ _ h=>.inl h,λi' J h1 ⟨_,_,_,_,h2,_⟩=>by have:=(bk.1 h2).1;omega⟩
 |d+1,i,m+1,b,hi,hm,tX,hn=>by
  have hq:(i:Int)<(O ms:Int):=by omega
  have mr:i<O ms:=by omega
  have li:=hc.len;let ⟨ui,u',mi,a1,a2,a3,a4,a5,a6,a7,a8,a9,OL⟩:=di.at (i:=i) hs hc mr;have nx:ba ((i:Int)+1)=((i+1:Nat):Int):=bS mr (W:O ms<4294967296)
  simp only[Ar,XK,hq,aO,az,bh,a3,ai,nx];have skip:(∀J,¬Iy (u::ts) ms ↑w i J)->Ok (Ar m ↑w ms (O ms:Int) ((i+1:Nat):Int) b ⟨u::ts,ms⟩) λb'=>(b'.map (·.1)).Nodup/\O b'<=O b+(d+1)/\(∀j,ed b j≠A->ed b' j≠A)/\(∀j x,ed b' j=V x->ed b j=V x\/adZ (u::ts) ms w T' j x)/\∀i' J,i<=i'->Iy (u::ts) ms ↑w i' J->ed b' (J:Int)≠A:=λxT=>
   (avn hl fH hs hc eI d (i+1) m b W W W hn).mono λb' ⟨h1,h2,h3,h4,h5⟩=>⟨h1,W,h3,h4,λi' J h6 h7=>by
    by_cases e:i'=i
    .subst e;exact absurd h7 (xT J)
    .exact h5 i' J W h7⟩
  by_cases h1:mi.aQ=1;rotate_left
  .have e:(mi.aQ !=1)=I:=by simpa using h1
   rw[e,ax rfl];exact skip λJ ⟨m',_,_,_,q1,q2,_⟩=>h1 (by rw[a3] at q1;cases q1;exact q2)
  have e:(mi.aQ !=1)=U:=by simp[h1]
  rw[e,au nY];obtain ⟨b0,Tb,qu,hTb,hU,hvr,hvk⟩:∃(b0:Nat) (Tb:ah),mi.aq=(b0:Int)/\ui.ag[b0]? =V Tb/\u'.ag[b0]? =V ⟨Tb.aK,Tb.L++ [⟨mi.aK,mi.aB⟩],Tb.av,Tb.ar,Tb.aM⟩/\fJ mi.bp=I/\mi.bp.aB=mi.aB:=by
   cases a5 with
   |Te k T0 h hk lF hv xy=>
    refine ⟨k,T0,hk,lF,?_,hv,xy⟩;show (ui.ag.set k _)[k]? =_;rw[Nx lF,ax rfl]
   |_=>omega
  have MT:(u::ts)[i]? =V ui:=a1;have aDA:cut ms (V ((i+1:Nat):Int)) A=V (B' (i+1) ms):=LP W
  have oG:O Tb.L<O (Tb.L++ [bW.mk mi.aK mi.aB]):=by simp
  simp only[MT,ai,qu,bh,hTb,aDA];refine Ok.bind (aXs m W W (by rw[iz];omega) (λq zY=>fH q (nh zY)) a7 a9 hU (c:=O Tb.L) oG) λp hp=> ?_
  have noA:¬(p.cI=I/\p.gd=(w:Int))->∀J,¬Iy (u::ts) ms ↑w i J:=λxT J ⟨m',ui',b',Tb',q1,q2,q3,q4,q5,q6,q7⟩=>by
   rw[a3] at q1;cases q1;rw[MT] at q3;cases q3;have:b'=b0:=by omega
   subst this;rw[hTb] at q5;cases q5;exact xT ⟨(hp.of q7).1,hp.bG.trans q6⟩
  by_cases pW:p.cI=I;rotate_left
  .rw[au pW];exact skip (noA λh=>pW h.1)
  rw[ax pW];by_cases VE:p.gd=(w:Int);rotate_left
  .have e:(p.gd==(w:Int))=U:=by simpa using VE
   rw[e,au nY];exact skip (noA λh=>VE h.2)
  have e:(p.gd==(w:Int))=I:=by simpa using VE
  rw[e,ax rfl,aqU m p hp.zK hp.Jz _ W,ai]
  let ⟨J,hJ⟩:=IY a9 hU oG (hp.MK.symm.trans pW);let ⟨_,rk⟩:=hp.of hJ;have hwt:eA (B' (i+1) ms) (b0:Int)=(w:Int):=hp.bG.symm.trans VE;have hadd:Iy (u::ts) ms ↑w i J:=⟨mi,ui,b0,Tb,a3,h1,MT,qu,hTb,hwt,hJ⟩;obtain ⟨_,y,y1,y2⟩:=ym (x:=⟨mi.aK,mi.aB⟩) a9 hU am hwt (by rw[OL];exact eI) hJ
  let ⟨r1,r2⟩:=aiW hp.knd hvr;have hFA:adZ (u::ts) ms w T' p.dQ (pF p.bT mi.bp):=⟨i,J,y,rk,hadd,y1,r1,by rw[r2,hvk,y2]⟩
  refine (avn hl fH hs hc eI d (i+1) m (jx b p.dQ (pF p.bT mi.bp)) W W W (abV hn _ _)).mono λb' ⟨h1,h2,h3,h4,h5⟩=>⟨h1,by have:=aoL b p.dQ (pF p.bT mi.bp);omega,λj hj=>h3 j ?_,λj x hx=> ?_,λi' J' h6 h7=> ?_⟩
  .rw[wB];split
   .simp
   .exact hj
  .rcases h4 j x hx with h|h
   .rw[wB] at h;split at h
    .rename_i e;rw[e,<-kh h];exact .inr hFA
    .exact .inl h
   .exact .inr h
  .by_cases e:i'=i
   .subst e;let ⟨m',ui',b',Tb',q1,q2,q3,q4,q5,q6,q7⟩:=h7;rw[a3] at q1;cases q1;rw[MT] at q3;cases q3;have:b'=b0:=by omega
    subst this;rw[hTb] at q5;cases q5;have e2:=(hp.of q7).2;exact h3 _ (by rw[wB,ax e2.symm];simp)
   .exact h5 i' J' W h7
 |_,_,0,_,_,hm,_,_=>W
def aqf (n0:Nat) (wr:aW) (b:List (Int×aP)) (zs:aN) (hl:O zs<=1000) (cE:aU):∀(x:aN) (i m:Nat) (z4 z7:aW) (acc:aU),B' i zs=x->O x<m->acc=(C' i zs).map (λk=>gB b k zv)->
  QQ (Zt n0) m (O zs:Int) (i:Int) wr z4 z7 b zs cE acc=V (⟨z7.aQ,z7.aq,cE,if wr.aQ=2 then zs else [],zs.map λk=>gB b k zv⟩,I)
 | [],i,m+1,z4,z7,acc,hd,hm,ha=>by
  let ⟨hi,hq⟩:=eu hd
  rw[jc hi] at ha;simp only[QQ,Zs,hq,aR,ay,aw,Zt];by_cases h2:wr.aQ=2
  .have e:(wr.aQ==2)=I:=by simpa using h2
   rw[e,ax rfl,ax h2,ha]
  .have e:(wr.aQ==2)=U:=by simpa using h2
   rw[e,au nY,au h2,ha]
 |z::x,i,m+1,z4,z7,acc,hd,hm,ha=>by
  let ⟨g1,g2,g3,hq⟩:=dN hd
  simp at hm;have hal:O acc=i:=by rw[ha,ku,dv];omega
  simp only[QQ,Zs,hq,aO,az,gx g3,ai,cN,g1];rw[dm _ _ ap,ai,bS g3 (W:O zs<4294967296)]
  refine aqf n0 wr b zs hl cE x (i+1) m _ _ _ g2 W ?_
  rw[ha,qO,g1];simp;rfl
 |_,_,0,_,_,_,_,hm,_=>W
def arb (b:List (Int×aP)) (cE:aU) (hl:O b<=1000) (hn:2000<rt):V4 rt qr ak aJ b cE=V (⟨aJ.aQ,aJ.aq,cE,if qr.aQ=2 then dJ (b.map (·.1)) else [],(dJ (b.map (·.1))).map λk=>gB b k zv⟩,I):=by
 unfold V4 avS adh;rw[au W,ai]
 have AP:O (dJ (b.map (·.1)))=O b:=by rw[wj,ku]
 exact aqf rt qr b _ W cE (dJ (b.map (·.1))) 0 rt _ _ [] rfl W rfl
end
end
section
structure yk (T:ah) (cs:aN) (vs:aU):Prop where
 len:cs.length=vs.length
 ord:cs.Pairwise (· < ·)
 each:∀(i:Nat) c v,cs[i]? =V c->vs[i]? =V v->∃(j:Nat) (x:bW),c=(j:Int)/\T.L[j]? =V x/\T.av<=c/\fJ v=I/\v.aB=x.aB
structure ov (N:af) (t:Nat) (T:ah) (w:aW):Prop where
 bG:w.aq=(t:Int)
 get:N.ag[t]? =V T
 key:lU (zV T) w.av=I
 op:(w.aQ=1/\w.L= []/\fL 1 T.av 0 (db T) w.cB=I/\eV T w.cB=w.av)\/(w.aQ=2/\yk T w.L w.cB)\/(w.aQ=3/\w.L= []/\w.cB= [])
def qY:aU->aN->aU->aU
 |r,c::cs,v::vs=>qY (r.set (Eb c) v) cs vs
 |r,_,_=>r
def KR:∀(r:aU) (cs:aN) (vs:aU),O (qY r cs vs)=O r
 |r,[],_=>by simp[qY]
 |r,_::_,[]=>by simp[qY]
 |r,c::cs,v::vs=>by
  show O (qY (r.set (Eb c) v) cs vs)=_;rw[KR,iy]
def ES:∀{cs:aN} {vs:aU} {k:Int} {v:aP},ed (cs.zip vs) k=V v->∃q:Nat,cs[q]? =V k/\vs[q]? =V v
 | [],_,_,_,h=>by simp[ed] at h
 |_::_,[],_,_,h=>by simp[ed] at h
 |c::cs,x::vs,k,v,h=>by
  have h:(if k=c then V x else ed (cs.zip vs) k)=V v:=h
  split at h
  .rename_i e;exact ⟨0,by rw[e];rfl,h⟩
  .let ⟨q,q1,q2⟩:=ES h;exact ⟨q+1,by simpa using q1,by simpa using q2⟩
def afy:∀{cs:aN} {vs:aU} {k:Int},ed (cs.zip vs) k=A->O cs<=O vs->k∉cs
 | [],_,_,_,_=>am
 |_::_,[],_,_,hl=>by simp at hl
 |c::cs,x::vs,k,h,hl=>by
  have h:(if k=c then V x else ed (cs.zip vs) k)=A:=h
  split at h
  .cases h
  .rename_i e;exact λhk=>(cU.1 hk).elim e (afy h (by simpa using hl))
def E1:∀(cs:aN) (vs:aU) (r:aU) (q:Nat),cs.Pairwise (· < ·)->(∀c∈cs,0<=c)->(qY r cs vs)[q]? =match ed (cs.zip vs) (q:Int) with
  |some v=>if q<O r then V v else A
  |none=>r[q]?
 | [],_,r,_,_,_=>by simp[qY,ed]
 |_::_,[],r,_,_,_=>by simp[qY,ed]
 |c::cs,v::vs,r,q,ho,h0=>by
  let ⟨o1,o2⟩:=nk.1 ho;have MU:=h0 c am
  have ih:=E1 cs vs (r.set (Eb c) v) q o2 λx hx=>h0 x (fj _ hx)
  show (qY (r.set (Eb c) v) cs vs)[q]? =match (if (q:Int)=c then V v else ed (cs.zip vs) ↑q) with
   |some v=>if q<O r then V v else A
   |none=>r[q]?
  rw[ih,iy];by_cases e:(q:Int)=c
  .rw[ax e];have hn:ed (cs.zip vs) (q:Int)=A:=by
    cases h:ed (cs.zip vs) ↑q with
    |none=>rfl
    |some y=>
     let ⟨i,i1,_⟩:=ES h;have:=o1 _ (bF i1);omega
   rw[hn];have:Eb c=q:=by omega
   rw[this];show (r.set q v)[q]? =if q<O r then V v else A
   rw[Ep];simp
  .rw[au e];have:Eb c≠q:=by omega
   rw[ni this];rfl
section
variable {u:af} {ms:cj} {ts:gg} {a w:Nat} {T T':ah}
structure UpW (ms:cj) (a w:Nat) (T T':ah) (wr uw:aW):Prop where
 op:uw.aQ=wr.aQ
 key:uw.av=wr.av
 ins:wr.aQ=1->qb ms (a:Int) T.L.length uw.cB=wr.cB
 j4:wr.aQ=2->∀R,R.length=T'.L.length->qb ms (a:Int) T.L.length (qY R uw.L uw.cB)=qY (qb ms (a:Int) T.L.length R) wr.L wr.cB
def P7 {r:aU} (hl:O r=O ks) (h:∀(i:Nat) k v,ks[i]? =V k->r[i]? =V v->fJ v=I/\v.aB=k):lU ks r=I:=by
 induction ks generalizing r with
 |nil=>cases r with
  |nil=>rfl
  |cons=>simp at hl
 |cons k ks ih=>cases r with
  |nil=>simp at hl
  |cons v r=>
   let ⟨h1,h2⟩:=h 0 k v rfl rfl;show ((fJ v&&v.aB==k)&&lU ks r)=I;rw[h1,ih (by simpa using hl) λi k' v' g1 g2=>h (i+1) k' v' (by simpa using g1) (by simpa using g2)]
   simp[h2]
def y9 {r:aU} (h:lU ks r=I) {k:Int} {v:aP} (h1:ks[i]? =V k) (h2:r[i]? =V v):fJ v=I/\v.aB=k:=by
 induction ks generalizing r i with
 |nil=>simp at h1
 |cons q ks ih=>cases r with
  |nil=>simp at h2
  |cons x r=>
   have h:((fJ x&&x.aB==q)&&lU ks r)=I:=h;rw[bI,bI] at h;cases i with
   |zero=>
    cases h1;cases h2;exact ⟨h.1.1,by simpa using h.1.2⟩
   |succ i=>exact ih h.2 (by simpa using h1) (by simpa using h2)
def aip {b:List (Int×aP)} (hz:∀z,z∈zs↔ed b z≠A) (ho:zs.Pairwise (· < ·)) (k:Int):ed (zs.zip (zs.map λk=>gB b k zv)) k=ed b k:=by
 have main:∀(l:aN),ed (l.zip (l.map λk=>gB b k zv)) k=if k∈l then V (gB b k zv) else A:=λl=>by
  induction l with
  |nil=>rfl
  |cons z l ih=>
   show (if k=z then V (gB b z zv) else ed (l.zip (l.map λk=>gB b k zv)) k)=_
   rw[ih];by_cases e:k=z
   .subst e;simp
   .rw[au e];by_cases g:k∈l
    .rw[ax g,ax (fj _ g)]
    .rw[au g,au λh=>(cU.1 h).elim e g]
 rw[main zs];by_cases g:k∈zs
 .rw[ax g,xO];cases h:ed b k with
  |none=>exact absurd h ((hz k).1 g)
  |some v=>rfl
 .rw[au g];cases h:ed b k with
  |none=>rfl
  |some v=>exact absurd ((hz k).2 (by rw[h];simp)) g
end
end
section
def yk.nat {T:ah} {cs:aN} (h:yk T cs vs) {c:Int} (hc:cs[i]? =V c):∃(v:aP) (j:Nat) (x:bW),vs[i]? =V v/\c=(j:Int)/\T.L[j]? =V x/\T.av<=c/\fJ v=I/\v.aB=x.aB:=by
 have hl:=(bk.1 hc).1;have hv:vs[i]? =V (vs[i]'(by rw[<-h.len];exact hl)):=bJ _
 let ⟨j,x,h1,h2,h3,h4,h5⟩:=h.each i c _ hc hv;exact ⟨_,j,x,hv,h1,h2,h3,h4,h5⟩
section
variable {u:af} {ms:cj} {ts:gg} {a w:Nat} {T T':ah} {wr:aW} {ps:lJ} {cs:List Nat} {b:List (Int×aP)}
def aKq (hs:fo u=0) (hN:fo ((u::ts).getLast am)=0) (hc:di u ms ts) (hT:u.ag[a]? =V T) (hw:eA ms (a:Int)=(w:Int)) (eI:((u::ts).getLast am).ag[w]? =V T'):T'.av=T.av/\zV T'=zV T:=by
 have DK:=(SG.of hs).bG T (bF hT);have hTG':=(SG.of hN).bG T' (bF eI);have k1:=DK.lV;have k2:=DK.iA;have k3:=hTG'.iA;have h0:0<O T.L:=by omega
 have one:∀q:Nat,(q:Int)<T.av->∃x y,T.L[q]? =V x/\T'.L[q]? =V y/\y.aB=x.aB/\T'.av=T.av:=λq hq=>by
  have hx:T.L[q]? =V (T.L[q]' W):=bJ _
  let ⟨e,y,y1,y2⟩:=ym hc hT hx hw eI (asK hc hT W hq hw)
  exact ⟨_,y,hx,y1,y2,e⟩
 let ⟨_,_,_,_,_,e⟩:=one 0 W
 refine ⟨e,pK λq=> ?_⟩
 unfold zV;rw[eO,eO,e];split
 .let ⟨x,y,x1,y1,e2,_⟩:=one q W
  rw[oh x1,oh y1,e2]
 .rfl
structure Ir (u:af) (ts:gg) (ms:cj) (a w:Nat) (T T':ah) (ps:lJ) (cs:List Nat) (cells:aU) (b:List (Int×aP)):Prop where
 nd:(b.map (·.1)).Nodup
 src:∀j x,ed b j=V x->YF ps cs cells j x\/adZ (u::ts) ms w T' j x
 has:∀(q c:Nat) (v:aP) (p:dF),cs[q]? =V c->cells[q]? =V v->ps[c]? =V p->if p.cI=I then ed b p.dQ≠A else v=p.eQ
def Ir.get (h:Ir u ts ms a w T T' ps cs wr.cB b) (hc:di u ms ts) (hT:u.ag[a]? =V T) (hw:eA ms (a:Int)=(w:Int)) (qq:LZ ms a T ps) (oI:Cells T wr.aQ wr.L wr.cB cs) {q c:Nat} {v:aP} (h1:cs[q]? =V c) (h2:wr.cB[q]? =V v) (h3:ps[c]? =V p) (hs:p.cI=I) (hj:p.dQ=(j:Int)):ed b (j:Int)=V (pF p.bT v):=by
 have hW:=(qq.2 c p h3).way hs hj;have dX:=oI.2.2.1 c (bF h1);have h0:=h.has q c v p h1 h2 h3;rw[ax hs,hj] at h0;cases hl:ed b ↑j with
 |none=>exact absurd hl h0
 |some x=>
  rcases h.src _ _ hl with ⟨q',c',v',p',a1,a2,a3,a4,a5,a6⟩|⟨i,J,y,b1,b2,_⟩
  .have hW':=(qq.2 c' p' a3).way a4 a5.symm;have e:=IZ hc hT dX (oI.2.2.1 c' (bF a1)) hW hW';subst e;rw[h3] at a3;cases a3;have hqq:q=q':=(List.getElem?_inj (bk.1 h1).1 oI.2.1).1 (h1.trans a1.symm);subst hqq;rw[h2] at a2;cases a2;rw[a6]
  .have:J=j:=by omega
   subst this;exact absurd b2 (aaX hc hT dX hw hW)
def Ir.none (h:Ir u ts ms a w T T' ps cs wr.cB b) (hc:di u ms ts) (hT:u.ag[a]? =V T) (hw:eA ms (a:Int)=(w:Int)) (qq:LZ ms a T ps) (oI:Cells T wr.aQ wr.L wr.cB cs) {c:Nat} (dX:c<O T.L) (hW:Way ms a c j) (hn:c∉cs):ed b (j:Int)=A:=by
 cases hl:ed b ↑j with
 |none=>rfl
 |some x=>
  rcases h.src _ _ hl with ⟨q',c',v',p',a1,a2,a3,a4,a5,a6⟩|⟨i,J,y,b1,b2,_⟩
  .have hW':=(qq.2 c' p' a3).way a4 a5.symm;have e:=IZ hc hT dX (oI.2.2.1 c' (bF a1)) hW hW';subst e;exact absurd (bF a1) hn
  .have:J=j:=by omega
   subst this;exact absurd b2 (aaX hc hT dX hw hW)
def Ir.knd (h:Ir u ts ms a w T T' ps cs wr.cB b) (hc:di u ms ts) (hT:u.ag[a]? =V T) (hw:eA ms (a:Int)=(w:Int)) (eI:((u::ts).getLast am).ag[w]? =V T') (qq:LZ ms a T ps) (oI:Cells T wr.aQ wr.L wr.cB cs) (hv:∀(q c:Nat) (v:aP) (x:bW),cs[q]? =V c->wr.cB[q]? =V v->T.L[c]? =V x->fJ v=I/\v.aB=x.aB) {j:Int} {x:aP} (hl:ed b j=V x):
  ∃(J:Nat) (y:bW),j=(J:Int)/\T'.L[J]? =V y/\fJ x=I/\x.aB=y.aB/\((∃c∈cs,Way ms a c J)\/∃i,Iy (u::ts) ms (w:Int) i J):=by
 rcases h.src _ _ hl with ⟨q,c,v,p,a1,a2,a3,a4,a5,a6⟩|⟨i,J,y,b1,b2,b3,b4,b5⟩
 .have hA:=qq.2 c p a3;have hm:=bF a1;have dX:=oI.2.2.1 c hm;have hx:T.L[c]? =V T.L[c]:=bJ dX;let ⟨J,hJ⟩:=IY hc hT dX (hA.MK.symm.trans a4);let ⟨_,y,y1,y2⟩:=ym hc hT hx hw eI hJ;let ⟨v1,v2⟩:=hv q c v _ a1 a2 hx;let ⟨r1,r2⟩:=aiW hA.knd v1;exact ⟨J,y,a5.trans (hA.of hJ).2,y1,by rw[a6];exact r1,by rw[a6,r2,v2,y2],.inl ⟨c,hm,hJ⟩⟩
 .exact ⟨J,y,b1,b3,b4,b5,.inr ⟨i,b2⟩⟩
def aLC (hs:fo u=0) (hN:fo ((u::ts).getLast am)=0) (fH:∀m∈ms,MB m/\(m.aQ=8->fq m.cg)) (hc:di u ms ts) (hT:u.ag[a]? =V T) (hw:eA ms (a:Int)=(w:Int)) (eI:((u::ts).getLast am).ag[w]? =V T') (qq:LZ ms a T ps) (h1:wr.aQ=1) (hr:fL 1 T.av 0 (db T) wr.cB=I) (oI:Cells T wr.aQ wr.L wr.cB (DO (O T.L))) (h:Ir u ts ms a w T T' ps (DO (O T.L)) wr.cB b) (hA:∀i' J,Iy (u::ts) ms (w:Int) i' J->ed b (J:Int)≠A):
  fL 1 T'.av 0 (db T') ((dJ (b.map (·.1))).map λk=>gB b k zv)=I/\qb ms (a:Int) (O T.L) ((dJ (b.map (·.1))).map λk=>gB b k zv)=wr.cB:=by
 have mM:=fC hr;have ht:fP T:=(mW hs).bG ↑a T (by rw[bh];exact hT)
 have ht':fP T':=(mW hN).bG ↑w T' (by rw[bh];exact eI)
 rw[yo ht.ks] at hr;have cell:∀c,c<O T.L->∃v,(DO (O T.L))[c]? =V c/\wr.cB[c]? =V v:=λc dX=>⟨wr.cB[c]' W,by simp[dX],bJ _⟩
 have hv:∀(q c:Nat) (v:aP) (x:bW),(DO (O T.L))[q]? =V c->wr.cB[q]? =V v->T.L[c]? =V x->fJ v=I/\v.aB=x.aB:=λq c v x g1 g2 g3=>by
  have hqc:q=c:=by
   have:=bk.1 g1;let ⟨q1,q2⟩:=this;simp at q2;exact q2
  subst hqc;exact y9 hr (oh g3) g2
 have hzs:dJ (b.map (·.1))=(DO (O T'.L)).map λi:Nat=>(i:Int):=by
  refine ayJ (ahr h.nd) (avj.2 (List.pairwise_lt_range.imp λFM=>W)) λz=> ?_
  rw[(pd _).mem_iff,G0,dL];constructor
  .intro hz;cases hl:ed b z with
   |none=>exact absurd hl hz
   |some x=>
    let ⟨J,y,e1,e2,_⟩:=h.knd hc hT hw eI qq oI hv hl;exact ⟨J,by simpa using (bk.1 e2).1,e1.symm⟩
  .rintro ⟨J,hJ,rfl⟩;have hJ:J<O T'.L:=by simpa using hJ
   rcases cover hc hT hw eI hJ with ⟨c,dX,hW⟩|⟨i,hi⟩
   .let ⟨v,v1,v2⟩:=cell c dX;have um:c<O ps:=by have:=qq.1;omega
    have hp:ps[c]? =V ps[c]:=bJ um;let ⟨s1,s2⟩:=(qq.2 c _ hp).of hW;have:=h.has c c v _ v1 v2 hp;rw[ax s1,s2] at this;exact this
   .exact hA i J hi
 have li:O ((dJ (b.map (·.1))).map λk=>gB b k zv)=O T'.L:=by rw[hzs];simp
 have nO:∀(J:Nat),J<O T'.L->((dJ (b.map (·.1))).map λk=>gB b k zv)[J]? =V (gB b ↑J zv):=λJ hJ=>by rw[hzs];simp[hJ]
 refine ⟨?_,pK λi=> ?_⟩
 .rw[yo ht'.ks];refine P7 (by rw[li,kK]) λi k v g1 g2=> ?_
  have hi:i<O T'.L:=by have:=(bk.1 g2).1;omega
  rw[nO i hi] at g2;have hz:(i:Int)∈b.map (·.1):=by
   rw[<-(pd _).mem_iff,hzs];exact dL.2 ⟨i,by simpa using hi,rfl⟩
  cases hl:ed b ↑i with
  |none=>exact absurd hl (G0.1 hz)
  |some x=>
   let ⟨J,y,e1,e2,e3,e4,_⟩:=h.knd hc hT hw eI qq oI hv hl;have:J=i:=by omega
   subst this;rw[oh e2] at g1;rw[xO,hl] at g2;cases g1;cases g2;exact ⟨e3,e4⟩
 .by_cases hi:i<O T.L
  .let ⟨v,v1,v2⟩:=cell i hi;have um:i<O ps:=by have:=qq.1;omega
   have hp:ps[i]? =V ps[i]:=bJ um;have hA':=qq.2 i _ hp;rw[Bk hi,v2,hA'.val W]
   by_cases pW:ps[i].cI=I
   .rw[ax pW];let ⟨j,hW⟩:=IY hc hT hi (hA'.MK.symm.trans pW);let ⟨_,s2⟩:=hA'.of hW;have hx:T.L[i]? =V T.L[i]:=bJ hi;let ⟨_,y,y1,_⟩:=ym hc hT hx hw eI hW;have hl:=h.get hc hT hw qq oI v1 v2 hp pW s2;have e:sQ ((dJ (b.map (·.1))).map λk=>gB b k zv) ps[i].dQ=pF ps[i].bT v:=by
     unfold sQ;rw[s2,show Eb ((j:Int))=j by simp,nO j (bk.1 y1).1,xO,hl];rfl
    rw[e,akX hA'.zK]
   .have:=h.has i i v _ v1 v2 hp;rw[au pW] at this;rw[au pW,this]
  .rw[mw (by rw[uz];omega),mw W]
def aLB (hs:fo u=0) (hc:di u ms ts) (hT:u.ag[a]? =V T) (hw:eA ms (a:Int)=(w:Int)) (eI:((u::ts).getLast am).ag[w]? =V T') (qq:LZ ms a T ps) (h2:wr.aQ=2) (hk:yk T wr.L wr.cB) (oI:Cells T wr.aQ wr.L wr.cB cs) (h:Ir u ts ms a w T T' ps cs wr.cB b) (hnA:∀j x,ed b j=V x->YF ps cs wr.cB j x):
  yk T' (dJ (b.map (·.1))) ((dJ (b.map (·.1))).map λk=>gB b k zv)/\∀R,O R=O T'.L->qb ms (a:Int) (O T.L) (qY R (dJ (b.map (·.1))) ((dJ (b.map (·.1))).map λk=>gB b k zv))=qY (qb ms (a:Int) (O T.L) R) wr.L wr.cB:=by
 have DK:=(SG.of hs).bG T (bF hT);have k2:=DK.iA;have hz:∀z,z∈dJ (b.map (·.1))↔ed b z≠A:=λz=>by rw[(pd _).mem_iff,G0]
 have Jr:=ahr h.nd;have rk:∀(q c:Nat),cs[q]? =V c->wr.L[q]? =V (c:Int):=λq c hq=>by
  have:=oI.2.2.2 q c hq;rw[ax h2] at this;exact this
 have hv:∀(q c:Nat) (v:aP) (x:bW),cs[q]? =V c->wr.cB[q]? =V v->T.L[c]? =V x->fJ v=I/\v.aB=x.aB:=λq c v x g1 g2 g3=>by
  let ⟨j,y,e1,e2,_,e4,e5⟩:=hk.each q _ v (rk q c g1) g2;have:j=c:=by omega
  subst this;rw[g3] at e2;cases e2;exact ⟨e4,e5⟩
 have N2:∀z∈dJ (b.map (·.1)),0<=z:=λz hz'=>by
  cases hl:ed b z with
  |none=>exact absurd hl ((hz z).1 hz')
  |some x=>
   let ⟨J,y,e1,_⟩:=h.knd hc hT hw eI qq oI hv hl;omega
 have aSV:∀z∈wr.L,0<=z:=λz hz'=>by
  let ⟨i,hi⟩:=lP hz';let ⟨_,j,_,_,e,_⟩:=hk.nat hi;omega
 refine ⟨⟨am,Jr,λi c v g1 g2=> ?_⟩,λR hR=>pK λi=> ?_⟩
 .rw[my,g1] at g2;have g2:gB b c zv=v:=by simpa using g2
  cases hl:ed b c with
  |none=>exact absurd hl ((hz c).1 (bF g1))
  |some x=>
   let ⟨J,y,e1,e2,e3,e4,_⟩:=h.knd hc hT hw eI qq oI hv hl;rw[xO,hl] at g2;have g2:x=v:=g2;subst g2;refine ⟨J,y,e1,e2,?_,e3,e4⟩;let ⟨q,c',v',p,a1,a2,a3,a4,a5,a6⟩:=hnA _ _ hl;have hm:=bF a1;have dX:=oI.2.2.1 c' hm;have hW:Way ms a c' J:=(qq.2 c' p a3).way a4 (a5.symm.trans e1);let ⟨ek,_⟩:=ym hc hT (bJ dX) hw eI hW;by_cases cT:(J:Int)<T.av
   .have e:=IZ hc hT dX W hW (asK hc hT W cT hw)
    let ⟨j',y',q1,_,q3,_⟩:=hk.each q _ v' (rk q c' a1) a2;omega
   .omega
 .by_cases hi:i<O T.L;rotate_left
  .rw[mw (by rw[uz];omega),mw (by rw[KR,uz];omega)]
  have um:i<O ps:=by have:=qq.1;omega
  have hp:ps[i]? =V ps[i]:=bJ um;have hA:=qq.2 i _ hp;have hx:T.L[i]? =V T.L[i]:=bJ hi;rw[Bk hi,E1 _ _ _ _ hk.ord aSV,uz,Bk hi,hA.val W,hA.val W]
  have FF:∀{v},ed (wr.L.zip wr.cB) (i:Int)=V v->∃q:Nat,cs[q]? =V i/\wr.cB[q]? =V v:=λ{v} hl=>by
   let ⟨q,q1,q2⟩:=ES hl;have CL:q<O cs:=by have:=(bk.1 q2).1;have:=oI.1;omega
   have hq:cs[q]? =V cs[q]:=bJ CL;have:=rk q _ hq;rw[q1] at this;have e:(cs[q]:Int)=(i:Int):=(kh this).symm;have e:cs[q]=i:=by omega
   exact ⟨q,by rw[hq,e],q2⟩
  by_cases pW:ps[i].cI=I
  .rw[ax pW,ax pW];let ⟨j,hW⟩:=IY hc hT hi (hA.MK.symm.trans pW);let ⟨_,s2⟩:=hA.of hW;let ⟨_,y,y1,_⟩:=ym hc hT hx hw eI hW;have gI:=(bk.1 y1).1;have eR:sQ (qY R (dJ (b.map (·.1))) ((dJ (b.map (·.1))).map λk=>gB b k zv)) ps[i].dQ=(ed b ↑j).getD (sQ R ps[i].dQ):=by
    unfold sQ;rw[s2,show Eb ((j:Int))=j by simp,E1 _ _ _ _ Jr N2,aip hz Jr,hR]
    cases ed b ↑j with
    |none=>rfl
    |some x=>show (if j<O T'.L then V x else A).getD zv=x;rw[ax gI];rfl
   rw[eR];cases hl:ed (wr.L.zip wr.cB) ↑i with
   |some v=>
    let ⟨q,q1,q2⟩:=FF hl;rw[h.get hc hT hw qq oI q1 q2 hp pW s2];show V (rL _ (pF _ v))=if i<O T.L then V v else A
    rw[akX hA.zK,ax hi]
   |none=>
    have hni:i∉cs:=λhm=>by
     let ⟨q,hq⟩:=lP hm;exact afy hl (qz hk.len) (bF (rk q i hq))
    rw[h.none hc hT hw qq oI hi hW hni];rfl
  .rw[au pW,au pW];cases hl:ed (wr.L.zip wr.cB) ↑i with
   |some v=>
    let ⟨q,q1,q2⟩:=FF hl;have:=h.has q i v _ q1 q2 hp;rw[au pW] at this;show V _=if i<O T.L then V v else A
    rw[ax hi,this]
   |none=>rfl
end
end
section
section
variable {u:af} {ms:cj} {ts:gg} {a:Nat} {T:ah} {wr:aW} {n:Nat}
def ov.small {N:af} {t:Nat} (hN:nF N) (h:ov N t T wr):fP T/\O wr.av=Eb T.av/\O wr.av<=8/\O wr.cB<=100/\O wr.L<=100:=by
 have ht:fP T:=hN.bG ↑t T (by rw[bh];exact h.get)
 have h1:=ht.lV;have h2:=ht.iA;have h8:=ht.cols;have hk:=uA h.key;have xU:O (zV T)=Eb T.av:=by unfold zV;rw[dv,kK];omega
 refine ⟨ht,W,W,?_⟩
 rcases h.op with ⟨_,e,hr,_⟩|⟨_,hc⟩|⟨_,e1,e2⟩
 .have:=fC hr;rw[e];exact ⟨W,am⟩
 .have lm:O wr.L<=8:=by
   have hb:∀c∈wr.L,0<=c/\c<8:=λc jm=>by
    let ⟨i,hi⟩:=lP jm;let ⟨_,j,x,_,e,hx,_⟩:=hc.nat hi;have:=(bk.1 hx).1;omega
   have key:∀(l:aN) (k:Nat),l.Pairwise (· < ·)->(∀c∈l,(k:Int)<=c/\c<8)->k<=8->O l+k<=8:=λl=>by
    induction l with
    |nil=>intro k _ _ hk;simpa using hk
    |cons c l ih=>
     intro k ho hb hk;let ⟨o1,o2⟩:=nk.1 ho;have MU:=hb c am
     have:=ih (k+1) o2 (λd hd=>by have:=o1 d hd;have:=hb d (fj _ hd);omega) W
     rw[l7];omega
   have:=key wr.L 0 hc.ord (λc jm=>by have:=hb c jm;omega) W
   omega
  have:=hc.len;exact ⟨W,W⟩
 .rw[e1,e2];simp
def aXp (hn:20000<n) (fB:n<4294967296) (hl:O ms<=8) (fH:∀m∈ms,MB m/\(m.aQ=8->fq m.cg)) (hs:fo u=0) (hN:fo ((u::ts).getLast am)=0) (hc:di u ms ts) (hW:ov u a T wr):
  (∃z,F74 n ⟨u::ts,ms⟩ wr=V (z,U))\/∃(uw:aW) (w:Nat) (T':ah),F74 n ⟨u::ts,ms⟩ wr=V (uw,I)/\eA ms (a:Int)=(w:Int)/\((u::ts).getLast am).ag[w]? =V T'/\ov ((u::ts).getLast am) w T' uw/\UpW ms a w T T' wr uw:=by
 have hT:=hW.get;let ⟨ht,xU,N8,dX,rk⟩:=hW.small (mW hs);let ⟨p,ep,p1⟩:=auT n W fB u ms ts hl fH hs hc hT (c:= -1) (k0:=0) (HO.none T)
 unfold F74 avR;rw[hW.bG];show (∃z,(F63 n ms ↑a (-1)).bind _=_)\/∃uw w T',(F63 n ms ↑a (-1)).bind _=_/\_;rw[ep,ai];by_cases hw:p.gd<0
 .rw[qW hw,ax rfl];exact .inl ⟨_,rfl⟩
 have VE:=p1.bG;let ⟨w,T',e1,eI,_⟩:=p1.on W
 let ⟨ek,ekt⟩:=aKq hs hN hc hT e1 eI;have hto:p.gd=(w:Int):=VE.trans e1;rw[tv hw,au nY,dm _ _ ap,ai,jb,hto]
 have asP:lU (zV T') wr.av=I:=by rw[ekt];exact hW.key
 rcases hW.op with ⟨h1,e2,hr,VC⟩|⟨h2,hk⟩|⟨h3,e2,e3⟩
 .have e3:(wr.aQ==3)=U:=by rw[h1];rfl
  rw[e3,au nY];let ⟨ps,eps,qq⟩:=aBB n W fB hl fH hs hc hT ts
  rw[eps,ai];have mM:=fC hr;have oI:Cells T wr.aQ wr.L wr.cB (DO (O T.L)):=⟨ap,List.nodup_range,λc jm=>by simpa using jm,λi c hi=>by
   rw[au W]
   let ⟨q1,q2⟩:=bk.1 hi;simp at q2;exact q2.symm⟩
  rcases QR qq oI W (HJ n) ↑w ⟨u::ts,ms⟩ ⟨wr.aQ,(w:Int),wr.av,[],[]⟩ wr.av rfl wr.cB 0 n ⟨0,0,[],[],[]⟩ [] rfl W am am with ⟨z,hz⟩|⟨b',z,g1,g2,g3,g4,g5,g6⟩
  .exact .inl ⟨z,hz⟩
  right;have g1:Ap (HJ n) n ↑w wr.cB (O wr.cB:Int) 0 ⟨u::ts,ms⟩ wr ⟨0,0,[],[],[]⟩ ⟨wr.aQ,(w:Int),wr.av,[],[]⟩ ps [] wr.av=_:=g1;let ⟨b,eb,b1,b2,b3,b4,b5⟩:=avn hl fH hs hc eI (O ms) 0 n b' W W fB g2
  have hM:Ir u ts ms a w T T' ps (DO (O T.L)) wr.cB b:=⟨b1,λj x hx=>(b4 j x hx).imp (λh=>(g5 j x h).resolve_left λh=>by cases h) id,λq c v p q1 q2 q3=>by
   have:=g6 q c v p W q1 q2 q3
   split at this
   .rename_i pW;rw[ax pW];exact b3 _ this
   .rename_i pW;rw[au pW];exact this⟩
  let ⟨r1,r2⟩:=aLC hs hN fH hc hT e1 eI qq h1 hr oI hM λi' J hA=>b5 i' J W hA
  refine ⟨⟨wr.aQ,(w:Int),wr.av,[],(dJ (b.map (·.1))).map λk=>gB b k zv⟩,w,T',g1.trans ?_,e1,eI,?_,?_⟩
  .unfold HJ;have e:(wr.aQ==1)=I:=by rw[h1];rfl
   rw[e,ax rfl];show (Ar n ↑w ms (O ms:Int) 0 b' ⟨u::ts,ms⟩).bind _=_;have eb:Ar n ↑w ms (O ms:Int) 0 b' ⟨u::ts,ms⟩=V b:=eb;rw[eb,ai];have Hc:=arb n wr z ⟨wr.aQ,(w:Int),wr.av,[],[]⟩ b wr.av W W
   rw[au W] at Hc
   exact Hc
  .refine ⟨rfl,eI,asP,.inl ⟨h1,rfl,r1,?_⟩⟩;let ⟨_,_,r3⟩:=Ff fH hs hc hT e1 eI r1;rw[r2] at r3;show C' (Eb T'.av) _=_;rw[ek];exact r3.symm.trans VC
  .exact ⟨rfl,rfl,λ_=>r2,λh=>W⟩
 .have e3:(wr.aQ==3)=U:=by rw[h2];rfl
  rw[e3,au nY];let ⟨ps,eps,qq⟩:=aBB n W fB hl fH hs hc hT ts
  rw[eps,ai];have N4:∀(i:Nat) c,(wr.L.map Int.toNat)[i]? =V c->wr.L[i]? =V (c:Int)/\c<O T.L:=λi c hi=>by
   rw[my] at hi;cases hq:wr.L[i]? with
   |none=>rw[hq] at hi;cases hi
   |some z=>
    rw[hq] at hi;let ⟨_,j,x,_,e,hx,_⟩:=hk.nat hq;have hi:Eb z=c:=by simpa using hi
    have:=(bk.1 hx).1;exact ⟨by rw[e];congr 1;omega,W⟩
  have oI:Cells T wr.aQ wr.L wr.cB (wr.L.map Int.toNat):=⟨by rw[ku];exact hk.len,by
   refine (List.Pairwise.imp (R:=λa b:Nat=>a<b) (λh=>W) (avj.2 (hk.ord.imp_of_mem λ{x y} hx hy NY=> ?_)))
   let ⟨i,hi⟩:=lP hx;let ⟨_,j,_,_,e,_⟩:=hk.nat hi;omega,λc jm=>by
   let ⟨i,hi⟩:=lP jm;exact (N4 i c hi).2,λi c hi=>by
   rw[ax h2];exact (N4 i c hi).1⟩
  rcases QR qq oI W (HJ n) ↑w ⟨u::ts,ms⟩ ⟨wr.aQ,(w:Int),wr.av,[],[]⟩ wr.av rfl wr.cB 0 n ⟨0,0,[],[],[]⟩ [] rfl W am am with ⟨z,hz⟩|⟨b,z,g1,g2,g3,g4,g5,g6⟩
  .exact .inl ⟨z,hz⟩
  right;have g1:Ap (HJ n) n ↑w wr.cB (O wr.cB:Int) 0 ⟨u::ts,ms⟩ wr ⟨0,0,[],[],[]⟩ ⟨wr.aQ,(w:Int),wr.av,[],[]⟩ ps [] wr.av=_:=g1;have hF:∀j x,ed b j=V x->YF ps (wr.L.map Int.toNat) wr.cB j x:=λj x hx=>(g5 j x hx).resolve_left λh=>by cases h
  have hM:Ir u ts ms a w T T' ps (wr.L.map Int.toNat) wr.cB b:=⟨g2,λj x hx=>.inl (hF j x hx),λq c v p q1 q2 q3=>g6 q c v p W q1 q2 q3⟩
  let ⟨r1,r2⟩:=aLB hs hc hT e1 eI qq h2 hk oI hM hF;refine ⟨⟨wr.aQ,(w:Int),wr.av,dJ (b.map (·.1)),(dJ (b.map (·.1))).map λk=>gB b k zv⟩,w,T',g1.trans ?_,e1,eI,?_,?_⟩
  .unfold HJ;have e:(wr.aQ==1)=U:=by rw[h2];rfl
   rw[e,au nY,arb n wr _ _ b wr.av W W,ax h2]
  .exact ⟨rfl,eI,asP,.inr (.inl ⟨h2,r1⟩)⟩
  .exact ⟨rfl,rfl,λh=>W,λ_=>r2⟩
 .have e:(wr.aQ==3)=I:=by rw[h3];rfl
  rw[e,ax rfl];exact .inr ⟨_,w,T',rfl,e1,eI,⟨rfl,eI,asP,.inr (.inr ⟨h3,rfl,rfl⟩)⟩,⟨rfl,rfl,λh=>W,λh=>W⟩⟩
end
end
section
def aBr (n0:Nat) {ks:aN} {row:aU} (hr:lU ks row=I) (hl:O row<=1000):∀(x:aU) (i m:Nat),B' i row=x->O x+100<m->Kh (XO n0) m ks row (O row:Int) (i:Int)=V I
 | [],i,m+1,hd,hm=>by
  let ⟨hi,hq⟩:=eu hd
  simp only[Kh,XP,hq,aR,ay,aw,XO]
 |v::x,i,m+1,hd,hm=>by
  let ⟨g1,g2,g3,hq⟩:=dN hd
  have xU:=uA hr;have hk:ks[i]? =V (ks[i]' W):=bJ _
  let ⟨v1,v2⟩:=y9 hr hk g1;have h163:Tu m v=V I:=by rw[abr,v1]
  simp at hm;have e:(v.aB !=ks[i]' W)=U:=by simp[v2]
  simp only[Kh,XP,hq,aO,az,bh,g1,ai,h163,cO,ay,aw,hk,e,bS g3 (W:O row<4294967296)]
  exact aBr n0 hr hl x (i+1) m g2 W
 |_,_,0,_,hm=>W
def aBA {row:aU} (hr:lU ks row=I) (hl:O row<=1000) (hn:2000<rt):pA rt row ks=V I:=by
 have xU:=uA hr;have e:((O row:Int) !=(O ks:Int))=U:=by simp[xU]
 unfold pA amL;rw[e,au nY];exact aBr rt hr hl row 0 rt rfl W
section
variable {s N:af} {t n:Nat} {T:ah} {w:aW}
def aRR (hT:idx s.ag (t:Int)=V T) (ht:fP T) (hn:2000<n):wg n s (t:Int)=V (zV T):=by
 have k1:=ht.lV;have k2:=ht.iA;have k8:=ht.cols;have xU:=kK T;have Yl:¬T.av<0:=by omega
 have e:(if (O (db T):Int)<T.av then (O (db T):Int) else T.av)=T.av:=by rw[au W]
 have aDA:ou (O (db T)) T.av=V (Eb T.av):=by
  unfold ou;rw[ax W]
 unfold wg amK;simp only[akB hT W (W:1000<n),ai,Rm hT,cO,ay,aw,hT,Yl,aR,e,aDA]
 rfl
def aRI (hT:idx s.ag (t:Int)=V T) (ht:fP T) (r:aU) (hr:O r=O T.L):Y0 n s (t:Int) r=V (eV T r):=by
 have k1:=ht.lV;have k2:=ht.iA;have k8:=ht.cols;have Yl:¬T.av<0:=by omega
 have e:(if (O r:Int)<T.av then (O r:Int) else T.av)=T.av:=by rw[au W]
 unfold Y0 alY;simp only[Rm hT,ai,cO,ay,aw,hT,Yl,aR,e];rw[ajx W W,ai,dm _ _ ap,ai]
 rfl
def aBq (n0:Nat) (hc:yk T w.L w.cB) (hl:O w.cB<=100) (h8:O T.L<=8):∀(x:aN) (i m:Nat) (last:Int) (acc:aN),B' i w.L=x->O x+3000<m->O acc=i->(∀c∈x,last<c)->lU acc (C' i w.cB)=I->
  Gv (KB n0) m last w.L (O w.L:Int) (i:Int) w (db T) acc=KB n0 w (acc++(x.map λc=>((db T)[Eb c]?).getD 0))/\lU (acc++(x.map λc=>((db T)[Eb c]?).getD 0)) w.cB=I
 | [],i,m+1,last,acc,hd,hm,ha,hx,hr=>by
  let ⟨hi,hq⟩:=eu hd
  simp only[Gv,XN,hq,aR,ay,aw,wa,rE];rw[jc (by rw[<-hc.len];exact hi)] at hr
  exact ⟨trivial,hr⟩
 |c::x,i,m+1,last,acc,hd,hm,ha,hx,hr=>by
  let ⟨g1,g2,g3,hq⟩:=dN hd
  let ⟨v,j,y,hv,e,hy,hk,hvr,hvk⟩:=hc.nat g1;subst e;have cT:=hx _ (am:(j:Int)∈(j:Int)::x)
  have gI:=(bk.1 hy).1;have xU:=kK T;have hj2:(j:Int)<(O (db T):Int):=by omega
  have hkj:=oh hy;have li:=hc.len;simp at hm;have hsn:lU (acc++ [y.aB]) (C' (i+1) w.cB)=I:=by
   rw[qO,hv];exact abT hr hvk hvr
  let ⟨r1,r2⟩:=aBq n0 hc hl h8 x (i+1) m ↑j (acc++ [y.aB]) g2 W ap (λd hd'=>by
   have ho:=hc.ord;rw[<-vC i w.L,hd] at ho;exact (nk.1 (AZ.1 ho).2.1).1 d hd') hsn
  have e0:acc++(((j:Int)::x).map λc=>((db T)[Eb c]?).getD 0)=acc++ [y.aB]++x.map λc=>((db T)[Eb c]?).getD 0:=by
   simp[hkj]
  rw[e0];refine ⟨?_,r2⟩;rw[<-r1];have CP:(!A' (last<(j:Int)))=U:=by simp[cT]
  have DJ:(!A' ((j:Int)<(O (db T):Int)))=U:=by simp[hj2]
  simp only[Gv,XN,hq,aO,az,bh,g1,ai,CP,DJ,ay,aw,gx (show j<O (db T) by omega),cN,hkj]
  rw[dm _ _ ap,ai,bS g3 (W:O w.L<4294967296)]
 |_,_,0,_,_,_,hm,_,_,_=>W
def aRQ (hN:nF N) (h:ov N t T w) (hn:5000<n):Sw n N w=V I:=by
 have hT:idx N.ag (t:Int)=V T:=by rw[bh];exact h.get
 let ⟨ht,xU,N8,dX,rk⟩:=h.small hN;have k1:=ht.lV;have k2:=ht.iA;have k8:=ht.cols;unfold Sw amJ;rcases h.op with ⟨h1,e2,hr,VC⟩|⟨h2,hk⟩|⟨h3,e2,e3⟩
 .have e:(w.aQ==1)=I:=by rw[h1];rfl
  rw[e,ax rfl,e2,h.bG,auS (.inl rfl) hT ht _ W,ai,hr,aRI hT ht _ (fC hr),ai,yc n _ _ (by unfold eV;simp;omega) (by unfold eV;simp;omega),VC,sn]
  rfl
 .have e1:(w.aQ==1)=U:=by rw[h2];rfl
  have e2:(w.aQ==2)=I:=by rw[h2];rfl
  have ew:ba (T.av-1)=T.av-1:=cR W W
  rw[e1,au nY,e2,ax rfl,h.bG,akB hT W (W:1000<n),ai,hT,ai,ew]
  let ⟨r1,r2⟩:=aBq n hk dX k8 w.L 0 n (T.av-1) [] rfl W rfl (λc hc=>by
   let ⟨i,hi⟩:=lP hc;let ⟨_,_,_,_,_,_,q,_⟩:=hk.nat hi;omega) rfl
  have r1:Gv (KB n) n (T.av-1) w.L (O w.L:Int) 0 w (db T) []=_:=r1;rw[r1];unfold KB;rw[aBA n r2 W W];rfl
 .have e1:(w.aQ==1)=U:=by rw[h3];rfl
  have e4:(w.aQ==2)=U:=by rw[h3];rfl
  rw[e1,au nY,e4,au nY,e2,e3];rfl
def AI:Prop:=qr.aq<ak.aq\/(qr.aq=ak.aq/\lt qr.av ak.av)
structure lI (N:af) (ws:dk):Prop where
 ok:∀w∈ws,∃t T,ov N t T w
 ord:ws.Pairwise AI
def aRP {a b:aW} (ha:O a.av<=8) (h:AI a b) (hn:100<n):∃z:Int,Sz n a b=V z/\z<0:=by
 unfold Sz amI;rcases h with h|⟨h1,h2⟩
 .have e:(a.aq !=b.aq)=I:=by simp;omega
  rw[e,ax rfl,qW h,ax rfl];exact ⟨-1,rfl,W⟩
 .have e:(a.aq !=b.aq)=U:=by simp[h1]
  rw[e,au nY,yc n _ _ W W]
  exact ⟨_,rfl,xf.2 h2⟩
def aIT (hN:nF N) (n0:Nat) {ws:dk} (h:lI N ws) (hl:O ws<=64):∀(x:dk) (i m:Nat),B' i ws=x->O x+8000<m->QS (Zq n0) m ws ws (O ws:Int) (i:Int) N=V 0
 | [],i,m+1,hd,hm=>by
  let ⟨hi,hq⟩:=eu hd
  simp only[QS,Zp,hq,aR,ay,aw,Zq]
 |w::x,i,m+1,hd,hm=>by
  let ⟨g1,g2,g3,hq⟩:=dN hd
  let ⟨t,T,hw⟩:=h.ok w (bF g1);have hT:idx N.ag (t:Int)=V T:=by rw[bh];exact hw.get
  let ⟨ht,xU,N8,dX,rk⟩:=hw.small hN;have vW:=(bk.1 hw.get).1;have gP:w.aQ=1\/w.aQ=2\/w.aQ=3:=by rcases hw.op with h|h|h<;>simp[h.1]
  have n1:¬w.aQ<1:=by omega
  have n2:¬3<w.aQ:=by omega
  have n3:¬w.aq<0:=by rw[hw.bG];omega
  have n4:w.aq<(O N.ag:Int):=by rw[hw.bG];omega
  simp at hm;have h119:wg m N w.aq=V (zV T):=by rw[hw.bG];exact aRR hT ht W
  have ih:=aIT hN n0 h hl x (i+1) m g2 W
  simp only[QS,Zp,hq,aO,az,bh,g1,ai,n1,n2,n3,n4,aR,ay,aw,cO,h119,aBA m hw.key W W,aRQ (n:=m) hN hw W,bS g3 (W:O ws<4294967296)]
  by_cases hi:i=0
  .subst hi;exact ih
  .have hi0:(0:Int)<(i:Int):=by omega
   have w1:ba ((i:Int)-1)=((i-1:Nat):Int):=by rw[cR W W];omega
   have hp:ws[i-1]? =V ws[i-1]:=bJ W
   let ⟨t',T',vV⟩:=h.ok _ (bF hp);let ⟨_,_,hk8',_⟩:=vV.small hN;have cT:AI ws[i-1] w:=by
    have:=tz.1 h.ord (i-1) i W g3 W
    rwa[(bk.1 g1).2] at this
   let ⟨z,z1,z2⟩:=aRP (n:=m) hk8' cT W
   simp only[hi0,aO,az,w1,bh,hp,ai,z1,z2,cO,ay,aw];exact ih
 |_,_,0,_,hm=>W
def aIZ (hN:nF N) (FO:Kq n N=V 0) {ws:dk} (h:lI N ws) (hl:O ws<=64) (hn:10000<n):F73 n N ws=V 0:=by
 unfold F73 avT;rw[FO,ai];have e:¬(64:Int)<(O ws:Int):=by omega
 simp only[iw,ay,aw,e,aR];exact aIT hN n h hl ws 0 n rfl W
end
end
section
def aAq {m:aF} {a b:Int} (h:a<b) (ha:0<=fp m a) (hb:0<=fp m b):fp m a<fp m b:=by
 have dd:fp m a≠fp m b:=λe=>by have:=ajk e ha;omega
 unfold fp at*;by_cases h7:m.aQ=7
 .simp only[ax h7] at*;repeat' split at*
  all_goals omega
 .simp only[au h7] at*;exact h
def abH:∀{ms:cj} {a b:Int},a<b->0<=eA ms a->0<=eA ms b->eA ms a<eA ms b
 | [],_,_,h,_,_=>h
 |m::ms,a,b,h,ha,hb=>by
  simp only[eA] at ha hb ⊢;by_cases e1:fp m a<0
  .rw[ax e1] at ha;omega
  by_cases e2:fp m b<0
  .rw[ax e2] at hb;omega
  rw[au e1] at ha ⊢;rw[au e2] at hb ⊢;exact abH (aAq h W W) ha hb
section
variable {u:af} {ms:cj} {ts:gg} {n:Nat}
def UpR:Prop:=∃(t:Nat) (T:ah) (w:Nat) (T':ah),ov C t T ak/\eA ad (t:Int)=(w:Int)/\((C::ab).getLast am).ag[w]? =V T'/\ov ((C::ab).getLast am) w T' aJ/\UpW ad t w T T' ak aJ
structure Tj (u:af) (ts:gg) (ms:cj) (ws us:dk):Prop where
 len:us.length=ws.length
 each:∀(i:Nat) w uw,ws[i]? =V w->us[i]? =V uw->UpR u ts ms w uw
def Tj.ok {ws us:dk} (h:Tj u ts ms ws us) (hw:lI u ws):lI ((u::ts).getLast am) us:=by
 have hl:=h.len;refine ⟨λuw hu=> ?_,tz.2 λi j hi hj Ha=> ?_⟩
 .let ⟨i,hi⟩:=lP hu;have mr:=(bk.1 hi).1;let ⟨t,T,w,T',_,_,_,q,_⟩:=h.each i _ uw (bJ W) hi
  exact ⟨w,T',q⟩
 .let ⟨t,T,w,T',a1,a2,_,a4,a5⟩:=h.each i _ _ (bJ W) (bJ hi)
  let ⟨t',ul,w',U',b1,b2,_,b4,b5⟩:=h.each j _ _ (bJ W) (bJ hj)
  have cT:=tz.1 hw.ord i j W W Ha
  rcases cT with cT|⟨he,hk⟩
  .rw[a1.bG,b1.bG] at cT;have:=abH (ms:=ms) cT W W
   exact .inl (by rw[a4.bG,b4.bG];omega)
  .rw[a1.bG,b1.bG] at he;have:t=t':=by omega
   subst this;exact .inr ⟨by rw[a4.bG,b4.bG];omega,by rw[a5.key,b5.key];exact hk⟩
def aIX (fB:∀m:Nat,m<=n->m<4294967296) (hl:O ms<=8) (fH:∀m∈ms,MB m/\(m.aQ=8->fq m.cg)) (hs:fo u=0) (hN:fo ((u::ts).getLast am)=0) (hc:di u ms ts) {ws:dk} (hw:lI u ws) (G7:O ws<=64) (n0:Nat):∀(x:dk) (i m:Nat) (acc:dk),B' i ws=x->O x+30000<m->m<=n->i<=O ws->O acc=i->(∀(j:Nat) w uw,ws[j]? =V w->acc[j]? =V uw->UpR u ts ms w uw)->
  (∃z j,Mf (Wg n0) m (O ws:Int) (i:Int) ws ⟨u::ts,ms⟩ acc=V (z,j,281))\/∃us,Mf (Wg n0) m (O ws:Int) (i:Int) ws ⟨u::ts,ms⟩ acc=V (us,0,0)/\Tj u ts ms ws us
 | [],i,m+1,acc,hd,hm,hmn,mr,ha,he=>by
  let ⟨hi,hq⟩:=eu hd
  refine .inr ⟨acc,?_,W,he⟩
  simp only[Mf,aeZ,hq,aR,ay,aw,Wg]
 |w::x,i,m+1,acc,hd,hm,hmn,mr,ha,he=>by
  let ⟨g1,g2,g3,hq⟩:=dN hd
  let ⟨t,T,hW⟩:=hw.ok w (bF g1);simp at hm;simp only[Mf,aeZ,hq,aO,az,gx g3,ai,cN,g1];rcases aXp (n:=m) W (fB m W) hl fH hs hN hc hW with ⟨z,hz⟩|⟨uw,w',T',e1,e2,e3,e4,e5⟩
  .rw[hz];exact .inl ⟨_,_,rfl⟩
  .rw[e1,ai];simp only[cO,ay,aw];rw[dm _ _ ap,ai,bS g3 (W:O ws<4294967296)]
   refine aIX fB hl fH hs hN hc hw G7 n0 x (i+1) m _ g2 W W W ap λj y uy h1 h2=> ?_
   by_cases hj:j<O acc
   .rw[nc hj] at h2;exact he j y uy h1 h2
   .have gI:=(bk.1 h2).1;simp at gI;have:j=i:=by omega
    subst this;rw[nW W,ha,qT] at h2
    simp at h2;rw[g1] at h1;cases h1;cases h2;exact ⟨t,T,w',T',hW,e2,e3,e4,e5⟩
 |_,_,0,_,_,hm,_,_,_,_=>W
end
section
variable {s v:af} {ms:cj} {ts:gg} {n k:Nat} {ws:dk}
def aXu (hn:3000000<n) (fB:n<4294967296) (hs:fo s=0) (hm:∀m∈ms,MB m/\(m.aQ=8->fq m.cg)) (hl:O ms<=8) (hv:s.aC+(O ms:Int)<=1000) (hc:di s ms ts) (hk:k<=O ts) (G8:(s::ts)[k]? =V v) (hw:lI v ws) (G7:O ws<=64):
  (∃z j,F30 n s ms (s.aC+(k:Int)) ws=V (z,j,281))\/∃us,F30 n s ms (s.aC+(k:Int)) ws=V (us,0,0)/\Tj v (B' k ts) (B' k ms) ws us:=by
 let ⟨u',e1,e2,e3,e4,e5⟩:=di.drop hs hc hk;rw[G8] at e1;have e1:=kh e1;subst e1;have hN:fo ((v::B' k ts).getLast am)=0:=by
  rcases cU.1 (IL (l:=v::B' k ts) am) with h|h
  .rw[h];exact e4
  .exact e3.kS _ h
 unfold F30 awr;rw[aBx W fB hs hm hl hv hc hk,ai,e2]
 simp only[iw,ay,aw];rw[VM,ai,aIZ (mW e4) (avm e4 W fB) hw G7 W,ai]
 simp only[iw,ay,aw];exact aIX (n:=n) (λm h=>W) (by rw[iz];omega) (λm h=>hm m (nh h)) e4 hN e3 hw G7 n ws 0 n [] rfl W (cM _) W rfl λj w uw _ h=>by simp at h
end
end
section
def tY:aU:=(ao.find? λr=>eJ (eV vQ r) an==0).getD []
def aaK {T:ah} {k:aU} {ii:bz} (h0:∀y∈ii,y≠ []):jP T k ii (tY T k ii):=by
 unfold tY;cases h:ii.find? (λr=>eJ (eV T r) k==0) with
 |none=>
  refine .inr ⟨rfl,λy hy e=> ?_⟩
  have:=List.find?_eq_none.1 h y hy;rw[BY.2 e] at this;exact this rfl
 |some r=>
  have h1:=anJ h;have h2:=List.find?_some h;exact .inl ⟨h1,h0 r h1,tO (by simpa using h2)⟩
def rowOf:aU:=match C.ag[Eb qr.aq]?,F[Eb qr.aq]? with
 |some T,V ii=>tY T qr.av ii
 |_,_=> []
def oJ:G aU:=if qr.aQ=1 then (if E= [] then V qr.cB else A) else if E= [] then A else if qr.aQ=2 then V (qY E qr.L qr.cB) else V []
def pG:G cG:=match oJ (rowOf C F qr) qr with
 |some x=>if eJ (rowOf C F qr) x=0 then A else V ⟨qr.aq,rowOf C F qr,x⟩
 |none=>A
section
variable {N:af} {st:gQ} {t n:Nat} {T:ah} {ii:bz} {w:aW}
def avy (hw:w.aq=(t:Int)) (hT:N.ag[t]? =V T) (hr:st[t]? =V ii):rowOf N st w=tY T w.av ii:=by
 unfold rowOf;rw[show Eb w.aq=t by omega,hT,hr]
def aBn (n0:Nat) (hT:N.ag[t]? =V T) (ht:fP T) {key:aU} (hr:∀r∈ii,O r=O T.L) (wF:O ii<=1000):∀(x:bz) (i m:Nat),B' i ii=x->O x+1100<m->
  JY (WW n0) m (t:Int) key ii (O ii:Int) (i:Int) N=V (tY T key x,!(tY T key x).isEmpty)
 | [],i,m+1,hd,hm=>by
  let ⟨hi,hq⟩:=eu hd
  simp only[JY,WX,hq,aR,ay,aw,WW];rfl
 |r::x,i,m+1,hd,hm=>by
  let ⟨g1,g2,g3,hq⟩:=dN hd
  have vp:idx N.ag (t:Int)=V T:=by rw[bh];exact hT
  have mM:=hr r (bF g1);have dX:=ht.cols;have k1:=ht.lV;have k2:=ht.iA;simp at hm;simp only[JY,WX,hq,aO,az,bh,g1,ai,C6 (n:=m) vp ht r mM,yc m (C' (Eb T.av) r) key ap ap,bS g3 (W:O ii<4294967296)]
  by_cases h:(eJ (eV T r) key==0)=I
  .have e:tY T key (r::x)=r:=by unfold tY;rw[avk,h];rfl
   have dd:r.isEmpty=U:=by cases r with
    |nil=>simp at mM;omega
    |cons=>rfl
   rw[e,dd];exact ax h
  .have h':(eJ (eV T r) key==0)=U:=by simpa using h
   have e:tY T key (r::x)=tY T key x:=by unfold tY;rw[avk,h']
   rw[e];exact (au h).trans (aBn n0 hT ht hr wF x (i+1) m g2 W)
 |_,_,0,_,hm=>W
def BN (h:O E<=1000):Tx rt E=V E:=by
 unfold Tx amF;rw[dm _ _ ap,ai,jb]
def aRO (hT:N.ag[t]? =V T) (ht:fP T) {key:aU} (fK:st[t]? =V ii) (hr:∀r∈ii,O r=O T.L) (wF:O ii<=1000) (hn:3000<n):TE n N ⟨st⟩ (t:Int) key=V (tY T key ii,!(tY T key ii).isEmpty):=by
 have vW:=(bk.1 hT).1;have htt:=(bk.1 fK).1;have q1:¬((t:Int)<0):=by omega
 have q2:(t:Int)<(O N.ag:Int):=by omega
 have q3:(t:Int)<(O st:Int):=by omega
 have dX:=ht.cols;have h166:Y1 n N ⟨st⟩ (t:Int) key=V (tY T key ii,!(tY T key ii).isEmpty):=by
  unfold Y1 alX;simp only[q1,q2,q3,aO,aR,cO,ay,aw,bh,fK,ai];exact aBn n hT ht hr wF ii 0 n rfl W
 have lm:O (tY T key ii)<=1000:=by
  unfold tY;cases h:ii.find? (λr=>eJ (eV T r) key==0) with
  |none=>simp
  |some r=>have:=hr r (anJ h);show O r<=_;omega
 unfold TE amG;rw[h166,ai,akA n _ lm,ai]
def aBp (n0:Nat) (hl:O w.L=O w.cB) (z6:O w.L<=1000):∀(x:aN) (y:aU) (i m:Nat) (b:aU),B' i w.L=x->B' i w.cB=y->O x<m->(∀c∈x,0<=c/\c<(O b:Int))->Kf (XI n0) m w.L (O w.L:Int) (i:Int) w b=V (qY b x y)
 | [],y,i,m+1,b,hd,DJ,hm,hb=>by
  let ⟨hi,hq⟩:=eu hd
  simp only[Kf,XJ,hq,aR,ay,aw,XI];simp[qY]
 |c::x,[],i,m+1,b,hd,DJ,hm,hb=>by
  let ⟨g1,g2,g3⟩:=oY hd;have:O w.cB<=i:=by simpa using DJ
  omega
 |c::x,v::y,i,m+1,b,hd,DJ,hm,hb=>by
  let ⟨g1,g2,g3,hq⟩:=dN hd;let ⟨k1,k2,k3⟩:=oY DJ
  let ⟨c0,c1⟩:=hb c am
  obtain ⟨j,rfl⟩:∃j:Nat,c=(j:Int):=⟨Eb c,W⟩
  have hj:j<O b:=by omega
  simp at hm;have ih:=aBp n0 hl z6 x y (i+1) m (b.set j v) g2 k2 W λd hd'=>by
   rw[iy];exact hb d (fj _ hd')
  simp only[Kf,XJ,hq,aO,az,bh,g1,k1,ai,gx hj,cN,bJ hj,dD _ hj,bS g3 (W:O w.L<4294967296),ih]
  rfl
 |_,_,_,0,_,_,_,hm,_=>W
def aRN (hk:yk T w.L w.cB) (z6:O w.L<=100) {r:aU} (hr:O r=O T.L) (hr2:O r<=8) (hn:1000<n):Td n r w=V (qY r w.L w.cB):=by
 unfold Td amE;rw[BN n r W,ai]
 exact aBp n hk.len W w.L w.cB 0 n r rfl rfl W λc hc=>by
  let ⟨i,hi⟩:=lP hc;let ⟨_,j,x,_,e,hx,_⟩:=hk.nat hi;have:=(bk.1 hx).1;omega
def aXo (hN:nF N) (dV:mu 1 N st) (h:ov N t T w) (hn:5000<n):F75 n N ⟨st⟩ w=match oJ (rowOf N st w) w with
  |some x=>V (⟨w.aq,rowOf N st w,x⟩,.nil)
  |none=>V (⟨0,[],[]⟩,.Im ⟨⟨if w.aQ=1 then 4 else 5,0,w.aq,w.av⟩⟩):=by
 let ⟨ht,xU,N8,dX,rk⟩:=h.small hN;have vW:=(bk.1 h.get).1;have AP:=dV.len;have fK:st[t]? =V (st[t]' W):=bJ _
 generalize st[t]' W=ii at fK
 let ⟨r1,r2⟩:=dV.row t T ii h.get fK;have hr:=λr iN=>fC (r2 r iN)
 have h8:=ht.cols;rw[avy h.bG h.get fK];have hgl:tY T w.av ii= []\/O (tY T w.av ii)=O T.L:=by
  rcases aaK (T:=T) (k:=w.av) (dV.b.ne hN h.get fK) with q|q
  .exact .inr (hr _ q.1)
  .exact .inl q.1
 have hg:=aRO (n:=n) (key:=w.av) h.get ht fK hr W W
 generalize tY T w.av ii=r at hg hgl;unfold F75 avQ;rw[h.bG,hg,ai];rcases h.op with ⟨h1,e2,hrm,VC⟩|⟨h2,hk⟩|⟨h3,e2,e3⟩
 .have e:(w.aQ==1)=I:=by rw[h1];rfl
  simp only[e,az];unfold oJ;rw[ax h1];by_cases hz:r= []
  .subst hz;simp only[Eo,cO,ay,aw,az,BN n _ (show O w.cB<=1000 by omega),ai]
  .have dd:r.isEmpty=U:=by simpa using hz
   simp only[dd,gb,az,au hz,RK,Pj,BN n w.av W,ai,yh,ax h1]
 .have e:(w.aQ==1)=U:=by rw[h2];rfl
  have e':(w.aQ==2)=I:=by rw[h2];rfl
  simp only[e,ay,aw];unfold oJ;rw[au (show ¬w.aQ=1 by omega)]
  by_cases hz:r= []
  .subst hz;simp only[Eo,cO,gb,az,RK,Pj,BN n w.av W,ai,yh,au (show ¬w.aQ=1 by omega)]
  .have dd:r.isEmpty=U:=by simpa using hz
   have mM:=hgl.resolve_left hz;simp only[dd,gb,cO,ay,aw,au hz,BN n r W,ai,e',az,aRN (n:=n) hk rk mM W W,ax h2]
 .have e:(w.aQ==1)=U:=by rw[h3];rfl
  have e':(w.aQ==2)=U:=by rw[h3];rfl
  simp only[e,ay,aw];unfold oJ;rw[au (show ¬w.aQ=1 by omega)]
  by_cases hz:r= []
  .subst hz;simp only[Eo,cO,gb,az,RK,Pj,BN n w.av W,ai,yh,au (show ¬w.aQ=1 by omega)]
  .have dd:r.isEmpty=U:=by simpa using hz
   have mM:=hgl.resolve_left hz;simp only[dd,gb,cO,ay,aw,au hz,BN n r W,ai,e',au (show ¬w.aQ=2 by omega)]
def aIW (hN:nF N) (dV:mu 1 N st) {ws:dk} (oU:∀w∈ws,∃t T,ov N t T w) (hl:O ws<=64) (n0:Nat):∀(x:dk) (i m:Nat) (z:dO) (acc:jX),B' i ws=x->O x+6000<m->O acc+O x<=1000->
  (∃rf,uT (AB n0) m ws (O ws:Int) (i:Int) N ⟨st⟩ z acc=V ([],rf,0)/\rf.jg≠0/\∃w∈x,oJ (rowOf N st w) w=A)\/
  (uT (AB n0) m ws (O ws:Int) (i:Int) N ⟨st⟩ z acc=V (acc++x.filterMap (pG N st),⟨0,0,0,[]⟩,0)/\∀w∈x,oJ (rowOf N st w) w≠A)
 | [],i,m+1,z,acc,hd,hm,ha=>by
  let ⟨hi,hq⟩:=eu hd
  refine .inr ⟨?_,am⟩
  simp only[uT,Rz,hq,aR,ay,aw,AB,List.filterMap_nil,rE]
 |w::x,i,m+1,z,acc,hd,hm,ha=>by
  let ⟨g1,g2,g3,hq⟩:=dN hd
  let ⟨t,T,hW⟩:=oU w (bF g1);simp at hm ha;have h75:=aXo (n:=m) hN dV hW W
  cases xS:oJ (rowOf N st w) w with
  |none=>
   rw[xS] at h75;left;refine ⟨⟨if w.aQ=1 then 4 else 5,0,w.aq,w.av⟩,?_,by show (if w.aQ=1 then (4:Int) else 5)≠0;split<;>omega,w,am,xS⟩
   simp only[uT,Rz,hq,aO,az,bh,g1,ai,h75,yh,Mz,F76,avP]
  |some y=>
   rw[xS] at h75;have go:∀(z':dO) (Nf:jX),O Nf+O x<=1000->Nf=acc++(pG N st w).toList->uT (AB n0) (m+1) ws (O ws:Int) ↑i N ⟨st⟩ z acc=uT (AB n0) m ws (O ws:Int) ((i+1:Nat):Int) N ⟨st⟩ z' Nf->(∃rf,uT (AB n0) (m+1) ws (O ws:Int) ↑i N ⟨st⟩ z acc=V ([],rf,0)/\rf.jg≠0/\∃w'∈w::x,oJ (rowOf N st w') w'=A)\/(uT (AB n0) (m+1) ws (O ws:Int) ↑i N ⟨st⟩ z acc=V (acc++(w::x).filterMap (pG N st),⟨0,0,0,[]⟩,0)/\∀w'∈w::x,oJ (rowOf N st w') w'≠A):=λz' Nf AU he Lr=>by
    rw[Lr];rcases aIW hN dV oU hl n0 x (i+1) m z' Nf g2 W AU with ⟨rf,q1,q2,w',q3,q4⟩|⟨q1,q2⟩
    .exact .inl ⟨rf,q1,q2,w',fj _ q3,q4⟩
    .refine .inr ⟨?_,λw' vV=> ?_⟩
     .rw[q1,he];have:(w::x).filterMap (pG N st)=(pG N st w).toList++x.filterMap (pG N st):=by
       rw[List.filterMap_cons];cases pG N st w<;>rfl
      rw[this,l6]
     .rcases cU.1 vV with rfl|vV
      .rw[xS];simp
      .exact q2 w' vV
   have pb:pG N st w=if eJ (rowOf N st w) y=0 then A else V ⟨w.aq,rowOf N st w,y⟩:=by unfold pG;rw[xS]
   have mM:O (rowOf N st w)<=1000:=by
    let ⟨ht,_⟩:=hW.small hN;have vW:=(bk.1 hW.get).1;have AP:=dV.len;have fK:st[t]? =V (st[t]' W):=bJ _
    rw[avy hW.bG hW.get fK];rcases aaK (T:=T) (k:=w.av) (dV.b.ne hN hW.get fK) with q|q
    .have:=fC ((dV.row t T _ hW.get fK).2 _ q.1);have:=ht.cols;omega
    .rw[q.1];simp
   have dd:¬(rowOf N st w= []/\y= []):=λ⟨e1,e2⟩=>by
    unfold oJ at xS;rw[e1] at xS;rcases hW.op with ⟨h1,_,hr,_⟩|⟨h2,_⟩|⟨h3,_⟩
    .rw[ax h1,ax rfl] at xS;have hc:=fC hr;have hy:=kh xS;let ⟨ht,_⟩:=hW.small hN;have k1:=ht.lV;have k2:=ht.iA;rw[hy,e2] at hc;simp at hc;omega
    .rw[au (show ¬w.aQ=1 by omega),ax rfl] at xS;cases xS
    .rw[au (show ¬w.aQ=1 by omega),ax rfl] at xS;cases xS
   have aEK:∀z',RA (HN (uT (AB n0) m) m) m ws (O ws:Int) ↑i N ⟨st⟩ z' acc ⟨w.aq,rowOf N st w,y⟩=uT (AB n0) m ws (O ws:Int) ((i+1:Nat):Int) N ⟨st⟩ ⟨z'.jg,z'.tp,z'.aq,[]⟩ (acc++ [⟨w.aq,rowOf N st w,y⟩]):=λz'=>by
    unfold RA HN;rw[dm _ _ ap,ai,bS g3 (W:O ws<4294967296)]
   by_cases he:rowOf N st w=y
   .refine go ⟨z.jg,z.tp,z.aq,[]⟩ acc W (by rw[pb,ax (BY.2 he)];simp) ?_
    have e1:A' (0<(O (rowOf N st w):Int))=I:=by
     rw[Jm];cases h:rowOf N st w with
     |nil=>exact absurd ⟨h,he.symm.trans h⟩ dd
     |cons=>rfl
    have e2:A' (0<(O y:Int))=I:=by rw[<-he];exact e1
    have e3:Ko m (rowOf N st w) y=V 0:=by rw[yc m _ _ W W,he,sn]
    simp only[uT,Rz,hq,aO,az,bh,g1,ai,h75,yh,Mz,e1,e2,e3,gV];unfold HN;rw[bS g3 (W:O ws<4294967296)]
   .refine go ⟨z.jg,z.tp,z.aq,[]⟩ (acc++ [⟨w.aq,rowOf N st w,y⟩]) ap (by rw[pb,au λh=>he (tO h)];simp) ?_
    have e3:Ko m (rowOf N st w) y=V (eJ (rowOf N st w) y):=yc m _ _ W W
    have e4:(eJ (rowOf N st w) y==0)=U:=by
     have:¬eJ (rowOf N st w) y=0:=λh=>he (tO h)
     simpa using this
    simp only[uT,Rz,hq,aO,az,bh,g1,ai,h75,yh,Mz,e3,e4,ay,aw];by_cases q1:0<(O (rowOf N st w):Int)
    .simp only[q1,aO,az];by_cases q2:0<(O y:Int)
     .simp only[q2,aO,az];exact aEK _
     .simp only[q2,aR,ay,aw];exact aEK _
    .simp only[q1,aR,ay,aw];exact aEK _
 |_,_,0,_,_,_,hm,_=>W
def auV (hN:nF N) (FO:Kq n N=V 0) (dV:mu 1 N st) {ws:dk} (hw:lI N ws) (hl:O ws<=64) (hn:2000100<=n):
  (∃rf,F31 n N ⟨st⟩ ws=V ([],rf,0)/\rf.jg≠0/\∃w∈ws,oJ (rowOf N st w) w=A)\/(F31 n N ⟨st⟩ ws=V (ws.filterMap (pG N st),⟨0,0,0,[]⟩,0)/\∀w∈ws,oJ (rowOf N st w) w≠A):=by
 have hl8:=hN.len;have li:=dV.len;have Ol:=dV.tot;have h26:=auW (.inl rfl) n N 0 FO (λ_=>hN) ⟨st⟩ (by show O st+total st<=2000000;omega) hn
 rw[StM.kS dV.m W] at h26
 unfold F31 awq;rw[aIZ hN FO hw hl W,ai]
 simp only[iw,ay,aw];rw[h26,ai];simp only[iw,ay,aw];rcases aIW hN dV hw.ok hl n ws 0 n ⟨0,0,0,[]⟩ [] rfl W ap with h|⟨h1,h2⟩
 .exact .inl h
 .rw[jb] at h1;exact .inr ⟨h1,h2⟩
end
end
section
def aSq {md key:Int} {a b:aU} (j:Nat) (ha:fL md key i ks a=I) (hb:fL md key i ks b=I):fL md key i ks (C' j a++B' j b)=I:=by
 have la:=Bm ha;have lb:=Bm hb;refine aab ap λq k v hk hv=> ?_
 by_cases h:q<O (C' j a)
 .rw[nc h,eO] at hv;let ⟨w,h1,h2⟩:=KZ ha hk;split at hv
  .rw[h1] at hv;cases hv;exact h2
  .cases hv
 .rw[nW W,fF] at hv
  let ⟨w,h1,h2⟩:=KZ hb hk;have hq:=(bk.1 hk).1;simp at h;have e:j+(q-O (C' j a))=q:=by simp;omega
  rw[e,h1] at hv;cases hv;exact h2
def aKH {ys:aU} (h:O ys<=O xs) (h0:xs≠ []):Hm xs ys=V (ys++B' (O ys) xs):=by
 unfold Hm;rw[au h0,fG h,nj]
def awH {a b c:aW} (h1:AI a b) (h2:AI b c):AI a c:=by
 rcases h1 with h1|⟨h1,k1⟩<;>rcases h2 with h2|⟨h2,k2⟩
 .exact .inl W
 .exact .inl W
 .exact .inl W
 .exact .inr ⟨W,lt_trans k1 k2⟩
def aXq {a b:aW} (ha:O a.av<=8) (hn:100<rt):∃z:Int,F72 rt a.aq a.av b.aq b.av=V z/\(z=0\/(z= -1/\AI a b)\/(z=1/\AI b a)):=by
 unfold F72 avU;by_cases e:a.aq=b.aq
 .have e':(a.aq !=b.aq)=U:=by simp[e]
  rw[e',au nY,VP rt _ _ W W,ai]
  refine ⟨_,rfl,?_⟩;rcases DY a.av b.av with h|h|h
  .exact .inr (.inl ⟨h,.inr ⟨e,h⟩⟩)
  .exact .inl h
  .exact .inr (.inr ⟨h,.inr ⟨e.symm,by unfold lt;rw[Fi,h]⟩⟩)
 .have e':(a.aq !=b.aq)=I:=by simpa using e
  rw[e',ax rfl];by_cases hl:a.aq<b.aq
  .rw[qW hl,ax rfl];exact ⟨_,rfl,.inr (.inl ⟨rfl,.inl hl⟩)⟩
  .rw[tv hl,au nY];exact ⟨_,rfl,.inr (.inr ⟨rfl,.inl W⟩)⟩
section
variable {N:af} {st:gQ} {t:Nat} {T:ah} {ii:bz}
def aqv (n0:Nat) (hT:N.ag[t]? =V T) (ht:fP T) (key:aU) (hr:∀r∈ii,O r=O T.L) (wF:O ii<=1000):∀(x:bz) (i m:Nat),B' i ii=x->O x+1100<m->Ok (Ki (XQ n0) m (t:Int) key ii (O ii:Int) (i:Int) N) λz=>z= -1\/∃j:Nat,z=(j:Int)/\j<O ii
 | [],i,m+1,hd,hm=>by
  let ⟨hi,hq⟩:=eu hd
  simp only[Ki,XR,XQ,hq,aR,ay,aw];exact Ok.pure (.inl rfl)
 |r::x,i,m+1,hd,hm=>by
  let ⟨g1,g2,g3,hq⟩:=dN hd
  have vp:idx N.ag (t:Int)=V T:=by rw[bh];exact hT
  have mM:=hr r (bF g1);have dX:=ht.cols;simp at hm;simp only[Ki,XR,hq,aO,az,bh,g1,ai,VN (n:=m) vp ht r mM,VP m (C' (Eb T.av) r) key ap ap,bS g3 (W:O ii<4294967296)]
  exact Ok.ite (λ_=>Ok.pure (.inr ⟨i,rfl,g3⟩)) λ_=>aqv n0 hT ht key hr wF x (i+1) m g2 W
 |_,_,0,_,hm=>W
def aRv (hT:N.ag[t]? =V T) (ht:fP T) (key:aU) (fK:st[t]? =V ii) (hr:∀r∈ii,O r=O T.L) (wF:O ii<=1000) (hn:3000<rt):Ok (F71 rt N ⟨st⟩ (t:Int) key) λ_=>True:=by
 have vW:=(bk.1 hT).1;have htt:=(bk.1 fK).1;have q1:¬((t:Int)<0):=by omega
 have q2:(t:Int)<(O N.ag:Int):=by omega
 have q3:(t:Int)<(O st:Int):=by omega
 have dX:=ht.cols;have h117:Ok (Sv rt N ⟨st⟩ (t:Int) key) λz=>z= -1\/∃j:Nat,z=(j:Int)/\j<O ii:=by
  unfold Sv amM;simp only[q1,q2,q3,aO,aR,cO,ay,aw,bh,fK,ai];exact aqv rt hT ht key hr wF ii 0 rt rfl W
 unfold F71 avV;refine Ok.bind h117 λz hz=> ?_
 rcases hz with rfl|⟨j,rfl,hj⟩
 .exact Ok.ite (λ_=>Ok.pure trivial) λh=>by simp at h
 .refine Ok.ite (λh=>by simp at h;omega) λ_=> ?_
  have hg:ii[j]? =V ii[j]:=bJ hj;have hl:=hr _ (nf hj);simp only[bh,fK,ai,hg,Rl (n:=rt) ii[j] W]
  exact Ok.pure trivial
def KJ (k:Int->aG->af->aE->dk->G (dk×aG)) (d:Int) (ae:Nat) (Q:dk×aG->Prop):Prop:=∀c ws,cL c->lI C ws->O ws<=ae->Ok (k (ba (d-1)) c C ⟨F⟩ ws) Q
variable {k:Int->aG->af->aE->dk->G (dk×aG)} {d:Int} {ae:Nat} {Q:dk×aG->Prop}
variable (hN:nF N) (hk:KJ N st k d (ae+1) Q)
def aLA {ws:dk} (oU:lI N ws) (hl:O ws<=ae) (hL:ae<=100) {t:Nat} {T:ah} (hW:ov N t T ⟨lw.aQ,lw.aq,lw.av,mt,nA⟩) {c:aG} (hc:cL c) (rR:Nat) (tw:Bool) (hat:rR<=O ws) (h:tw=U->∀(j:Nat) (hj:j<O ws),(rR<=j->AI ⟨lw.aQ,lw.aq,lw.av,mt,nA⟩ ws[j])/\(j<rR->AI ws[j] ⟨lw.aQ,lw.aq,lw.av,mt,nA⟩)) (n:Nat) (t29:bC) (t30:Int):
  Ok (Wh k n d (rR:Int) tw t29 t30 c N ⟨st⟩ ws lw mt nA) Q:=by
 unfold Wh;refine Ok.ite (λhtw=> ?_) λ_=>hk c ws hc oU W
 have h:=h (by simpa using htw)
 generalize (⟨lw.aQ,lw.aq,lw.av,mt,nA⟩:aW)=ac at h hW ⊢;have c1:ou (O ws) (rR:Int)=V rR:=by unfold ou;rw[ax W];rfl
 have c2:yH (O ws) (rR:Int)=V rR:=by unfold yH;rw[ax W];rfl
 have e:C' (O ws-rR) (B' (0+rR) ws)=B' rR ws:=by rw[cN,jc (by rw[iz];omega)]
 rw[c1,ai,c2,ai,e,dm _ _ ap,ai]
 have e2:BK ws rR ([ac]++B' rR ws)=V (C' rR ws++([ac]++B' rR ws)):=by
  unfold BK;rw[ax ⟨hat,W,ap⟩]
 rw[e2,ai];refine hk c _ hc ⟨λw hw=> ?_,?_⟩ ap
 .rcases fk.1 hw with hw|hw
  .exact oU.ok w (oB hw)
  .rcases fk.1 hw with hw|hw
   .rw[gy.1 hw];exact ⟨t,T,hW⟩
   .exact oU.ok w (nh hw)
 .have ho:=oU.ord;rw[<-vC rR ws] at ho;let ⟨o1,o2,o3⟩:=AZ.1 ho;have m1:∀a∈C' rR ws,AI a ac:=λa ha=>by
   obtain ⟨i,hi,rfl⟩:=IJ.1 ha;rw[dv] at hi;rw[List.getElem_take];exact (h i W).2 W
  have m2:∀b∈B' rR ws,AI ac b:=λb hb=>by
   obtain ⟨i,hi,rfl⟩:=IJ.1 hb;rw[iz] at hi;rw[List.getElem_drop];exact (h (rR+i) W).1 W
  refine AZ.2 ⟨o1,AZ.2 ⟨anI _ _,o2,λa ha b hb=> ?_⟩,λa ha b hb=> ?_⟩
  .rw[gy.1 ha];exact m2 b hb
  .rcases fk.1 hb with hb|hb
   .rw[gy.1 hb];exact m1 a ha
   .exact o3 a ha b hb
def Q3 (hN:nF N) (hk:KJ N st k d (ae+1) Q) {ws:dk} (oU:lI N ws) (hl:O ws<=ae) (hL:ae<=100) {mt:aN} {nA:aU} {t:Nat} {T:ah} {ac:aW} (hW:ov N t T ac) {c:aG} (hc:cL c) (n:Nat) (t29:bC) (t30:Int):∀(i m rR:Nat) (tw:Bool) (lw:aW),(⟨lw.aQ,lw.aq,lw.av,mt,nA⟩:aW)=ac->i<=O ws->i+200<m->i<=rR->rR<=O ws->(tw=U->∀(j:Nat) (hj:j<O ws),i<=j->(rR<=j->AI ac ws[j])/\(j<rR->AI ws[j] ac))->
  Ok (Q4 (Wh k n) m d (rR:Int) tw ((i:Int)-1) t29 t30 c N ⟨st⟩ ws lw mt nA) Q
 |0,m+1,rR,tw,lw,hb,hi,hm,h1,h2,h=>by
  have hq:(((0:Nat):Int)-1)<0:=by omega
  simp only[Q4,Zk,hq,aO,cO,ay,aw];subst hb;exact aLA hk oU hl hL (lw:=⟨lw.aQ,lw.aq,lw.av,mt,nA⟩) hW hc rR tw h2 (λhtw j hj=>h htw j hj W) n t29 t30
 |i+1,m+1,rR,tw,lw,hb,hi,hm,h1,h2,h=>by
  have e:(((i+1:Nat):Int)-1)=(i:Int):=by omega
  have hq:¬((i:Int)<0):=by omega
  have mr:i<O ws:=by omega
  have hg:ws[i]? =V ws[i]:=bJ mr;have w1:ba ((i:Int)-1)=(i:Int)-1:=cR W W
  rw[e];simp only[Q4,Zk,hq,aR,gb,az,gx mr,ai,cN,hg,w1];let ⟨_,_,N8,_⟩:=hW.small hN;have e1:lw.aq=ac.aq:=by rw[<-hb]
  have e2:lw.av=ac.av:=by rw[<-hb]
  let ⟨z,hz,mo⟩:=aXq m (a:=ac) (b:=ws[i]) N8 W
  rw[e1,e2,hz,ai];have lL:(⟨lw.aQ,ac.aq,ac.av,mt,nA⟩:aW)=ac:=by rw[<-e1,<-e2];exact hb
  have hord:∀j (hj:j<O ws),i<j->AI ws[i] ws[j]:=λj hj Ha=>tz.1 oU.ord i j mr hj Ha
  refine Ok.ite (λ_=> ?_) λz0=>Ok.ite (λz1=> ?_) λz1=> ?_
  .exact Q3 hN hk oU hl hL hW hc n t29 t30 i m rR I _ lL W W W h2 λh=>by cases h
  .have z1:z= -1:=by simpa using z1
   have cT:AI ac ws[i]:=by rcases mo with h|h|h<;>first|exact h.2|omega
   exact Q3 hN hk oU hl hL hW hc n t29 t30 i m i tw _ lL W W (cM _) W λhtw j hj Ha=>⟨λ_=>by
    by_cases e:j=i
    .subst e;exact cT
    .exact awH cT (hord j hj W),λh=>W⟩
  .have z0:¬z=0:=by simpa using z0
   have z1:¬z= -1:=by simpa using z1
   have cT:AI ws[i] ac:=by rcases mo with h|h|h<;>first|exact h.2|omega
   exact Q3 hN hk oU hl hL hW hc n t29 t30 i m rR tw _ lL W W W h2 λhtw j hj Ha=>by
    by_cases e:j=i
    .subst e;exact ⟨λh=>W,λ_=>cT⟩
    .exact h htw j hj W
 |_,0,_,_,_,_,_,hm,_,_,_=>W
def arc {ws:dk} (oU:lI N ws) (hl:O ws<=ae) (hL:ae<=100) {t:Nat} {T:ah} (hW:ov N t T ⟨lw.aQ,lw.aq,lw.av,mt,nA⟩) {c:aG} (hc:cL c) (n:Nat) (hn:1000<n) (t29:bC) (t30:Int):Ok (MC k n d t29 t30 c N ⟨st⟩ ws lw mt nA) Q:=by
 unfold MC;rw[cR W W]
 exact Q3 hN hk oU hl hL hW hc n t29 t30 (O ws) n (O ws) U _ rfl (cM _) W (cM _) (cM _) λ_ j hj h=>W
def aLa {ws:dk} (oU:lI N ws) (hl:O ws<=ae) (hL:ae<=100) {t:Nat} {T:ah} (hT:N.ag[t]? =V T) {op:Int} {key r:aU} (Aa:lU (zV T) key=I) (gP:op=2\/op=3) (hr:lU (db T) r=I) (n:Nat) (hn:1000<n) (t29:bC) (t30:Int):∀(x:aU) (i m:Nat) (c:aG) (lw:aW) (mt:aN) (qe:aU),B' i r=x->O x+200<m->cL c->lw.aQ=op->lw.aq=(t:Int)->lw.av=key->O mt<=i->T.av<=(i:Int)->(op=3->mt= []/\qe= [])->(op=2->yk T mt qe/\∀z∈mt,z<(i:Int))->
  Ok (Q5 (MC k n) m d (i:Int) t29 t30 c N ⟨st⟩ ws r lw mt qe) Q:=by
 have ht:fP T:=hN.bG ↑t T (by rw[bh];exact hT)
 have h8:=ht.cols;have mM:=uA hr;rw[kK] at mM;have fin:∀{c:aG} {lw:aW} {mt:aN} {qe:aU},cL c->lw.aQ=op->lw.aq=(t:Int)->lw.av=key->(op=3->mt= []/\qe= [])->(op=2->yk T mt qe)->Ok (MC k n d t29 t30 c N ⟨st⟩ ws ⟨lw.aQ,lw.aq,lw.av,mt,qe⟩ mt qe) Q:=λ{c lw mt qe} hc e1 e2 e3 h3 h2=>
  arc hN hk oU hl hL (lw:=⟨lw.aQ,lw.aq,lw.av,mt,qe⟩) (mt:=mt) (nA:=qe) (t:=t) (T:=T) ⟨e2,hT,by show lU _ lw.av=I;rw[e3];exact Aa,by
   rcases gP with h|h
   .exact .inr (.inl ⟨e1.trans h,h2 h⟩)
   .exact .inr (.inr ⟨e1.trans h,h3 h⟩)⟩ hc n hn t29 t30
 intro x;induction x with
 |nil=>
  intro i m c lw mt qe hd hm hc e1 e2 e3 rm hi h3 h2;obtain ⟨m,rfl⟩:∃q,m=q+1:=⟨m-1,W⟩
  let ⟨mr,hq⟩:=eu hd
  simp only[Q5,Zj,hq,aR,ay,aw];exact fin hc e1 e2 e3 h3 λh=>(h2 h).1
 |cons v x ih=>
  intro i m c lw mt qe hd hm hc e1 e2 e3 rm hi h3 h2;obtain ⟨m,rfl⟩:∃q,m=q+1:=⟨m-1,W⟩
  let ⟨g1,g2,g3,hq⟩:=dN hd
  simp at hm;have nx:=bS g3 (W:O r<4294967296)
  simp only[Q5,Zj,hq,aO,az];refine Ok.ite (λho=> ?_) λ_=>fin hc e1 e2 e3 h3 λh=>(h2 h).1
  have ho:op=2:=by rw[<-e1];simpa using ho
  let ⟨Hb,cT⟩:=h2 ho;have li:=Hb.len;refine Ok.bind (qx m c 2 hc) λq hq2=>Ok.ite (λ_=> ?_) λ_=> ?_
  .rw[dm _ _ ap,ai,gx g3,ai,cN,g1,ai,dm _ _ ap,ai,nx]
   refine ih (i+1) m q.2 _ _ _ g2 W hq2 e1 e2 e3 ap W (λh=>W) λ_=>⟨⟨by simp[li],?_,λp z y p1 p2=> ?_⟩,λz hz=> ?_⟩
   .refine AZ.2 ⟨Hb.ord,anI _ _,λa ha b hb=> ?_⟩
    rw[gy.1 hb];exact cT a ha
   .by_cases hp:p<O mt
    .rw[nc hp] at p1;rw[nc W] at p2
     exact Hb.each p z y p1 p2
    .have um:=(bk.1 p1).1;simp at um;rw[nW W,show p-O mt=0 by omega] at p1
     rw[nW W,show p-O qe=0 by omega] at p2
     simp at p1 p2;subst p1;subst p2;have hx:T.L[i]? =V (T.L[i]' W):=bJ _
     let ⟨r1,r2⟩:=y9 hr (oh hx) g1;exact ⟨i,_,rfl,hx,hi,r1,r2⟩
   .rcases fk.1 hz with hz|hz
    .have:=cT z hz;omega
    .rw[gy.1 hz];omega
  .rw[nx];exact ih (i+1) m q.2 _ _ _ g2 W hq2 e1 e2 e3 W W h3 λ_=>⟨Hb,λz hz=>by have:=cT z hz;omega⟩
def axP {r:aU} (h:lU ks r=I) (j:Nat):lU (C' j ks) (C' j r)=I:=by
 have hl:=uA h;refine P7 (by simp[hl]) λi k v h1 h2=> ?_
 rw[eO] at h1 h2;split at h1
 .rename_i hi;rw[ax hi] at h2;exact y9 h h1 h2
 .cases h1
def aLz (dV:mu 1 N st) (hk:KJ N st k d (ae+1) Q) {ws:dk} (oU:lI N ws) (hl:O ws<=ae) (hL:ae<=100) {t:Nat} {T:ah} (hT:N.ag[t]? =V T) {r:aU} (hr:fL 1 T.av 0 (db T) r=I) {c:aG} (hc:cL c) (n:Nat) (hn:4000<n) (t29:bC) (t30:Int):Ok (MA k n d (t:Int) t29 t30 c N ⟨st⟩ ws r) Q:=by
 have ht:fP T:=hN.bG ↑t T (by rw[bh];exact hT)
 have h8:=ht.cols;have k1:=ht.lV;have k2:=ht.iA;have mM:=fC hr;have hrk:lU (db T) r=I:=by rw[<-yo (key:=T.av) (i:=0) ht.ks];exact hr
 have vW:=(bk.1 hT).1;have AP:=dV.len;have fK:st[t]? =V (st[t]' W):=bJ _
 let ⟨r1,r2⟩:=dV.row t T _ hT fK;have c1:ou (O r) T.av=V (Eb T.av):=by unfold ou;rw[ax W]
 have Aa:lU (zV T) (eV T r)=I:=axP hrk _;unfold MA;simp only[bh,hT,ai,c1,oQ];rw[dm _ _ ap,ai,jb]
 refine Ok.bind (aRv n hT ht _ fK (λy hy=>fC (r2 y hy)) W W) λq _=>Ok.bind (qx n c 8 hc) λq2 h2=>Ok.ite (λ_=> ?_) λ_=> ?_
 .refine Ok.bind (kg n q2.2 2 h2) λq3 ⟨h3,a1,a2,_⟩=> ?_
  have a2:=a2 W
  have e:T.av=((Eb T.av:Nat):Int):=by omega
  rw[cR W W,e]
  exact aLa hN hk oU hl hL hT Aa (op:=2+q3.1) W hrk n W t29 t30 (B' (Eb T.av) r) (Eb T.av) n q3.2 ⟨2+q3.1,(t:Int),eV T r,[],[]⟩ [] [] rfl ap h3 rfl rfl rfl am W (λ_=>⟨rfl,rfl⟩) λ_=>⟨⟨rfl,ad9,λi c v h=>by simp at h⟩,am⟩
 .exact arc hN hk oU hl hL (lw:=⟨1,(t:Int),eV T r,[],r⟩) (mt:= []) (nA:=r) (t:=t) (T:=T) ⟨rfl,hT,Aa,.inl ⟨rfl,rfl,hr,rfl⟩⟩ h2 n W t29 t30
def aqj (hN:nF N) (dV:mu 1 N st) (n0:Nat):∀(j m:Nat) (c:aG) (ws:dk),j+6000<m->cL c->lI N ws->O ws+j<=100->Ok (HG (RB n0) m (j:Int) c N ⟨st⟩ ws) λr=>cL r.2/\lI N r.1/\O r.1<=O ws+j
 |0,m+1,c,ws,hm,hc,oU,hl=>by
  have hq:¬(0:Int)<((0:Nat):Int):=by omega
  simp only[HG,Zl,hq,aR,ay,aw,RB];exact Ok.pure ⟨hc,oU,Py _ _⟩
 |j+1,m+1,c,ws,hm,hc,oU,hl=>by
  have hq:(0:Int)<((j+1:Nat):Int):=by omega
  have hw:ba (((j+1:Nat):Int)-1)=(j:Int):=by rw[cR W W];omega
  have hl8:=hN.len;have AP:=dV.len;simp only[HG,Zl,hq,aO,az];refine Ok.ite (λh0=> ?_) λ_=>Ok.pure ⟨hc,oU,Py _ _⟩
  have h0:0<(O N.ag:Int):=by simpa using h0
  have hk:KJ N st (HG (RB n0) m) ((j+1:Nat):Int) (O ws+1) λr=>cL r.2/\lI N r.1/\O r.1<=O ws+(j+1):=λc' ws' jm hws' AU=>by
   rw[hw];exact (aqj hN dV n0 j m c' ws' W jm hws' W).mono λr ⟨a1,a2,a3⟩=>⟨a1,a2,W⟩
  refine Ok.bind (kg m c _ hc) λdZ ⟨c1,a1,a2,_⟩=> ?_
  have a2:=a2 W
  obtain ⟨t,ht0⟩:∃t:Nat,dZ.1=(t:Int):=⟨Eb dZ.1,W⟩
  rw[ht0] at a2 ⊢;have vW:t<O N.ag:=by omega
  obtain ⟨T,hT⟩:∃T,N.ag[t]? =V T:=⟨_,bJ vW⟩;have vp:idx N.ag (t:Int)=V T:=by rw[bh];exact hT
  have ht:=hN.bG ↑t T vp;have dX:=ht.cols;have xU:=kK T;have k1:=ht.lV;have k2:=ht.iA;obtain ⟨ii,fK⟩:∃ii,st[t]? =V ii:=⟨st[t]' W,bJ _⟩
  let ⟨s1,s2⟩:=dV.row t T ii hT fK;rw[VO vp W (W:1000<m),ai,vp,ai]
  refine Ok.bind (aJa m 1 W dZ.2 (db T) T.av ht.ks W c1) λr ⟨c2,hr⟩=> ?_
  have mM:=fC hr;simp only[bh,fK,ai];have step:∀(c':aG) (r:aU) (t29:bC) (t30:Int),cL c'->fL 1 T.av 0 (db T) r=I->Ok (MA (HG (RB n0) m) m ((j+1:Nat):Int) ↑t t29 t30 c' N ⟨st⟩ ws r) λr=>cL r.2/\lI N r.1/\O r.1<=O ws+(j+1):=λc' r t29 t30 jm iN=>aLz hN dV hk oU (cM _) W hT iN jm m W t29 t30
  refine Ok.ite (λhx=> ?_) λ_=>step _ _ _ _ c2 hr
  have hx:0<(O ii:Int):=by simpa using hx
  refine Ok.bind (qx m r.2 3 c2) λx50 c3=>Ok.ite (λ_=> ?_) λ_=>step _ _ _ _ c3 hr
  refine Ok.bind (kg m x50.2 _ c3) λx57 ⟨c4,d1,d2,_⟩=> ?_
  have d2:=d2 W
  obtain ⟨i,hj⟩:∃i:Nat,x57.1=(i:Int):=⟨Eb x57.1,W⟩
  rw[hj] at d2 ⊢;have gI:i<O ii:=by omega
  have hjr:=s2 _ (nf gI);have hjc:=fC hjr;have hkt:O (C' (Eb T.av) ii[i])=Eb T.av:=by rw[dv];omega
  simp only[bh,bJ gI,ai,VN (n:=m) vp ht ii[i] hjc];rw[aKH W (λe=>by rw[e] at mM;simp at mM;omega),ai,hkt]
  exact step _ _ _ _ c4 (aSq _ hjr hr)
 |_,0,_,_,hm,_,_,_=>W
def aXv {n:Nat} {c:aG} (dV:mu 1 N st) (hc:cL c) (hn:7000<n) (aCE:Nat) (hmost:aCE<=8):Ok (F29 n c N ⟨st⟩ (aCE:Int)) λr=>cL r.2/\lI N r.1/\O r.1<=aCE:=by
 unfold F29 aws;rw[cR W W]
 refine Ok.bind (kg n c _ hc) λdZ ⟨c1,a1,a2,_⟩=> ?_
 have a2:=a2 W
 obtain ⟨d,hd⟩:∃d:Nat,dZ.1=(d:Int):=⟨Eb dZ.1,W⟩
 rw[hd] at a2 ⊢;exact (aqj hN dV n d n dZ.2 [] W c1 ⟨am,ad9⟩ ap).mono λr ⟨q1,q2,q3⟩=>⟨q1,q2,by simp at q3;omega⟩
end
end
section
section
variable {N:af} {st:gQ} {t:Nat} {T:ah}
def aRU (ht:fP T) {tb:Int} {key:aU} {cs:aN} {cells:aU} (h:ov N t T ⟨o,tb,key,cs,cells⟩) {q c:Nat} (hq:q<O cells) (h2:o=2->cs[q]? =V (c:Int)) (h1:o≠2->c=q) (hkc:O key<=c) {r:aU} {v:aP} (hr:fL 1 T.av 0 (db T) r=I) (hv:r[c]? =V v):ov N t T ⟨o,tb,key,cs,cells.set q v⟩:=by
 have hrk:lU (db T) r=I:=by rw[<-yo (key:=T.av) (i:=0) ht.ks];exact hr
 refine ⟨h.bG,h.get,h.key,?_⟩;rcases h.op with ⟨a1,a2,a3,a4⟩|⟨a1,a2⟩|⟨a1,a2,a3⟩
 .have a1:o=1:=a1;have a3:fL 1 T.av 0 (db T) cells=I:=a3;have a4:eV T cells=key:=a4;have e:=h1 W
  subst e;refine .inl ⟨a1,a2,?_,?_⟩
  .show fL 1 T.av 0 (db T) (cells.set c v)=I;rw[yo (key:=T.av) (i:=0) ht.ks] at a3 ⊢;refine P7 (by rw[iy];exact uA a3) λi k y g1 g2=> ?_
   rw[Ep] at g2;split at g2
   .rename_i e;cases g2;subst e;exact y9 hrk g1 hv
   .exact y9 a3 g1 g2
  .show eV T (cells.set c v)=key;rw[<-a4];have xU:Eb T.av<=c:=by
    have k1:=uA (show lU (zV T) key=I from h.key);have k2:=kK T;have k3:O (zV T)=min (Eb T.av) (O (db T)):=by unfold zV;rw[dv]
    have:=ht.lV;have:=ht.iA;omega
   unfold eV;refine pK λi=> ?_
   rw[eO,eO];split
   .rw[ni W]
   .rfl
 .have a1:o=2:=a1;have a2:yk T cs cells:=a2;have hc:=h2 a1;refine .inr (.inl ⟨a1,by show O cs=O (cells.set q v);rw[iy];exact a2.len,a2.ord,λi c' y g1 g2=> ?_⟩)
  have g2:(cells.set q v)[i]? =V y:=g2;rw[Ep] at g2;split at g2
  .rename_i e;cases g2;subst e;have g1:cs[q]? =V c':=g1;rw[hc] at g1;cases g1;let ⟨j,x,e,hx,hj,_⟩:=a2.each q _ _ hc (bJ hq);have e:c=j:=by omega
   subst e;let ⟨r1,r2⟩:=y9 hrk (oh hx) hv;exact ⟨c,x,rfl,hx,hj,r1,r2⟩
  .exact a2.each i c' y g1 g2
 .have a3:cells= []:=a3;rw[a3] at hq;simp at hq
def lI.set {ws:dk} (oU:lI N ws) {w ac:aW} (hw:ws[i]? =V w) (hW:ov N t T ac) (e1:ac.aq=w.aq) (e2:ac.av=w.av):lI N (ws.set i ac):=by
 refine ⟨λy hy=> ?_,?_⟩
 .rcases PD hy with h|h
  .exact oU.ok y h
  .rw[h];exact ⟨t,T,hW⟩
 .have key:∀(j:Nat) (hj:j<O (ws.set i ac)) (hj':j<O ws),(ws.set i ac)[j].aq=ws[j].aq/\(ws.set i ac)[j].av=ws[j].av:=λj hj hj'=>by
   rw[List.getElem_set];split
   .rename_i e;subst e;rw[bJ hj'] at hw;cases hw;exact ⟨e1,e2⟩
   .exact ⟨rfl,rfl⟩
  refine tz.2 λa b ha hb FM=> ?_
  have ha':a<O ws:=by rw[iy] at ha;exact ha
  have lL:b<O ws:=by rw[iy] at hb;exact hb
  have h:=tz.1 oU.ord a b ha' lL FM;let ⟨a1,a2⟩:=key a ha ha';let ⟨b1,b2⟩:=key b hb lL;unfold AI at h ⊢;rw[a1,a2,b1,b2];exact h
variable {Q:dk×aG->Prop}
def Q6 (ht:fP T) {k2:Int->Int->Int->aG->aE->dk->aW->aU->G (dk×aG)} {i8 t16 t17 tb:Int} {key:aU} {ws:dk} (N8:O key<=8)
  (hk:∀c o cs cells,cL c->ov N t T ⟨o,tb,key,cs,cells⟩->Ok (k2 i8 t16 t17 c ⟨st⟩ ws ⟨o,tb,key,cs,cells⟩ cells) Q) {r:aU} (hr:fL 1 T.av 0 (db T) r=I) (ae:Nat) (hL:ae<=1000):∀(x q m:Nat) (c:aG) (o:Int) (cs:aN) (cl cells:aU),q+x=ae->x+200<m->cL c->ov N t T ⟨o,tb,key,cs,cells⟩->O cells=ae->
  Ok (Mh k2 m i8 r t16 t17 (ae:Int) (q:Int) c ⟨st⟩ ws ⟨o,tb,key,cs,cl⟩ cells) Q
 |0,q,m+1,c,o,cs,cl,cells,hq,hm,hc,hW,hl=>by
  have h:¬((q:Int)<(ae:Int)):=by omega
  simp only[Mh,Zh,h,aR,ay,aw];exact hk c o cs cells hc hW
 |x+1,q,m+1,c,o,cs,cl,cells,hq,hm,hc,hW,hl=>by
  have h:(q:Int)<(ae:Int):=by omega
  have CL:q<O cells:=by omega
  have mM:=fC hr;have h8:=ht.cols;have nx:ba ((q:Int)+1)=((q+1:Nat):Int):=by rw[cR W W];omega
  have go:∀(k:Nat),(o=2->cs[q]? =V (k:Int))->(o≠2->k=q)->k<O r->Ok (Wj (Mh k2 m) m i8 r ↑q (k:Int) t16 t17 ↑ae (q:Int) c ⟨st⟩ ws ⟨o,tb,key,cs,cells⟩ cells) Q:=λk h2 h1 N6=>by
   unfold Wj;rw[nx];refine Ok.ite (λJt=> ?_) λ_=>Q6 ht N8 hk hr ae hL x (q+1) m c o cs _ cells W W hc hW hl
   have Jt:¬((k:Int)<(O key:Int)):=by simpa using Jt
   refine Ok.bind (qx m c 3 hc) λz hz=>Ok.ite (λ_=> ?_) λ_=>Q6 ht N8 hk hr ae hL x (q+1) m z.2 o cs _ cells W W hz hW hl
   simp only[bh,bJ N6,ai,gx CL,cN,bJ CL,dD _ CL];exact Q6 ht N8 hk hr ae hL x (q+1) m z.2 o cs _ _ W W hz (aRU ht hW CL h2 h1 W hr (bJ N6)) (by rw[iy];exact hl)
  simp only[Mh,Zh,h,aO,az];refine Ok.ite (λho=> ?_) λho=> ?_
  .have ho:o=2:=by simpa using ho
   have Hb:yk T cs cells:=by
    rcases hW.op with ⟨a1,_⟩|⟨_,a2⟩|⟨a1,_⟩
    .have a1:o=1:=a1;omega
    .exact a2
    .have a1:o=3:=a1;omega
   have li:=Hb.len;have hqc:q<O cs:=by omega
   let ⟨j,y,e,hy,_⟩:=Hb.each q _ _ (bJ hqc) (bJ CL);have hyl:=(bk.1 hy).1;rw[bh,bJ hqc,ai,e];exact go j (λ_=>by rw[bJ hqc,e]) (λh=>absurd ho h) W
  .have ho:¬o=2:=by simpa using ho
   refine go q (λh=>absurd h ho) (λ_=>rfl) ?_
   rcases hW.op with ⟨_,_,a3,_⟩|⟨a1,_⟩|⟨_,_,a3⟩
   .have:=fC (show fL 1 T.av 0 (db T) cells=I from a3);omega
   .exact absurd a1 ho
   .have a3:cells= []:=a3;rw[a3] at CL;simp at CL
 |_,_,0,_,_,_,_,_,_,hm,_,_,_=>W
def aqk (hN:nF N) (dV:mu 1 N st) (n0:Nat) (ae:Nat) (hL:ae<=64):∀(x i m:Nat) (c:aG) (ws:dk),i+x=ae->x+3000<m->cL c->lI N ws->O ws=ae->
  Ok (Mg (Wi n0) m (ae:Int) (i:Int) c ⟨st⟩ ws) λr=>cL r.2/\lI N r.1/\O r.1=ae
 |0,i,m+1,c,ws,hi,hm,hc,oU,hl=>by
  have h:¬((i:Int)<(ae:Int)):=by omega
  simp only[Mg,Zi,h,aR,ay,aw,Wi];exact Ok.pure ⟨hc,oU,hl⟩
 |x+1,i,m+1,c,ws,hi,hm,hc,oU,hl=>by
  have h:(i:Int)<(ae:Int):=by omega
  have mr:i<O ws:=by omega
  have nx:ba ((i:Int)+1)=((i+1:Nat):Int):=by rw[cR W W];omega
  have hg:ws[i]? =V ws[i]:=bJ mr;let ⟨t,T,hW⟩:=oU.ok _ (nf mr);let ⟨ht,xU,N8,dX,rk⟩:=hW.small hN;have vW:=(bk.1 hW.get).1;have AP:=dV.len;obtain ⟨ii,fK⟩:∃ii,st[t]? =V ii:=⟨st[t]' W,bJ _⟩
  let ⟨s1,s2⟩:=dV.row t T ii hW.get fK;have next:∀(c':aG) (ws':dk),cL c'->lI N ws'->O ws'=ae->Ok (RC (Mg (Wi n0) m) m ↑ae (i:Int) c' ⟨st⟩ ws') λr=>cL r.2/\lI N r.1/\O r.1=ae:=λc' ws' h1 h2 h3=>by
   unfold RC;rw[nx];exact aqk hN dV n0 ae hL x (i+1) m c' ws' W W h1 h2 h3
  simp only[Mg,Zi,h,aO,az,gx mr,ai,cN,hg,hW.bG,bh,fK];refine Ok.ite (λ_=>next c ws hc oU hl) λhz=>Ok.bind (qx m c 4 hc) λz mo=>Ok.ite (λ_=>next z.2 ws mo oU hl) λ_=> ?_
  have hz:¬(O ii:Int)=0:=by simpa using hz
  have h0:0<O ii:=by omega
  rw[show idx ii 0=ii[0]? from bh ii 0,bJ h0,ai,dm _ _ ap,ai,jb]
  refine Q6 (T:=T) (t:=t) (N:=N) ht N8 (λc' o cs cells h1 h2=> ?_) (s2 _ (nf h0)) (O ws[i].cB) W (O ws[i].cB) 0 m z.2 ws[i].aQ ws[i].L ws[i].cB ws[i].cB W W mo ?_ rfl
  .unfold awu;simp only[gx mr,ai,cN,hg,dD _ mr];exact next c' _ h1 (oU.set hg h2 hW.bG.symm rfl) (by rw[iy];exact hl)
  .rw[<-hW.bG];exact hW
 |_,_,0,_,_,_,hm,_,_,_=>W
def aXw {n:Nat} {c:aG} (hN:nF N) (dV:mu 1 N st) (hc:cL c) {ws:dk} (oU:lI N ws) (hl:O ws<=64) (hn:4000<n):Ok (F28 n c ⟨st⟩ ws) λr=>cL r.2/\lI N r.1/\O r.1=O ws:=by
 unfold F28 awt;rw[dm _ _ ap,ai,jb]
 exact aqk hN dV n (O ws) hl (O ws) 0 n c ws W W hc oU rfl
end
end
section
section
variable {N:af} {st kE:gQ} {t:Nat} {T:ah} {ii:bz} {w:aW} {ws:dk} {r x:aU} {c:cG}
def aBX (ht:fP T) {cs:aN} (hr:fL 1 T.av 0 (db T) r=I) (hk:yk T cs vs):fL 1 T.av 0 (db T) (qY r cs vs)=I/\eV T (qY r cs vs)=eV T r:=by
 have h0:∀c∈cs,0<=c:=λc hc=>by
  let ⟨i,hi⟩:=lP hc;let ⟨_,j,_,_,e,_⟩:=hk.nat hi;omega
 rw[yo (key:=T.av) (i:=0) ht.ks] at hr ⊢;refine ⟨P7 (by rw[KR];exact uA hr) λi k v h1 h2=> ?_,?_⟩
 .rw[E1 cs vs r i hk.ord h0] at h2;cases hl:ed (cs.zip vs) ↑i with
  |none=>rw[hl] at h2;exact y9 hr h1 h2
  |some y=>
   rw[hl] at h2;simp only at h2;split at h2
   .cases h2;let ⟨q,q1,q2⟩:=ES hl;let ⟨j,x,e,hx,_,z1,z2⟩:=hk.each q _ _ q1 q2;have e:i=j:=by omega
    subst e;rw[oh hx] at h1;cases h1;exact ⟨z1,z2⟩
   .cases h2
 .have k1:=ht.lV;unfold eV;refine pK λi=> ?_
  rw[eO,eO];split
  .rename_i hi;rw[E1 cs vs r i hk.ord h0];cases hl:ed (cs.zip vs) ↑i with
   |none=>rfl
   |some y=>
    let ⟨q,q1,q2⟩:=ES hl;let ⟨j,x,e,hx,z,_⟩:=hk.each q _ _ q1 q2;omega
  .rfl
def aCC (ht:fP T) (hW:ov N t T w) (hr:r= []\/(fL 1 T.av 0 (db T) r=I/\eV T r=w.av)) (hx:oJ r w=V x):(r≠ []\/x≠ [])/\(x≠ []->fL 1 T.av 0 (db T) x=I/\eV T x=w.av):=by
 have k1:=ht.lV;have k2:=ht.iA;unfold oJ at hx;rcases hW.op with ⟨h1,e2,hrm,VC⟩|⟨h2,hk⟩|⟨h3,e2,e3⟩
 .rw[ax h1] at hx;split at hx
  .cases hx;refine ⟨.inr λe=> ?_,λ_=>⟨hrm,VC⟩⟩
   have:=fC hrm;rw[e] at this;simp at this;omega
  .cases hx
 .rw[au (show ¬w.aQ=1 by omega)] at hx
  split at hx
  .cases hx
  .rename_i dd;cases hx;have hr:=hr.resolve_left dd;let ⟨q1,q2⟩:=aBX ht hr.1 hk;exact ⟨.inl dd,λ_=>⟨q1,q2.trans hr.2⟩⟩
 .rw[au (show ¬w.aQ=1 by omega)] at hx
  split at hx
  .cases hx
  .rename_i dd;rw[au (show ¬w.aQ=2 by omega)] at hx;cases hx
   exact ⟨.inl dd,λh=>absurd rfl h⟩
def mu.at {md:Int} (dV:mu md N st) (hT:N.ag[t]? =V T):∃ii,st[t]? =V ii:=by
 have h1:=(bk.1 hT).1;have h2:=dV.len;exact ⟨_,bJ W⟩
variable (hN:nF N) (dV:mu 1 N st) (hw:lI N ws) (hW:ov N t T w)
def Bl (hr:st[t]? =V ii):jP T w.av ii (rowOf N st w):=by
 rw[avy hW.bG hW.get hr];exact aaK (dV.b.ne hN hW.get hr)
def abR:rowOf N st w= []\/(fL 1 T.av 0 (db T) (rowOf N st w)=I/\eV T (rowOf N st w)=w.av):=by
 let ⟨ii,hr⟩:=dV.at hW.get;rcases Bl hN dV hW hr with ⟨h1,_,h3⟩|⟨h1,_⟩
 .exact .inr ⟨(dV.row t T ii hW.get hr).2 _ h1,h3⟩
 .exact .inl h1
def qJ (h:pG N st w=V c):∃x,oJ (rowOf N st w) w=V x/\c=⟨w.aq,rowOf N st w,x⟩/\Aw 1 N c/\uF N c=w.av/\L3 N st c c.jt:=by
 have ht:fP T:=(hW.small hN).1;unfold pG at h;cases hx:oJ (rowOf N st w) w with
 |none=>rw[hx] at h;cases h
 |some x=>
  rw[hx] at h;simp only at h;split at h
  .cases h
  cases h;let ⟨ii,hr⟩:=dV.at hW.get;have h1:=Bl hN dV hW hr;have h2:=abR hN dV hW;let ⟨h3,h4⟩:=aCC ht hW h2 hx;have hf:Aw 1 N ⟨w.aq,rowOf N st w,x⟩:=⟨t,T,hW.bG,hW.get,h3,λe=>(h2.resolve_left e).1,λe=>(h4 e).1,λe1 e2=>(h2.resolve_left e1).2.trans (h4 e2).2.symm⟩
  have Aa:uF N ⟨w.aq,rowOf N st w,x⟩=w.av:=by
   rw[Qk (c:=⟨w.aq,rowOf N st w,x⟩) hW.bG hW.get];by_cases e:rowOf N st w= []
   .have qG:=h3.resolve_left λh=>h e
    rw[Li (c:=⟨w.aq,rowOf N st w,x⟩) qG λe'=>absurd e e']
    exact (h4 qG).2
   .rw[aiB (c:=⟨w.aq,rowOf N st w,x⟩) e];exact (h2.resolve_left e).2
  exact ⟨x,rfl,rfl,hf,Aa,t,T,ii,hW.bG,hW.get,hr,by rw[Aa];exact h1⟩
def apW:RW N (ws.filterMap (pG N st)):=by
 refine List.pairwise_filterMap.2 (hw.ord.imp_of_mem ?_);intro a b ha hb FM c hc d hd;let ⟨t,T,hW⟩:=hw.ok a ha;let ⟨t',T',hW'⟩:=hw.ok b hb;let ⟨_,_,e1,_,e2,_⟩:=qJ hN dV hW hc;let ⟨_,_,e1',_,JC,_⟩:=qJ hN dV hW' hd;show 0<OE N d c;unfold OE;rw[e2,JC];have f1:c.aq=a.aq:=by rw[e1]
 have f2:d.aq=b.aq:=by rw[e1']
 rw[f1,f2];rcases FM with h|⟨h1,h2⟩
 .rw[au W];omega
 .rw[ax h1.symm,Fi,show eJ a.av b.av= -1 from h2];omega
def aia {out:jX} (hO:RW N (c::out)) {d:cG} (hd:d∈out) (e:c.aq=d.aq):uF N c≠uF N d:=λh=>by
 have h1:0<OE N d c:=(nk.1 hO).1 d hd;unfold OE at h1;rw[ax e.symm,h,sn] at h1;omega
def apx (hN:nF N):∀(out:jX) (b:Nat) (st:gQ),DP 1 N b st->(∀c∈out,Aw 1 N c)->RW N out->(∀c∈out,L3 N st c c.jt)->∃kE,DP 1 N (b+O out) kE/\Ao N st kE out
 | [],b,st,hb,_,_,_=>⟨st,hb,am,am,λw T ii io k r _ h1 h2 _ h=>by rw[h1] at h2;cases h2;exact h⟩
 |c::out,b,st,hb,hC,hO,hold=>by
  have fc:=hC c am
  let ⟨t,T,ii,e1,e2,e3,e4⟩:=hold c am
  have vW:=(bk.1 e3).1;have aDs:=hb.put fc e1 e2 e3;have kc:uF N c=lp T c:=Qk e1 e2;have hkn:c.iv≠ []->eV T c.iv=lp T c:=λh=>by
   let ⟨w,T',f1,f2,_,_,_,f6⟩:=fc;obtain rfl:w=t:=by omega
   rw[e2] at f2;cases f2;exact (Li h f6).symm
  have at1:(st.set t (mX T (lp T c) (lC c.iv) ii))[t]? =V (mX T (lp T c) (lC c.iv) ii):=by rw[Ep];simp[vW]
  have move:∀(w:Nat) ul R k r,N.ag[w]? =V ul->st[w]? =V R->(c.aq=(w:Int)->uF N c≠k)->jP ul k R r->∃R1,(st.set t (mX T (lp T c) (lC c.iv) ii))[w]? =V R1/\jP ul k R1 r:=λw ul R k r hU hR dd hr=>by
   by_cases e:w=t
   .subst e;rw[e2] at hU;cases hU;rw[e3] at hR;cases hR;exact ⟨_,at1,jP.other (by rw[<-kc];exact (dd e1).symm) hkn hr⟩
   .exact ⟨R,by rw[ni (tu e)];exact hR,hr⟩
  let ⟨kE,lL,hL⟩:=apx hN out (b+1) _ aDs (λd hd=>hC d (fj _ hd)) (nk.1 hO).2 λd hd=>by
   let ⟨w,ul,R,g1,g2,g3,g4⟩:=hold d (fj _ hd);let ⟨R1,m1,m2⟩:=move w ul R _ _ g2 g3 (λe=>aia hO hd (e.trans g1.symm)) g4
   exact ⟨w,ul,R1,g1,g2,m1,m2⟩
  refine ⟨kE,by rw[l7,show b+(O out+1)=b+1+O out by omega];exact lL,λd hd=>hold d hd,λd hd=> ?_,λw ul R R' k r hU hR FN hx hr=> ?_⟩
  .rcases cU.1 hd with rfl|hd
   .have hl:=lL.len;have htt:=(bk.1 e2).1;have g:kE[t]? =V (kE[t]' W):=bJ _
    refine ⟨t,T,_,e1,e2,g,hL.rest t T _ _ _ _ e2 at1 g (λx hx e h=>aia hO hx (e1.trans e.symm) h.symm) ?_⟩
    rw[kc];exact jP.put hkn
   .exact hL.new d hd
  .let ⟨R1,m1,m2⟩:=move w ul R k r hU hR (λe=>hx c am e) hr
   exact hL.rest w ul R1 R' k r hU m1 FN (λx qG=>hx x (fj _ qG)) m2
def lI.one {a b:aW} (ha:a∈ws) (hb:b∈ws) (e1:a.aq=b.aq) (e2:a.av=b.av):a=b:=by
 obtain ⟨i,hi,rfl⟩:=IJ.1 ha;obtain ⟨j,hj,rfl⟩:=IJ.1 hb;rcases Nat.lt_trichotomy i j with h|rfl|h
 .rcases tz.1 hw.ord i j hi hj h with h|⟨_,h⟩
  .omega
  .rw[e2] at h;exact absurd h (lt_irrefl _)
 .rfl
 .rcases tz.1 hw.ord j i hj hi h with h|⟨_,h⟩
  .omega
  .rw[e2] at h;exact absurd h (lt_irrefl _)
def after (hL:Ao N st kE (ws.filterMap (pG N st))) (hm:w∈ws) (hW:ov N t T w) (hx:oJ (rowOf N st w) w=V x) (iN:kE[t]? =V io):jP T w.av io x:=by
 cases h:pG N st w with
 |some c=>
  let ⟨x',e1,e2,_,e3,_⟩:=qJ hN dV hW h;rw[hx] at e1;cases e1;have hn:=hL.new c (wW.2 ⟨w,hm,h⟩);have e4:c.iv=x:=by rw[e2]
  rw[e4] at hn;exact hn.is (by rw[e2];exact hW.bG) hW.get iN e3
 |none=>
  unfold pG at h;rw[hx] at h;simp only at h;split at h
  .rename_i e;let ⟨ii,hr⟩:=dV.at hW.get;have h1:=Bl hN dV hW hr;rw[tO e] at h1;refine hL.rest t T ii io _ _ hW.get hr iN (λy hy e1 e2=> ?_) h1
   let ⟨w2,m2,g2⟩:=wW.1 hy;let ⟨t',T',hW'⟩:=hw.ok w2 m2;let ⟨x',_,f2,_,f3,_⟩:=qJ hN dV hW' g2;have e3:y.aq=w2.aq:=by rw[f2]
   have e4:w2=w:=hw.one m2 hm (by rw[<-e3,e1,hW.bG]) (by rw[<-f3,e2])
   rw[e4] at g2;unfold pG at g2;rw[hx] at g2;simp only[e,az] at g2;cases g2
  .cases h
end
end
section
section
variable {u:af} {ms:cj} {ts:gg} {st kE:gQ} {q w:Nat} {T T':ah} {wr uw:aW} {ws us:dk}
variable (hs:fo u=0) (hm:∀m∈ms,MB m/\(m.aQ=8->fq m.cg)) (hc:di u ms ts) (hN:nF ((u::ts).getLast am)) (dV:mu 1 ((u::ts).getLast am) st)
def aJV (hW:ov u q T wr) (hw:eA ms (q:Int)=(w:Int)) (hU:ov ((u::ts).getLast am) w T' uw) (hP:UpW ms q w T T' wr uw):
  rowOf u (j1 ms u st) wr=zR ms (q:Int) (O T.L) (rowOf ((u::ts).getLast am) st uw):=by
 have BA:=ze hs hm hc dV;let ⟨R,hR⟩:=dV.at hU.get;have h1:=Bl hN dV hU hR;have h2:=h1.down hs hm hc hW.get hw hU.get (dV.row w T' R hU.get hR).2;rw[hP.key] at h2;have g:=Hl (ms:=ms) hW.get hw hR;exact (Bl (mW hs) BA hW g).one (BA.ord q T _ hW.get g) h2
def apl (hW:ov u q T wr) (hw:eA ms (q:Int)=(w:Int)) (hU:ov ((u::ts).getLast am) w T' uw) (hP:UpW ms q w T T' wr uw):
  oJ (rowOf u (j1 ms u st) wr) wr=(oJ (rowOf ((u::ts).getLast am) st uw) uw).map (zR ms (q:Int) (O T.L)):=by
 have ht:fP T:=(hW.small (mW hs)).1;have ht':fP T':=(hU.small hN).1;have k1:=ht.lV;have k2:=ht.iA;have k1':=ht'.lV;have k2':=ht'.iA;have h0:0<O T.L:=by omega
 rw[aJV hs hm hc hN dV hW hw hU hP];have hf:=abR hN dV hU;generalize rowOf ((u::ts).getLast am) st uw=R at hf
 unfold oJ;rw[hP.op];rcases hW.op with ⟨h1,e2,hr,_⟩|⟨h2,hk⟩|⟨h3,e2,e3⟩
 .simp only[h1,az];by_cases e:R= []
  .rw[ax e,ax ((za h0).2 e)];have dd:uw.cB≠ []:=λhn=>by
    rcases hU.op with ⟨_,_,iN,_⟩|⟨h,_⟩|⟨h,_⟩
    .have:=fC iN;rw[hn] at this;simp at this;omega
    .have:=hP.op;omega
    .have:=hP.op;omega
   show V wr.cB=V (zR ms ↑q (O T.L) uw.cB);unfold zR;rw[au dd,hP.ins h1]
  .rw[au e,au λh=>e ((za h0).1 h)];rfl
 .rw[au (show ¬wr.aQ=1 by omega),au (show ¬wr.aQ=1 by omega)]
  by_cases e:R= []
  .rw[ax e,ax ((za h0).2 e)];rfl
  .rw[au e,au λh=>e ((za h0).1 h),ax h2,ax h2]
   have hR:=fC (hf.resolve_left e).1;have dd:qY R uw.L uw.cB≠ []:=λhn=>by
    have:=KR R uw.L uw.cB;rw[hn] at this;simp at this;omega
   show V (qY (zR ms ↑q (O T.L) R) wr.L wr.cB)=V (zR ms ↑q (O T.L) (qY R uw.L uw.cB));unfold zR;rw[au e,au dd,hP.j4 h2 R hR]
 .rw[au (show ¬wr.aQ=1 by omega),au (show ¬wr.aQ=1 by omega)]
  by_cases e:R= []
  .rw[ax e,ax ((za h0).2 e)];rfl
  .rw[au e,au λh=>e ((za h0).1 h),au (show ¬wr.aQ=2 by omega),au (show ¬wr.aQ=2 by omega)]
   show V ([]:aU)=V (zR ms ↑q (O T.L) []);unfold zR;rw[ax rfl]
def aCw (hU:Tj u ts ms ws us):(∃w∈ws,oJ (rowOf u (j1 ms u st) w) w=A)↔∃w∈us,oJ (rowOf ((u::ts).getLast am) st w) w=A:=by
 have hl:=hU.len;have key:∀(i:Nat) a b,ws[i]? =V a->us[i]? =V b->(oJ (rowOf u (j1 ms u st) a) a=A↔oJ (rowOf ((u::ts).getLast am) st b) b=A):=λi a b h1 h2=>by
  let ⟨t,T,w,T',a1,a2,_,a4,a5⟩:=hU.each i a b h1 h2;rw[apl hs hm hc hN dV a1 a2 a4 a5];simp
 constructor
 .rintro ⟨a,ha,h⟩;let ⟨i,hi⟩:=lP ha;have mr:=(bk.1 hi).1;have g:us[i]? =V (us[i]' W):=bJ _
  exact ⟨_,bF g,(key i _ _ hi g).1 h⟩
 .rintro ⟨a,ha,h⟩;let ⟨i,hi⟩:=lP ha;have mr:=(bk.1 hi).1;have g:ws[i]? =V (ws[i]' W):=bJ _
  exact ⟨_,bF g,(key i _ _ g hi).2 h⟩
def ayP (h0:mu 1 ((u::ts).getLast am) st) (h1:mu 1 ((u::ts).getLast am) kE) (hw:lI u ws) (hU:Tj u ts ms ws us) (hn:∀w∈us,oJ (rowOf ((u::ts).getLast am) st w) w≠A) (h:Ao ((u::ts).getLast am) st kE (us.filterMap (pG ((u::ts).getLast am) st))):
  Ao u (j1 ms u st) (j1 ms u kE) (ws.filterMap (pG u (j1 ms u st))):=by
 have mK:=hU.ok hw;have hl:=hU.len;have f0:=ze hs hm hc h0;have f1:=ze hs hm hc h1;have hS:=mW hs;have aft:∀{a:aW} {T:ah} {q:Nat} {io:bz},a∈ws->ov u q T a->(j1 ms u kE)[q]? =V io->∃x,oJ (rowOf u (j1 ms u st) a) a=V x/\jP T a.av io x:=λ{a T q io} ha hA iN=>by
  let ⟨i,hi⟩:=lP ha;have mr:=(bk.1 hi).1;have g:us[i]? =V (us[i]' W):=bJ _
  let ⟨t,T0,w,T',a1,a2,a3,a4,a5⟩:=hU.each i _ _ hi g;obtain rfl:t=q:=by have:=a1.bG;have:=hA.bG;omega
  have e:T0=T:=by have:=a1.get;rw[hA.get] at this;cases this;rfl
  subst e;have hp:=apl hs hm hc hN h0 a1 a2 a4 a5;cases hx:oJ (rowOf ((u::ts).getLast am) st us[i]) us[i] with
  |none=>exact absurd hx (hn _ (bF g))
  |some x=>
   rw[hx] at hp;let ⟨R',FN⟩:=h1.at a4.get;have hA':=(after hN h0 mK h (bF g) a4 hx FN).down hs hm hc a1.get a2 a4.get (h1.row w T' R' a4.get FN).2;rw[Hl a1.get a2 FN] at iN;cases iN;rw[a5.key] at hA';exact ⟨_,hp,hA'⟩
 refine ⟨λc hc=> ?_,λc hc=> ?_,λq T ii io k r hT g1 g2 hx hr=> ?_⟩
 .let ⟨a,ha,hca⟩:=wW.1 hc;let ⟨t,T,hA⟩:=hw.ok a ha;let ⟨_,_,_,_,_,e⟩:=qJ hS f0 hA hca;exact e
 .let ⟨a,ha,hca⟩:=wW.1 hc;let ⟨t,T,hA⟩:=hw.ok a ha;let ⟨x,e1,e2,_,e3,_⟩:=qJ hS f0 hA hca;let ⟨io,iN⟩:=f1.at hA.get;let ⟨x',d1,d2⟩:=aft ha hA iN;rw[e1] at d1;cases d1;have e4:c.iv=x:=by rw[e2]
  exact ⟨t,T,io,by rw[e2];exact hA.bG,hA.get,iN,by rw[e3,e4];exact d2⟩
 .have hO:=f0.ord q T ii hT g1;by_cases hq:∃a∈ws,a.aq=(q:Int)/\a.av=k
  .let ⟨a,ha,ea,ek⟩:=hq;let ⟨t,T0,hA⟩:=hw.ok a ha;obtain rfl:t=q:=by have:=hA.bG;omega
   have e:T0=T:=by have:=hA.get;rw[hT] at this;cases this;rfl
   subst e;let ⟨x,d1,d2⟩:=aft ha hA g2;have d0:=Bl hS f0 hA g1;rw[ek] at d0 d2;rw[hr.one hO d0];cases pb:pG u (j1 ms u st) a with
   |some c=>
    let ⟨_,_,e2,_,e3,_⟩:=qJ hS f0 hA pb;exact absurd (e3.trans ek) (hx c (wW.2 ⟨a,ha,pb⟩) (by rw[e2];exact ea))
   |none=>
    unfold pG at pb;rw[d1] at pb;simp only at pb;split at pb
    .rename_i e;rw[tO e];exact d2
    .cases pb
  have l0:=h0.len;have l1:=h1.len;have triv:yn ms st q T= []->yn ms kE q T= []->jP T k io r:=λe1 e2=>by
   rw[CW hT,e1] at g1;rw[CW hT,e2] at g2;cases g1;cases g2;exact hr
  by_cases hwt:eA ms (q:Int)<0
  .exact triv (by unfold yn;rw[ax hwt]) (by unfold yn;rw[ax hwt])
  obtain ⟨w,FB⟩:∃w:Nat,eA ms (q:Int)=(w:Int):=⟨Eb (eA ms ↑q),W⟩
  by_cases G7:w<O st;rotate_left
  .have e:∀s:gQ,O s=O st->yn ms s q T= []:=λs hs=>by
    unfold yn;rw[au hwt,FB,show Eb ((w:Int))=w by simp,mw W];rfl
   exact triv (e st rfl) (e kE W)
  have hwl':w<O ((u::ts).getLast am).ag:=by rw[<-l0];exact G7
  obtain ⟨T',eI⟩:∃T',((u::ts).getLast am).ag[w]? =V T':=⟨_,bJ hwl'⟩
  let ⟨R,hR⟩:=h0.at eI;let ⟨R',FN⟩:=h1.at eI;rw[Hl hT FB hR] at g1;rw[Hl hT FB FN] at g2;cases g1;cases g2;let ⟨r0,AQ⟩:=jP.ex (T:=T') k (h0.b.ne hN eI hR);rw[hr.one hO (AQ.down hs hm hc hT FB eI (h0.row w T' R eI hR).2)];refine (h.rest w T' R R' k r0 eI hR FN (λx hx e1 e2=>hq ?_) AQ).down hs hm hc hT FB eI (h1.row w T' R' eI FN).2
  let ⟨b,hb,hcb⟩:=wW.1 hx;let ⟨i,hi⟩:=lP hb;have mr:=(bk.1 hi).1;have g:ws[i]? =V (ws[i]' W):=bJ _
  let ⟨t,T0,w',U',a1,a2,a3,a4,a5⟩:=hU.each i _ _ g hi;let ⟨_,_,e3,_,e4,_⟩:=qJ hN h0 a4 hcb;have e5:x.aq=b.aq:=by rw[e3]
  have e6:w'=w:=by have:=a4.bG;omega
  subst e6;have e7:(t:Int)=(q:Int):=aiM (ms:=ms) (by rw[a2,FB]) W
  exact ⟨_,bF g,by rw[a1.bG];exact e7,by rw[<-a5.key,<-e4];exact e2⟩
end
end
section
section
variable {u:af} {ms:cj} {ts:gg} {st:gQ} {ws us:dk} {n:Nat}
def aJQ (hn:4000000<n) (fB:n<4294967296) (hs:fo u=0) (hm:∀m∈ms,MB m/\(m.aQ=8->fq m.cg)) (hc:di u ms ts) (G9:fo ((u::ts).getLast am)=0) (dV:mu 1 ((u::ts).getLast am) st) (hf:RU st) (hw:lI u ws) (hU:Tj u ts ms ws us) (hl:O ws<=4):
  (∃r1 r2,F31 n u ⟨j1 ms u st⟩ ws=V ([],r1,0)/\F31 n ((u::ts).getLast am) ⟨st⟩ us=V ([],r2,0)/\r1.jg≠0/\r2.jg≠0)\/
  ∃a b kE,F31 n u ⟨j1 ms u st⟩ ws=V (a,⟨0,0,0,[]⟩,0)/\F31 n ((u::ts).getLast am) ⟨st⟩ us=V (b,⟨0,0,0,[]⟩,0)/\F32 n u 1 ⟨j1 ms u st⟩ a=V (⟨j1 ms u kE⟩,0)/\F32 n ((u::ts).getLast am) 1 ⟨st⟩ b=V (⟨kE⟩,0)/\mu 1 ((u::ts).getLast am) kE/\F23 n ⟨j1 ms u kE⟩ ⟨j1 ms u kE⟩=V I:=by
 have hS:=mW hs;have hN:=mW G9;have BA:=ze hs hm hc dV;have mK:=hU.ok hw;have hul:=hU.len;have hpar:=aCw hs hm hc hN dV hU;have z1:=avm (n:=n) hs W fB
 have z2:=avm (n:=n) G9 W fB
 rcases auV hS z1 BA hw W (W:2000100<=n) with ⟨r1,a1,a2,a3⟩|⟨a1,a2⟩
 .rcases auV hN z2 dV mK W (W:2000100<=n) with ⟨r2,b1,b2,b3⟩|⟨b1,b2⟩
  .exact .inl ⟨r1,r2,a1,b1,a2,b2⟩
  .let ⟨w,w1,w2⟩:=hpar.1 a3;exact absurd w2 (b2 w w1)
 .rcases auV hN z2 dV mK W (W:2000100<=n) with ⟨r2,b1,b2,b3⟩|⟨b1,b2⟩
  .let ⟨w,w1,w2⟩:=hpar.2 b3;exact absurd w2 (a2 w w1)
  .have fb:∀c∈us.filterMap (pG ((u::ts).getLast am) st),Aw 1 ((u::ts).getLast am) c/\L3 ((u::ts).getLast am) st c c.jt:=λc hc=>by
    let ⟨a,ha,hca⟩:=wW.1 hc;let ⟨t,T,hA⟩:=mK.ok a ha;let ⟨_,_,_,e1,_,e2⟩:=qJ hN dV hA hca;exact ⟨e1,e2⟩
   have fa:∀c∈ws.filterMap (pG u (j1 ms u st)),Aw 1 u c:=λc hc=>by
    let ⟨a,ha,hca⟩:=wW.1 hc;let ⟨t,T,hA⟩:=hw.ok a ha;let ⟨_,_,_,e1,_,e2⟩:=qJ hS BA hA hca;exact e1
   have la:=anH (pG u (j1 ms u st)) ws;have lb:=anH (pG ((u::ts).getLast am) st) us
   have oa:=apW hS BA hw;have ob:=apW hN dV mK;let ⟨kE,s1,s2⟩:=apx hN (us.filterMap (pG ((u::ts).getLast am) st)) 8 st (dV.b8 hf) (λc hc=>(fb c hc).1) ob λc hc=>(fb c hc).2
   have s1:=s1.g W
   have hd:=ayP hs hm hc hN dV s1 hw hU b2 s2;have aHk:=ze hs hm hc s1;exact .inr ⟨_,_,kE,a1,b1,aJb (.inl rfl) hS z1 BA aHk fa oa W hd W,aJb (.inl rfl) hN z2 dV s1 (λc hc=>(fb c hc).1) ob W s2 W,s1,aHk.same hS W⟩
end
def law8 (hbg:F17 rt=V I) (hn:4000000<rt) (fB:rt<4294967296) (rK:aN) (hb:∀x∈rK,0<=x/\x<=255):F8 rt rK=V I:=by
 let ⟨c,e1,hc⟩:=aRL rt rK 500 hb W W
 let ⟨x5,e2,h1,h2,h3,h4,ts,k,pb,ea,ek,hk⟩:=aRM rt W fB c hc
 have li:=pb.len;have G9:fo ((x5.1::ts).getLast am)=0:=by
  rcases cU.1 (IL (l:=x5.1::ts) am) with h|h
  .rw[h];exact h2.kS
  .exact pb.kS _ h
 have hSN:=mW G9;have FC:x5.1.aC<=2:=by
  let ⟨v,id,k,r1,r2,r3,ch,hp,e⟩:=h2;rw[e];exact hp.v1
 have hL:O (x5.1::ts)=O ts+1:=rfl;have D6:(x5.1::ts)[O ts]? =V ((x5.1::ts).getLast am):=by
  rw[List.getLast_eq_getElem];exact bJ am
 let ⟨v,hv,_,hcv,pW,hgl⟩:=di.drop h2.kS pb hk;have aDr:=pb.ver k v hv;have hm2:∀q∈B' k x5.2.1,MB q/\(q.aQ=8->fq q.cg):=λq hq=>h3.mem q (nh hq)
 have hSv:=mW pW;have w:ba ((O (x5.1::ts):Int)-1)=((O ts:Nat):Int):=by rw[cR (by rw[hL];omega) (by rw[hL];omega),hL];omega
 have vn:BL 1:=.inl rfl;unfold F8 aFm;rw[e1,ai,e2,ai,ea,ek,w,gx (by rw[hL];omega),ai,cN,D6,ai]
 let ⟨⟨⟨st⟩,z3⟩,e4,z1,z2,z4⟩:=aXy 1 rt W _ hSN x5.2.2.2.2 h1
 have z1:cL z3:=z1;have z2:mu 1 ((x5.1::ts).getLast am) st:=z2
 have z4:RU st:=z4;have h21:=λ(s:gQ) (hs:mu 1 ((x5.1::ts).getLast am) s)=>aXx (n:=rt) vn W fB h2.kS h3.mem W W pb hk hv hs
 have h21a:=h21 st z2;rw[<-aDr] at h21a;have hbk:eT (O (x5.1::ts)) (k:Int)=V k:=gx (by rw[hL];omega)
 have z2':=z2;rw[<-hgl] at z2';have BA:=ze pW hm2 hcv z2';have hll:=aiU (B' k x5.2.1) v st;have hSN':=hSN;rw[<-hgl] at hSN';let ⟨⟨ws1,c1⟩,e5,q1,q2,q3⟩:=aXv (n:=rt) hSv BA z1 W 4 W
 have q1:cL c1:=q1;have q2:lI v ws1:=q2;have q3:O ws1<=4:=q3;let ⟨⟨ws,c2⟩,e6,p1,p2,p3⟩:=aXw (n:=rt) hSv BA q1 q2 W W
 have p2:lI v ws:=p2;have p3:O ws=O ws1:=p3;have e5:F29 rt z3 v ⟨j1 (B' k x5.2.1) v st⟩ 4=V (ws1,c1):=e5;have e6:F28 rt c1 ⟨j1 (B' k x5.2.1) v st⟩ ws1=V (ws,c2):=e6;have e7:((O (j1 (B' k x5.2.1) v st):Int) !=(O v.ag:Int))=U:=by rw[hll];simp
 have h30:=aXu (n:=rt) W fB h2.kS h3.mem W W pb hk hv p2 W
 rw[<-aDr] at h30;simp only[e4,ai,hbk,cN,hv,h21a,iw,ay,aw,e7,e5,e6];rcases h30 with ⟨z,j,h30⟩|⟨us,h30,hU⟩
 .simp only[h30,ai,gV,az,hbg]
 have core:=aJQ hn fB pW hm2 hcv (by rw[hgl];exact G9) z2' z4 p2 hU W
 rw[hgl] at core;have f0:((0:Int)==281)=U:=rfl;simp only[h30,ai,f0,ay,aw,iw];rcases core with ⟨r1,r2,a1,a2,a3,a4⟩|⟨a,b,kE,a1,a2,a3,a4,a5,a6⟩
 .have g1:(r1.jg==0)=U:=by simpa using a3
  have g2:(r2.jg==0)=U:=by simpa using a4
  have g3:(r1.jg !=0)=I:=by simpa using a3
  simp only[a1,a2,ai,iw,ay,aw,g1,g2,gV,cO,g3,az,hbg]
 .have h21b:=h21 kE a5;rw[<-aDr] at h21b;simp only[a1,a2,a3,a4,ai,iw,ay,aw,gV,cO,h21b,az,a6,hbg]
end
def aCU {k:IntKind} {n:Int} (h:Vh (.int k n)):k.min<=n/\n<=k.max:=by
 simpa[Vh,Lit.wf] using h
def ac6:∀{ii:List (List AV)},FU ii->∀r∈ii,Ac r
 | [],_,_,h=>by simp at h
 |r::rs,h,x,hx=>by
  rcases cU.1 hx with rfl|hx
  .exact h.1
  .exact ac6 h.2 x hx
def atO (h:Vh (.tN 5 1 (O rK) (BW rK))):∀x∈rK,0<=x/\x<=255:=by
 intro x hx;have h1:=ac6 (show FU (BW rK) from h) (NI x) (dL.2 ⟨x,hx,rfl⟩);have h2:=aCU (show Vh (.int .u8 x) from h1.1);simpa[IntKind.min,IntKind.max,IntKind.signed,IntKind.bits] using h2
def aMw (y0:aN) (h0:Ac [.tN 5 1 (O y0) (BW y0)]) (hb:oP [.tN 5 1 (O y0) (BW y0)]<=1048576):∃n,F8 n y0=V I:=⟨5000000,law8 5000000 bv W W y0 (atO h0.1)⟩
end Go.Proofs.YtbnkhmoelnfjoaaGreat
end
