/- Part. -/
import Derived.Test.YtbnkhmoelnfjoaaGreatP4
set_option linter.all false
noncomputable section
namespace Go.bQ
variable {bs cC:bH} {k f K m new j n lo0:Nat} {xs ys R:aB} {y x z:AV} {w wn:Bool} {h' hh h2:Hs} {aa:aM} {Hd:Nat->Prop} {bV rk fs:aI} {fn:Func} {rec:j7->Out} {d:da} {rc:Rc} {v:SV} {us:cQ} {t:TypeId} {F2:Hf} {g2:Gb} {φ2:cS} {s2 sl st:LS} {tm2:Tf} {Y:Type} {q:Nat×Nat} {p:Bx×AV} {rows Q':aT} {lo:Int} {es:List (AV×AV)}
section
variable {F F':Hf} {g g':Gb} {B:Bs} {J:cS} {s s' s1:LS} {tm:Tf} {h:Hs} {hp:Hf} {E:Env} {nt:Nat} {all l:bS}
variable {b:Bx} {i:Nat}
def gi (k:Nat) (bs:bH):Bool:=iu k||bs.any λp=>Nat.beq (fN p.1) (fN k)
def u9 (F:Hf) (g:Gb) (J:cS) (bs:bH) (h:Hs):Bs:=⟨h.hp.get,F,g,h.nx,λk=>gi k bs,λk=> @Option.rec Bx (λ_=>aI) [] (λ_=>J k) (lk k bs)⟩
def ais (h:lk k bs=some b):gi k bs=true:=(oG _ _).mpr (.inr (LA.2 ⟨(k,b),nX h,(beq_iff _ _).2 rfl⟩))
def mV {F:Hf} {g:Gb} {J:cS} {h:Hs} (hp:(u9 F g J bs h).ps k i):∃k' b,fN k'=fN k/\lk k' bs=some b/\i∈J k':=by
 let ⟨_,k',e,hi⟩:=hp;have hi:i∈ @Option.rec Bx (λ_=>aI) [] (λ_=>J k') (lk k' bs):=hi
 cases hl:lk k' bs with
 |none=>rw[hl] at hi;cases hi
 |some b=>rw[hl] at hi;exact ⟨k',b,e,hl,hi⟩
def nC {F:Hf} {g:Gb} {J:cS} {h:Hs} (hb:lk k bs=some b) (hi:i∈J k):(u9 F g J bs h).ps k i:=⟨ais hb,k,rfl,by
 show i∈ @Option.rec Bx (λ_=>aI) [] (λ_=>J k) (lk k bs)
 rw[hb];exact hi⟩
def aBl {F:Hf} {g:Gb} {J:cS} {h:Hs} (hb:lk k bs=some b) (he:lA k=true):(u9 F g J bs h).pn k=true:=by
 show ay (gi k bs) (lA k) false=true;rw[ais hb];exact he
def yi (F:Hf) (g:Gb) (J:cS) (bs:bH) (h:Hs):Prop:=Rel (u9 F g J bs h) F g J ⟨[],bs⟩ (λ_=>none) ⟨h.hp,h.nx,[]⟩
structure bP (E:Env) (f:Nat) (bs:bH) (xs:aB) (y:AV) (cC:bH):Prop where
 go:∀{F:Hf} {g:Gb} {J:cS} {h:Hs} {aa:aM},yi F g J bs h->bZ F g aa xs->∃(F':Hf) (g':Gb) (φ':cS) (h1:Hs) (v:SV),df E (.call (.fn (.func f) [] []) aa h) (.gg [⟨false,v,⟨h1.hp,h1.nx,below h.nx h1.lg h.lg⟩⟩])/\VA F' g' v y/\Rel (u9 F g J bs h) F' g' φ' ⟨[],cC⟩ (λ_=>none) h1
structure xV (E:Env) (f:Nat) (bs:bH) (xs:aB) (y:AV) (cC:bH) (w:aI):Prop where
 go:∀{F:Hf} {g:Gb} {J:cS} {h:Hs} {aa:aM},yi F g J bs h->bZ F g aa xs->∃(F':Hf) (g':Gb) (φ':cS) (h1:Hs) (v:SV),df E (.call (.fn (.func f) [] []) aa h) (.gg [⟨false,v,⟨h1.hp,h1.nx,below h.nx h1.lg h.lg⟩⟩])/\VA F' g' v y/\Rel (u9 F g J bs h) F' g' φ' ⟨[],cC⟩ (λ_=>none) h1/\∀x∈h1.lg,x<h.nx->∃k∈w,∃b,lk k bs=some b/\x∈J k
def xV.ok {E:Env} {w:aI} (h:xV E f bs xs y cC w):bP E f bs xs y cC:=.mk λe a=>by
 let ⟨F',g',φ',h1,v,a,b,c,_⟩:=h.go e a;exact ⟨F',g',φ',h1,v,a,b,c⟩
def bP.L {E:Env} (h:bP E f bs xs y cC):xV E f bs xs y cC (bs.map (·.1)):=.mk λ{F g J hh aa} e a=>by
 let ⟨F',g',φ',h1,v,a,b,c⟩:=h.go e a;refine ⟨F',g',φ',h1,v,a,b,c,λx hx bD=> ?_⟩
 rcases c.lg x hx with ⟨k,hp⟩|hp
 ·let ⟨k',b',_,cn,hi⟩:=mV hp;exact ⟨k',dS.2 ⟨_,nX cn,rfl⟩,b',cn,hi⟩
 ·have hp:hh.nx<=x:=hp;omega
structure MZ (E:Env) (f:Nat) (bs:bH) (xs:aB) (y:AV):Prop where
 go:∀{F:Hf} {g:Gb} {J:cS} {h:Hs} {aa:aM},yi F g J bs h->bZ F g aa xs->∃(h1:Hs) (v:SV),df E (.call (.fn (.func f) [] []) aa h) (.gg [⟨false,v,⟨h1.hp,h1.nx,below h.nx h1.lg h.lg⟩⟩])/\VA F g v y/\h.nx<=h1.nx/\(∀x,x<h.nx->h1.hp.get x=h.hp.get x)/\(∀x,h1.nx<=x->h1.hp.get x=none)/\∀x∈h1.lg,h.nx<=x
def Rel.grow (r:Rel B F g J s tm h) (hn:h.nx<=h'.nx) (hold:∀x,x<h.nx->h'.hp.get x=h.hp.get x) (hO:∀x,h'.nx<=x->h'.hp.get x=none) (hl:∀x∈h'.lg,x∈h.lg\/h.nx<=x):Rel B F g J s tm h':=
 {r with
  bx:=λk b hb=>(r.bx k b hb).keep (gq.refl F) λi hi=>hold i (r.lt hb i hi)
  sub:=λi o ho=>(hold i (r.flt ho)).trans (r.sub i o ho)
  bd:=hO
  nx:=iL r.nx hn
  old:=λx hx hp=>(hold x (mA hx r.nx)).trans (r.old x hx hp)
  lg:=λx hx=>(hl x hx).elim (r.lg x) λc=>.inr (iL r.nx c)}
abbrev cy:=List (Nat×Nat)
def oi (al:cy):cy:=al.map λq=>(q.2,q.1)
def oD (al:cy) (K:Nat):Nat:= @Option.rec Nat (λ_=>Nat) K (λk=>k) (lk K al)
def jU (al:cy) (k:Nat):Nat:=oD (oi al) k
def kz (l:cy) (K:Nat):Bool:= @Option.rec Nat (λ_=>Bool) false (λ_=>true) (lk K l)
def lO (l:cy) (ks:aI):Bool:=ks.all (kz l)
def tv (al:cy):Bool:=al.all λq=>Nat.beq (oD al q.1) q.2&&(kz al q.1&&(Nat.beq (jU al q.2) q.1&&kz (oi al) q.2))
def te (bs:bH) (al:cy):cy->Option bH
 | []=>some []
 |q::l=>bE (lk q.1 bs) (te bs al l) λb r=>some ((q.2,b.fO (oD al))::r)
def G1 (cC:bH) (al:cy):cy->Option bH
 | []=>some []
 |q::l=>bE (lk q.2 cC) (G1 cC al l) λb r=>some ((q.1,b.fO (jU al))::r)
def idP (al:cy) (k:Nat):Bool:=iu k&&(!kz al k && !kz (oi al) k)
def ti (bs:bH) (al ps:cy):cy->Bool
 | []=>true
 |q::l=>(match lk q.1 bs with|some b=>b.keys.all λk=>kz ps k||idP al k|none=>false)&&ti bs al ps l
def A8 (ps:cy) (cC:bH) (al:cy):cy->Bool
 | []=>true
 |q::l=>(match lk q.2 cC with|some b=>b.keys.all λk=>kz (oi al) k||(idP al k&&lA k)|none=>false)&&A8 ps cC al l
def wj {l:cy} (h:kz l K=true):∃k,lk K l=some k:=by
 unfold kz at h;cases hl:lk K l with
 |none=>rw[hl] at h;cases h
 |some k=>exact ⟨k,rfl⟩
def vx {l:cy} (h:lk K l=some k):oD l K=k:=by unfold oD;rw[h]
def aim {al:cy} (hg:tv al=true) (h:lk K al=some k):lk k (oi al)=some K:=by
 have:=(dV.1 hg) (K,k) (nX h);rw[aY,aY,aY] at this;let ⟨_,_,h3,h4⟩:=this;let ⟨j,hj⟩:=wj h4;have:jU al k=j:=vx hj;rw[hj,<-this];exact bA some ((beq_iff _ _).1 h3)
def apv {al:cy} (hg:tv al=true) (h:lk k (oi al)=some K):lk K al=some k:=by
 let ⟨q,hq,he⟩:=dS.1 (nX h);have:=(dV.1 hg) q hq;rw[aY,aY,aY] at this;let ⟨h1,h2,_,_⟩:=this;cases he;let ⟨j,hj⟩:=wj h2;have:oD al q.1=j:=vx hj;rw[hj,<-this];exact bA some ((beq_iff _ _).1 h1)
def wS {Y:Type} (t:Nat) (b:List (Nat×Y)):∀a:List (Nat×Y),lk t (a++b)=(lk t a).or (lk t b)
 | []=>rfl
 |(k,x)::a=>by
  rw[Lz,cr,cr];split
  ·rfl
  ·exact wS t b a
def Um {bs:bH} {al:cy}:∀{l:cy} {r:bH} {k:Nat} {b':Bx},te bs al l=some r->lk k r=some b'->∃K b,(K,k)∈l/\lk K bs=some b/\b'=b.fO (oD al)
 | [],r,k,b',h,hk=>by cases h;cases hk
 |q::l,r,k,b',h,hk=>by
  let ⟨b,r',h1,h2,h3⟩:=bc h;cases h3;rw[cr] at hk;split at hk
  ·rename_i e;cases hk;exact ⟨q.1,b,by rw[e];exact gw,h1,rfl⟩
  ·let ⟨K,b0,m1,m2,m3⟩:=Um h2 hk;exact ⟨K,b0,dR _ m1,m2,m3⟩
def aaB {bs:bH} {al:cy}:∀{l:cy} {r:bH} {K k:Nat},te bs al l=some r->(K,k)∈l->∃b,lk k r=some b
 | [],r,K,k,h,hk=>by cases hk
 |q::l,r,K,k,h,hk=>by
  let ⟨b,r',h1,h2,h3⟩:=bc h;cases h3;rw[cr];split
  ·exact ⟨_,rfl⟩
  ·rename_i e;rcases bB.1 hk with rfl|hk
   ·exact absurd rfl e
   ·exact aaB h2 hk
def ape {cC:bH} {al:cy}:∀{l:cy} {r:bH} {K:Nat} {b':Bx},G1 cC al l=some r->lk K r=some b'->∃k b,(K,k)∈l/\lk k cC=some b/\b'=b.fO (jU al)
 | [],r,K,b',h,hk=>by cases h;cases hk
 |q::l,r,K,b',h,hk=>by
  let ⟨b,r',h1,h2,h3⟩:=bc h;cases h3;rw[cr] at hk;split at hk
  ·rename_i e;cases hk;exact ⟨q.2,b,by rw[e];exact gw,h1,rfl⟩
  ·let ⟨k,b0,m1,m2,m3⟩:=ape h2 hk;exact ⟨k,b0,dR _ m1,m2,m3⟩
def aaC {cC:bH} {al:cy}:∀{l:cy} {r:bH} {K:Nat},G1 cC al l=some r->lk K r=none->lk K l=none
 | [],r,K,h,hk=>rfl
 |q::l,r,K,h,hk=>by
  let ⟨b,r',h1,h2,h3⟩:=bc h;cases h3;rw[cr] at hk;rw[show q::l=(q.1,q.2)::l from rfl,cr];split at hk
  ·cases hk
  ·rename_i e;rw[aA e];exact aaC h2 hk
def V4 {bs:bH} {al ps:cy}:∀{l:cy} {K k:Nat} {b:Bx},ti bs al ps l=true->(K,k)∈l->lk K bs=some b->(b.keys.all λk=>kz ps k||idP al k)=true
 |q::l,K,k,b,h,hm,hb=>by
  have h:=qZ.1 (show ((match lk q.1 bs with|some b=>b.keys.all λk=>kz ps k||idP al k|none=>false)&&ti bs al ps l)=true from h)
  rcases bB.1 hm with rfl|hm
  ·have:=h.1;rw[hb] at this;exact this
  ·exact V4 h.2 hm hb
def V3 {ps:cy} {cC:bH} {al:cy}:∀{l:cy} {K k:Nat} {b:Bx},A8 ps cC al l=true->(K,k)∈l->lk k cC=some b->(b.keys.all λk=>kz (oi al) k||(idP al k&&lA k))=true
 |q::l,K,k,b,h,hm,hb=>by
  have h:=qZ.1 (show ((match lk q.2 cC with|some b=>b.keys.all λk=>kz (oi al) k||(idP al k&&lA k)|none=>false)&&A8 ps cC al l)=true from h)
  rcases bB.1 hm with rfl|hm
  ·have:=h.1;rw[hb] at this;exact this
  ·exact V3 h.2 hm hb
def noP {l:cy} (h:(!kz l k)=true):lk k l=none:=by
 cases hl:lk k l with
 |none=>rfl
 |some j=>
  have:kz l k=true:=by unfold kz;rw[hl]
  rw[this] at h;cases h
def abC {al:cy} (h:idP al k=true):lk k al=none/\lk k (oi al)=none:=by
 have h:=qZ.1 (show (iu k&&(!kz al k && !kz (oi al) k))=true from h);have h2:=qZ.1 h.2;exact ⟨noP h2.1,noP h2.2⟩
def Kg {l:cy} (h:lk k l=none):oD l k=k:=by unfold oD;rw[h]
def lL {al:cy} (hg:tv al=true) (h:(K,k)∈al):lk K al=some k:=by
 have:=(dV.1 hg) (K,k) h;rw[aY,aY,aY] at this;let ⟨h1,h2,_,_⟩:=this;let ⟨j,hj⟩:=wj h2;have:oD al K=j:=vx hj;rw[hj,<-this];exact bA some ((beq_iff _ _).1 h1)
def gcC (g:Gb) (al:cy):Gb:=⟨λk=>g.Z (jU al k),λk=>g.κ (jU al k),λk=>g.O (jU al k)⟩
def Rel.dK (r:Rel B F g J s tm h) {ps rs:cy} (hh0:∀x,¬Hd x->hh.hp.get x=h.hp.get x) (JX:∀x,Hd x->hh.hp.get x=none/\F x=none/\x<h.nx/\∀K k b,(K,k)∈ps->lk K s.bs=some b->x∉J K) (hhx:hh.nx=h.nx) (hg:tv (ps++rs)=true) (pD:te s.bs (ps++rs) ps=some bs) (Cm:ti s.bs (ps++rs) ps ps=true) (rG:lO ps (eW xs)=true) (has:bZ F g aa xs):
  yi F (gcC g (ps++rs)) (λk=>J (jU (ps++rs) k)) bs hh/\bZ F (gcC g (ps++rs)) aa (l3 (oD (ps++rs)) xs):=by
 generalize hal:ps++rs=al at*;have vr:∀{q},q∈ps->q∈al:=λhq=>by rw[<-hal];exact eJ _ hq
 let gc:Gb:=gcC g al;let φc:cS:=λk=>J (jU al k)
 have aS:∀{K k},lk K al=some k->jU al k=K:=λhK=>vx (aim hg hK)
 have ju:∀ks,lO ps ks=true->qF g gc (oD al) ks:=λks hk k oC=>by
  let ⟨j,hj⟩:=wj ((dV.1 hk) k oC);have jB:=lL hg (vr (nX hj));rw[vx jB];have:=aS jB;exact ⟨bA g.Z this,bA g.κ this,bA g.O this⟩
 have hinB:∀ks:aI,(ks.all λk=>kz ps k||idP al k)=true->qF g gc (oD al) ks:=λks hk k oC=>by
  rcases (oG _ _).mp ((dV.1 hk) k oC) with c|c
  ·exact ju [k] (by show ([k].all (kz ps))=true;simp[c]) k (by simp)
  ·let ⟨c1,c2⟩:=abC c;have e1:oD al k=k:=Kg c1;have e2:jU al k=k:=Kg c2;rw[e1];exact ⟨bA g.Z e2,bA g.κ e2,bA g.O e2⟩
 have vw:∀{k b'},lk k bs=some b'->∃K b,(K,k)∈ps/\lk K s.bs=some b/\b'=b.fO (oD al)/\jU al k=K:=λhk=>by
  let ⟨K,b,m1,m2,m3⟩:=Um pD hk;exact ⟨K,b,m1,m2,m3,aS (lL hg (vr m1))⟩
 have PY:∀{K k b},(K,k)∈ps->lk K s.bs=some b->∀i∈J K,hh.hp.get i=h.hp.get i:=λm1 m2 i hi=>hh0 i λe=>(JX i e).2.2.2 _ _ _ m1 m2 hi
 have dK:yi F gc φc bs hh:=by
  refine ⟨λt x hx=>(by cases hx),λk b' hk=> ?_,λk k' b1 b2 hk gO bY i hi=> ?_,λk b' hk i hi=> ?_,λi o ho=> ?_,λx hx=> ?_,cF _,λx _ _=>rfl,gq.refl F,λ_ _ ho=>.inl ho,λk b' hk i hi=>.inl (nC hk hi),λx hx=>(by cases hx),λk _ j hj=>⟨rfl,rfl,rfl⟩⟩
  ·obtain ⟨K,b,m1,m2,rfl,m4⟩:=vw hk;have hK:=lL hg (vr m1);have q:=((r.bx K b m2).keep (h':=hh.hp.get) (gq.refl F) λi hi=>PY m1 m2 i hi).fO (g':=gc) (f:=oD al) (λj hj=>by rw[cB.1 hj,vx hK];exact ⟨bA g.Z m4,bA g.κ m4,bA g.O m4⟩) (hinB _ (V4 Cm m1 m2))
   rw[vx hK] at q;show fC F gc hh.hp.get k _ (J (jU al k));rw[m4];exact q
  ·let ⟨K,b,m1,m2,_,m4⟩:=vw hk;let ⟨K',b',m1',m2',_,m4'⟩:=vw gO;have hi:i∈J (jU al k):=hi;show i∉J (jU al k');rw[m4] at hi;rw[m4'];refine r.dj K K' b b' m2 m2' (λe=>bY ?_) i hi
   have e1:=lL hg (vr m1);have e2:=lL hg (vr m1');rw[e,e2] at e1;exact (ux e1).symm
  ·let ⟨K,b,m1,m2,_,m4⟩:=vw hk;have hi:i∈J (jU al k):=hi;rw[m4] at hi;exact r.nf K b m2 i hi
  ·exact (hh0 i λe=>by rw[(JX i e).2.1] at ho;cases ho).trans (r.sub i o ho)
  ·have hx:h.nx<=x:=by rw[<-hhx];exact hx
   exact (hh0 x λe=>by have:=(JX x e).2.2.1;omega).trans (r.bd x hx)
 exact ⟨dK,has.fO (ju _ rG)⟩
def Rel.call (r:Rel B F g J s tm h) {ps rs:cy} {bs cC ob:bH} {xs:aB} {y:AV} {aa:aM} {f:Nat} {hh:Hs} {Hd:Nat->Prop} (hh0:∀x,¬Hd x->hh.hp.get x=h.hp.get x) (JX:∀x,Hd x->hh.hp.get x=none/\F x=none/\x<h.nx/\∀K k b,(K,k)∈ps->lk K s.bs=some b->x∉J K) (hhx:hh.nx=h.nx) (hg:tv (ps++rs)=true) (pD:te s.bs (ps++rs) ps=some bs) (Cm:ti s.bs (ps++rs) ps ps=true) (rG:lO ps (eW xs)=true) (has:bZ F g aa xs)
  (hrs:∀q∈rs,s.free q.1/\B.pk q.1=false/\lk q.1 s.bs=none) (Iw:∀q∈ps,lA q.2=false->B.pn q.1=false/\(∀t x,lk t s.ts=some x->q.1∉dE x)/\∀k b,lk k s.bs=some b->lk k (ps++rs)=none->q.1∉b.keys) (N6:∀q∈ps++rs,∀q'∈ps,fN q'.2=fN q.2->∀i,B.ps q'.1 i\/B.nx<=i->B.ps q.1 i\/B.nx<=i) {w:aI} (hc:xV E f bs (l3 (oD (ps++rs)) xs) y cC w) (hob:G1 cC (ps++rs) (ps++rs)=some ob) (JU:A8 ps cC (ps++rs) (ps++rs)=true) (Fz:lO (oi (ps++rs)) (dE y)=true):
  ∃(F':Hf) (g':Gb) (φ':cS) (h1:Hs) (v:SV),df E (.call (.fn (.func f) [] []) aa hh) (.gg [⟨false,v,⟨h1.hp,h1.nx,below hh.nx h1.lg hh.lg⟩⟩])/\VA F' g' v (nw (jU (ps++rs)) y)/\
   (∀h',(∀x,¬Hd x->h'.hp.get x=h1.hp.get x)->(∀x,Hd x->h'.hp.get x=h.hp.get x)->h'.nx=h1.nx->(∀x∈h'.lg,x∈h.lg\/(x∈h1.lg/\x<h.nx))->Rel B F' g' φ' ⟨s.ts,ob++s.bs⟩ tm h')/\
   gq F F'/\(∀id o,F' id=some o->F id=some o\/h.nx<=id)/\h.nx<=h1.nx/\(∀x∈h1.lg,x<h.nx->∃K k b,k∈w/\(K,k)∈ps/\lk K s.bs=some b/\x∈J K)/\
   (∀k b,lk k (ob++s.bs)=some b->∀i∈φ' k,(i<h.nx/\((∃b,lk k s.bs=some b/\i∈J k)\/∃j K' k' b',(k,j)∈ps++rs/\(K',k')∈ps/\fN k'=fN j/\lk K' s.bs=some b'/\i∈J K'))\/h.nx<=i)/\(∀ks:aI,(∀q∈rs,q.1∉ks)->(∀q∈ps,lA q.2=false->q.1∉ks)->kg g g' ks)/\(∀K,lk K (ps++rs)=none->φ' K=J K)/\
   ∀x,x<h.nx->(∀K k b,(K,k)∈ps->lk K s.bs=some b->x∉J K)->h1.hp.get x=hh.hp.get x:=by
 generalize hal:ps++rs=al at*;have vr:∀{q},q∈ps->q∈al:=λhq=>by rw[<-hal];exact eJ _ hq
 have aDR:∀{q},q∈rs->q∈al:=λhq=>by rw[<-hal];exact ez _ hq
 let gc:Gb:=⟨λk=>g.Z (jU al k),λk=>g.κ (jU al k),λk=>g.O (jU al k)⟩
 let φc:cS:=λk=>J (jU al k)
 have aS:∀{K k},lk K al=some k->jU al k=K:=λhK=>vx (aim hg hK)
 have ju:∀ks,lO ps ks=true->qF g gc (oD al) ks:=λks hk k oC=>by
  let ⟨j,hj⟩:=wj ((dV.1 hk) k oC);have jB:=lL hg (vr (nX hj));rw[vx jB];have:=aS jB;exact ⟨bA g.Z this,bA g.κ this,bA g.O this⟩
 have hinB:∀ks:aI,(ks.all λk=>kz ps k||idP al k)=true->qF g gc (oD al) ks:=λks hk k oC=>by
  rcases (oG _ _).mp ((dV.1 hk) k oC) with c|c
  ·exact ju [k] (by show ([k].all (kz ps))=true;simp[c]) k (by simp)
  ·let ⟨c1,c2⟩:=abC c;have e1:oD al k=k:=Kg c1;have e2:jU al k=k:=Kg c2;rw[e1];exact ⟨bA g.Z e2,bA g.κ e2,bA g.O e2⟩
 have vw:∀{k b'},lk k bs=some b'->∃K b,(K,k)∈ps/\lk K s.bs=some b/\b'=b.fO (oD al)/\jU al k=K:=λhk=>by
  let ⟨K,b,m1,m2,m3⟩:=Um pD hk;exact ⟨K,b,m1,m2,m3,aS (lL hg (vr m1))⟩
 have dK:yi F gc φc bs hh:=by
  have q:=(r.dK (rs:=rs) hh0 JX hhx (by rw[hal];exact hg) (by rw[hal];exact pD) (by rw[hal];exact Cm) rG has).1
  rw[hal] at q;exact q
 let ⟨F',g',φ',h1,v,go,hv,r1,rlg⟩:=hc.go dK (has.fO (ju _ rG));let rw':cy:=rs;let g2:Gb:=⟨λK=> @Option.rec Nat (λ_=>Nat) (g.Z K) (λk=>g'.Z k) (lk K al),λK=> @Option.rec Nat (λ_=>Cp) (g.κ K) (λk=>g'.κ k) (lk K al),λK=> @Option.rec Nat (λ_=>Bool) (g.O K) (λk=>g'.O k) (lk K al)⟩
 let φ2:cS:=λK=> @Option.rec Nat (λ_=>aI) (J K) (λk=>φ' k) (lk K al)
 have auF:∀{K k},lk K al=some k->g2.Z K=g'.Z k/\g2.κ K=g'.κ k/\g2.O K=g'.O k:=λ{K k} hK=>by
  show @Option.rec Nat (λ_=>Nat) (g.Z K) (λk=>g'.Z k) (lk K al)=_/\ @Option.rec Nat (λ_=>Cp) (g.κ K) (λk=>g'.κ k) (lk K al)=_/\ @Option.rec Nat (λ_=>Bool) (g.O K) (λk=>g'.O k) (lk K al)=_
  rw[hK];exact ⟨rfl,rfl,rfl⟩
 have auE:∀{K},lk K al=none->g2.Z K=g.Z K/\g2.κ K=g.κ K/\g2.O K=g.O K:=λ{K} hK=>by
  show @Option.rec Nat (λ_=>Nat) (g.Z K) (λk=>g'.Z k) (lk K al)=_/\ @Option.rec Nat (λ_=>Cp) (g.κ K) (λk=>g'.κ k) (lk K al)=_/\ @Option.rec Nat (λ_=>Bool) (g.O K) (λk=>g'.O k) (lk K al)=_
  rw[hK];exact ⟨rfl,rfl,rfl⟩
 have C9:∀{K k},lk K al=some k->φ2 K=φ' k:=λ{K k} hK=>by
  show @Option.rec Nat (λ_=>aI) (J K) (λk=>φ' k) (lk K al)=_
  rw[hK]
 have AU:∀{K},lk K al=none->φ2 K=J K:=λ{K} hK=>by
  show @Option.rec Nat (λ_=>aI) (J K) (λk=>φ' k) (lk K al)=_
  rw[hK]
 have g2ps:∀{K k},(K,k)∈ps->lA k=true->g2.Z K=g.Z K/\g2.κ K=g.κ K/\g2.O K=g.O K:=λ{K k} hq he=>by
  have hK:=lL hg (vr hq);let ⟨a1,a2,a3⟩:=auF hK;let ⟨b,hb⟩:=aaB pD hq;let ⟨c1,c2,c3⟩:=r1.Ip k (aBl hb he) k (by simp)
  have hb:=aS hK;exact ⟨a1.trans (c1.trans (bA g.Z hb)),a2.trans (c2.trans (bA g.κ hb)),a3.trans (c3.trans (bA g.O hb))⟩
 have hgs:∀ks:aI,(∀q∈rs,q.1∉ks)->(∀q∈ps,lA q.2=false->q.1∉ks)->kg g g2 ks:=λks hk yd K hK=>by
  cases hl:lk K al with
  |none=>exact auE hl
  |some k=>
   have hm:=nX hl;rw[<-hal] at hm;rcases ee.1 hm with hm|hm
   ·cases he:lA k with
    |true=>exact g2ps hm he
    |false=>exact absurd hK (yd _ hm he)
   ·exact absurd hK (hk _ hm)
 have alF:∀ks,lO (oi al) ks=true->qF g' g2 (jU al) ks:=λks hk k oC=>by
  let ⟨K,hK⟩:=wj ((dV.1 hk) k oC);have e:jU al k=K:=vx hK;rw[e];exact auF (apv hg hK)
 have aIi:∀ks:aI,(ks.all λk=>kz (oi al) k||(idP al k&&lA k))=true->qF g' g2 (jU al) ks:=λks hk k oC=>by
  rcases (oG _ _).mp ((dV.1 hk) k oC) with c|c
  ·exact alF [k] (by show ([k].all (kz (oi al)))=true;simp[c]) k (by simp)
  ·rw[aY] at c;let ⟨c0,c3⟩:=c;have cb:iu k=true:=(qZ.1 c0).1;let ⟨c1,c2⟩:=abC c0;have e2:jU al k=k:=Kg c2;rw[e2];have hR:gi k bs=true:=(oG _ _).mpr (.inl cb);let ⟨p1,p2,p3⟩:=r1.Ip k (by show ay (gi k bs) (lA k) false=true;rw[hR];exact c3) k (by simp)
   let ⟨n1,n2,n3⟩:=auE c1;have p1:g'.Z k=gc.Z k:=p1;have p2:g'.κ k=gc.κ k:=p2;have p3:g'.O k=gc.O k:=p3;have q1:gc.Z k=g.Z k:=bA g.Z e2;have q2:gc.κ k=g.κ k:=bA g.κ e2;have q3:gc.O k=g.O k:=bA g.O e2;exact ⟨n1.trans (p1.trans q1).symm,n2.trans (p2.trans q2).symm,n3.trans (p3.trans q3).symm⟩
 have Iu:∀{K b},lk K (ob++s.bs)=some b->(∃k b0,(K,k)∈al/\lk k cC=some b0/\b=b0.fO (jU al))\/(lk K al=none/\lk K s.bs=some b):=λ{K b} hK=>by
  rw[wS] at hK;cases ho:lk K ob with
  |none=>rw[ho] at hK;exact .inr ⟨aaC hob ho,hK⟩
  |some b1=>
   rw[ho] at hK;cases hK;exact .inl (ape hob ho)
 have Pu:∀{K k b0},(K,k)∈al->lk k cC=some b0->∀i∈φ' k,(i<h.nx/\∃K' k' b',(K',k')∈ps/\fN k'=fN k/\lk K' s.bs=some b'/\i∈J K')\/h.nx<=i:=λ{K k b0} hm hb i hi=>by
  rcases r1.l6 k b0 hb i hi with c|c
  ·let ⟨k',b',e,cn,c2⟩:=mV c;let ⟨K',b,m1,m2,_,m4⟩:=vw cn;have c2:i∈J (jU al k'):=c2;rw[m4] at c2;exact .inl ⟨r.lt m2 i c2,K',k',b,m1,e,m2,c2⟩
  ·exact .inr (by rw[<-hhx];exact c)
 have hold:∀x,x<h.nx->(∀K k b,(K,k)∈ps->lk K s.bs=some b->x∉J K)->h1.hp.get x=hh.hp.get x:=λx hx mY=>r1.old x (show x<hh.nx by rw[hhx];exact hx) λk hp=>by
  let ⟨k',b',e,cn,c2⟩:=mV hp;let ⟨K',b,m1,m2,_,m4⟩:=vw cn;have c2:x∈J (jU al k'):=c2;rw[m4] at c2;exact mY K' k' b m1 m2 c2
 refine ⟨F',g2,φ2,h1,v,go,hv.fO (alF _ Fz),λh' Fv AH gC hl'=> ?_,r1.f0,λid o ho=> ?_,?_,λx hx bD=> ?_,λK b hK i hi=> ?_,hgs,λK hK=>AU hK,hold⟩
 rotate_left
 ·rcases r1.fn id o ho with c|c
  ·exact .inl c
  ·exact .inr (by rw[<-hhx];exact c)
 ·have:hh.nx<=h1.nx:=r1.nx;omega
 ·let ⟨k',hw,b',cn,c2⟩:=rlg x hx (by rw[hhx];exact bD)
  let ⟨K',b,m1,m2,_,m4⟩:=vw cn;have c2:x∈J (jU al k'):=c2;rw[m4] at c2;exact ⟨K',k',b,hw,m1,m2,c2⟩
 ·rcases Iu hK with ⟨k,b0,m1,m2,_⟩|⟨m1,m2⟩
  ·rw[C9 (lL hg m1)] at hi;rcases Pu m1 m2 i hi with ⟨c1,K',k',b',d1,d2,d3,d4⟩|c
   ·exact .inl ⟨c1,.inr ⟨k,K',k',b',m1,d1,d2,d3,d4⟩⟩
   ·exact .inr c
  ·rw[AU m1] at hi;exact .inl ⟨r.lt m2 i hi,.inl ⟨b,m2,hi⟩⟩
 have Ju:h.nx<=h1.nx:=by have:hh.nx<=h1.nx:=r1.nx;omega
 have AK:∀{K k b0},(K,k)∈al->lk k cC=some b0->∀i∈φ' k,h'.hp.get i=h1.hp.get i:=λhm hb i hi=>Fv i λe=>by
  rcases Pu hm hb i hi with ⟨_,K',k',b,m1,_,m2,m3⟩|c
  ·exact (JX i e).2.2.2 _ _ _ m1 m2 m3
  ·have:=(JX i e).2.2.1;omega
 have axg:∀x,x<h.nx->(∀K k b,(K,k)∈ps->lk K s.bs=some b->x∉J K)->h'.hp.get x=h.hp.get x:=λx hx mY=>by
  by_cases e:Hd x
  ·exact AH x e
  ·rw[Fv x e,hold x hx mY,hh0 x e]
 have auk:∀{K},lk K al=none->∀{b},lk K s.bs=some b->∀i∈J K,∀K' k' b',(K',k')∈ps->lk K' s.bs=some b'->i∉J K':=λ{K} hK {b} hb i hi K' k' b' hp cn=>r.dj K K' b b' hb cn (λe=>by
  have:=lL hg (vr hp);rw[<-e,hK] at this;cases this) i hi
 have hF0:∀{i},i<h.nx->F i=none->F' i=none:=λ{i} bD hf=>by
  cases hF':F' i with
  |none=>rfl
  |some o=>
   rcases r1.fn i o hF' with c|c
   ·have c:F i=some o:=c;rw[hf] at c;cases c
   ·have c:hh.nx<=i:=c;omega
 refine ⟨λt x hx hn=> ?_,λK b hK=> ?_,λK K' b b2 hK hK' bY i hi=> ?_,λK b hK i hi=> ?_,λi o ho=> ?_,λx hx=> ?_,?_,λx hx hp=> ?_,r.f0.trans r1.f0,λid o ho=> ?_,λK b hK i hi=> ?_,λx hx=> ?_,λK hK=> ?_⟩
 ·let ⟨v,v1,v2⟩:=r.tm t x hx hn;exact ⟨v,v1,(v2.mono r1.f0).gb (hgs _ (λq hq=>(hrs q hq).1.1 t x hx) λq hq he=>(Iw q hq he).2.1 t x hx)⟩
 ·rcases Iu hK with ⟨k,b0,m1,m2,rfl⟩|⟨m1,m2⟩
  ·have hKl:=lL hg m1;rw[C9 hKl];have q:=((r1.bx k b0 m2).keep (h':=h'.hp.get) (gq.refl F') λi hi=>AK m1 m2 i hi).fO (g':=g2) (f:=jU al) (λj hj=>by rw[cB.1 hj,aS hKl];exact auF hKl) (aIi _ (V3 JU m1 m2))
   rwa[aS hKl] at q
  ·rw[AU m1];have q:=((r.bx K b m2).keep (h':=h'.hp.get) r1.f0 λi hi=>axg i (r.lt m2 i hi) (auk m1 m2 i hi))
   exact q.gb (λj hj=>by rw[cB.1 hj];exact auE m1) (hgs _ (λq hq=>λhc=>(hrs q hq).1.2 K b (λe=>by have:=lL hg (aDR (show (q.1,q.2)∈rs from hq));rw[<-e,m1] at this;cases this) m2 hc) λq hq he=>(Iw q hq he).2.2 K b m2 m1)
 ·rcases Iu hK with ⟨k,b0,m1,m2,_⟩|⟨m1,m2⟩<;>rcases Iu hK' with ⟨k',b0',m1',m2',_⟩|⟨m1',m2'⟩
  ·rw[C9 (lL hg m1)] at hi;rw[C9 (lL hg m1')];refine r1.dj k k' b0 b0' m2 m2' (λe=>bY ?_) i hi
   have e1:=aS (lL hg m1);have e2:=aS (lL hg m1');rw[<-e1,<-e2,e]
  ·rw[C9 (lL hg m1)] at hi;rw[AU m1'];intro hc;rcases Pu m1 m2 i hi with ⟨_,K3,k3,b3,c1,_,c2,c3⟩|c
   ·exact auk m1' m2' i hc K3 k3 b3 c1 c2 c3
   ·have:=r.lt m2' i hc;omega
  ·rw[AU m1] at hi;rw[C9 (lL hg m1')];intro hc;rcases Pu m1' m2' i hc with ⟨_,K3,k3,b3,c1,_,c2,c3⟩|c
   ·exact auk m1 m2 i hi K3 k3 b3 c1 c2 c3
   ·have:=r.lt m2 i hi;omega
  ·rw[AU m1] at hi;rw[AU m1'];exact r.dj K K' b b2 m2 m2' bY i hi
 ·rcases Iu hK with ⟨k,b0,m1,m2,_⟩|⟨m1,m2⟩
  ·rw[C9 (lL hg m1)] at hi;exact r1.nf k b0 m2 i hi
  ·rw[AU m1] at hi;exact hF0 (r.lt m2 i hi) (r.nf K b m2 i hi)
 ·refine (Fv i λe=> ?_).trans (r1.sub i o ho)
  let ⟨_,e1,e2,_⟩:=JX i e;rw[hF0 e2 e1] at ho;cases ho
 ·rw[gC] at hx;exact (Fv x λe=>by have:=(JX x e).2.2.1;omega).trans (r1.bd x hx)
 ·rw[gC];exact iL r.nx Ju
 ·have bD:x<h.nx:=mA hx r.nx;rw[axg x bD λK k b m1 m2 hc=> ?_]
  ·exact r.old x hx hp
  ·rcases r.l6 K b m2 x hc with c|c
   ·exact hp K c
   ·omega
 ·rcases r1.fn id o ho with c|c
  ·exact r.fn id o c
  ·have c:hh.nx<=id:=c;have:=r.nx;exact .inr (by omega)
 ·rcases Iu hK with ⟨k,b0,m1,m2,_⟩|⟨m1,m2⟩
  ·rw[C9 (lL hg m1)] at hi;rcases Pu m1 m2 i hi with ⟨_,K3,k3,b3,c1,c0,c2,c3⟩|c
   ·exact N6 _ m1 _ c1 c0 i (r.l6 K3 b3 c2 i c3)
   ·have:=r.nx;exact .inr (by omega)
  ·rw[AU m1] at hi;exact r.l6 K b m2 i hi
 ·rcases hl' x hx with c|⟨c1,c2⟩
  ·exact r.lg x c
  ·rcases r1.lg x c1 with ⟨k,d1⟩|d
   ·let ⟨k',b',e,cn,d2⟩:=mV d1;let ⟨K',b,m1,m2,_,m4⟩:=vw cn;have d2:x∈J (jU al k'):=d2;rw[m4] at d2;exact (r.l6 K' b m2 x d2).elim (λc=>.inl ⟨K',c⟩) .inr
   ·have d:hh.nx<=x:=d;omega
 ·intro j hj;have ej:j=K:=by simpa using hj
  subst ej;let ⟨c1,c2,c3⟩:=r.Ip j hK j (by simp)
  let ⟨e1,e2,e3⟩:=hgs [j] (λq hq hc=>by
   have:q.1=j:=by simpa using Eq.symm (cB.1 hc)|>.symm
   have abN:=(hrs q hq).2.1;rw[this,Bs.akz hK] at abN;cases abN) (λq hq he hc=>by
   have:q.1=j:=by simpa using Eq.symm (cB.1 hc)|>.symm
   have abN:=(Iw q hq he).1;rw[this,hK] at abN;cases abN) j (by simp)
  exact ⟨e1.trans c1,e2.trans c2,e3.trans c3⟩
end
section
variable {F F':Hf} {g g':Gb} {B:Bs} {J:cS} {s s' s1:LS} {tm:Tf} {h:Hs} {hp:Hf} {E:Env} {nt:Nat} {all l:bS}
variable {k':Nat} {vs:aM}
def ou.call {s0:LS} (hs0:∀{F:Hf} {g:Gb} {J:cS} {tm:Tf} {h:Hs},Rel B F g J s tm h->Rel B F g J s0 tm h) {p:Oper} {c:Call} {o:Operand} {f:Nat} {ps rs:cy} {bs cC ob:bH} {fi ca xs:aB} {y:AV} (hd:fS nt p.dst=true) (hw:qL all p s.ts=some true) (hc:ir p.op=some c) (hf:c.callee= .value o) (hfv:bM s.ts o= .fn f fi ca) (hxs:fi++jw s.ts c.args.toList++ca=xs) (hu:jS (jw s.ts c.args.toList)=true)
  (hg:tv (ps++rs)=true) (pD:te s0.bs (ps++rs) ps=some bs) (Cm:ti s0.bs (ps++rs) ps ps=true) (rG:lO ps (eW xs)=true) (hrs:∀q∈rs,s0.free q.1/\B.pk q.1=false/\lk q.1 s0.bs=none) (Iw:∀q∈ps,lA q.2=false->B.pn q.1=false/\(∀t x,lk t s0.ts=some x->q.1∉dE x)/\∀k b,lk k s0.bs=some b->lk k (ps++rs)=none->q.1∉b.keys) (N6:∀q∈ps++rs,∀q'∈ps,fN q'.2=fN q.2->∀i,B.ps q'.1 i\/B.nx<=i->B.ps q.1 i\/B.nx<=i) {w:aI} (hC:xV E f bs (l3 (oD (ps++rs)) xs) y cC w) (hob:G1 cC (ps++rs) (ps++rs)=some ob) (JU:A8 ps cC (ps++rs) (ps++rs)=true) (Fz:lO (oi (ps++rs)) (dE y)=true)
  (hl:ou E nt B all l (LS.cM ⟨s0.ts,ob++s0.bs⟩ p.dst (nw (jU (ps++rs)) y)) s'):ou E nt B all (p::l) s s':=λF g J tm h r=>by
 subst hxs;let ⟨aa,a1,a2⟩:=r.eI hu;let ⟨fv,f1,f2⟩:=r.val hfv (by simp)
 obtain ⟨fs,cs,rfl,h1,h2⟩:∃fs cs,fv= .fn (.func f) fs cs/\bZ F g fs fi/\bZ F g cs ca:=by
  cases f2 with
  |fn _ h1 h2=>exact ⟨_,_,rfl,h1,h2⟩
 replace a2:=(h1.append a2).append h2;let ⟨F',g',φ',h1,v,go,hv,hr,_⟩:=(hs0 r).call (hh:=h) (Hd:=λ_=>False) (λ_ _=>rfl) (λ_ hc=>hc.elim) rfl hg pD Cm rG a2 hrs Iw N6 hC hob JU Fz
 have r2:=hr ⟨h1.hp,h1.nx,below h.nx h1.lg h.lg⟩ (λ_ _=>rfl) (λ_ hc=>hc.elim) rfl (λx hx=>by
  have hb:∀(l acc:aI),x∈below h.nx l acc->x∈acc\/(x∈l/\x<h.nx):=λl=>by
   induction l with
   |nil=>exact λacc hx=>.inl hx
   |cons y l ih=>
    intro acc hx;have hx:x∈ay (Nat.ble (Nat.succ y) h.nx) (below h.nx l (y::acc)) (below h.nx l acc):=hx;rw[bk] at hx;split at hx
    ·rename_i bD;rcases ih _ hx with c|c
     ·rcases bB.1 c with rfl|c
      ·exact .inr ⟨by simp,fU bD⟩
      ·exact .inl c
     ·exact .inr ⟨dR _ c.1,c.2⟩
    ·rcases ih _ hx with c|c
     ·exact .inl c
     ·exact .inr ⟨dR _ c.1,c.2⟩
  exact hb _ _ hx)
 let ⟨F2,g2,φ2,tm',h',r',q⟩:=hl F' g' φ' _ _ (r2.cM (d:=p.dst) λ_=>hv)
 exact ⟨F2,g2,φ2,tm',h',r',.aAM hd (yr r hw) hc (by rw[hf];exact f1) a1 go.jk q⟩
inductive KI where
 |code (c:Code)|block (id:Nat)|loop (c:Code)
def resume (E:Env) (nt:Nat) (P:Ex->cq->Hs->Prop):List KI->Ex->cq->Hs->Prop
 | [],e,tm,h=>P e tm h
 | .code c::ks,e,tm,h=>(mT e=true->∃e' tm' h',df E (.code nt c tm [] h) (.code e' tm' [] h')/\resume E nt P ks e' tm' h')/\(mT e=false->resume E nt P ks e tm h)
 | .block id::ks,e,tm,h=>resume E nt P ks (leave id e) tm h
 | .loop c::ks,e,tm,h=>(mT e=true->∃e' tm' h',df E (.code nt (.loop c) tm [] h) (.code e' tm' [] h')/\resume E nt P ks e' tm' h')/\(mT e=false->resume E nt P ks e tm h)
def EndP (B:Bs) (Q:Ex->LS->Prop) (e:Ex) (tm:cq) (h:Hs):Prop:=∃F g J s,Rel B F g J s tm.get h/\Q e s
def Wk (E:Env) (nt:Nat) (B:Bs) (c:Code) (ks:List KI) (s:LS) (Q:Ex->LS->Prop):Prop:=
 ∀{F g J} {tm:cq} {h},Rel B F g J s tm.get h->∃e' tm' h',df E (.code nt c tm [] h) (.code e' tm' [] h')/\resume E nt (EndP B Q) ks e' tm' h'
def ll (E:Env) (nt:Nat) (B:Bs) (e:Ex) (ks:List KI) (s:LS) (Q:Ex->LS->Prop):Prop:=
 ∀{F g J} {tm:cq} {h},Rel B F g J s tm.get h->resume E nt (EndP B Q) ks e tm h
variable {Q:Ex->LS->Prop} {ks:List KI} {a b c:Code} {e:Ex}
def Dl (h:mT e=true):e= .normal:=by cases e<;>first|rfl|(cases h;done)
def Wk.skip (h:ll E nt B .normal ks s Q):Wk E nt B .skip ks s Q:=λr=>⟨_,_,_,.skip,h r⟩
def Wk.exit {id:Nat} (h:ll E nt B (.exit id) ks s Q):Wk E nt B (.exit id) ks s Q:=λr=>⟨_,_,_,.exit,h r⟩
def Wk.ret (h:ll E nt B .ret ks s Q):Wk E nt B .ret ks s Q:=λr=>⟨_,_,_,.ret,h r⟩
def Wk.seq (h:Wk E nt B a (.code b::ks) s Q):Wk E nt B (.seq a b) ks s Q:=λr=>by
 let ⟨e1,kR,h1,go,re⟩:=h r;cases he:mT e1 with
 |true=>
  let ⟨e2,tm2,h2,go2,re2⟩:=re.1 he;rw[Dl he] at go;exact ⟨e2,tm2,h2,go.seq go2,re2⟩
 |false=>exact ⟨e1,kR,h1,.aDn he go,re.2 he⟩
def Wk.amo {x:Operand} (hx:bM s.ts x= .bool true) (h:Wk E nt B a ks s Q):Wk E nt B (.cond x a b) ks s Q:=λr=>by
 let ⟨v,v1,v2⟩:=r.val hx (by simp)
 cases v2;let ⟨e1,kR,h1,go,re⟩:=h r;exact ⟨e1,kR,h1,.amo v1 go,re⟩
def Wk.amp {x:Operand} (hx:bM s.ts x= .bool false) (h:Wk E nt B b ks s Q):Wk E nt B (.cond x a b) ks s Q:=λr=>by
 let ⟨v,v1,v2⟩:=r.val hx (by simp)
 cases v2;let ⟨e1,kR,h1,go,re⟩:=h r;exact ⟨e1,kR,h1,.amp v1 go,re⟩
def Wk.block {id:Nat} (h:Wk E nt B c (.block id::ks) s Q):Wk E nt B (.block id c) ks s Q:=λr=>by
 let ⟨e1,kR,h1,go,re⟩:=h r;exact ⟨_,kR,h1,.block go,re⟩
def Wk.loop (h:Wk E nt B c (.loop c::ks) s Q):Wk E nt B (.loop c) ks s Q:=λr=>by
 let ⟨e1,kR,h1,go,re⟩:=h r;cases he:mT e1 with
 |true=>
  let ⟨e2,tm2,h2,go2,re2⟩:=re.1 he;rw[Dl he] at go;exact ⟨e2,tm2,h2,.loop go go2,re2⟩
 |false=>exact ⟨e1,kR,h1,.aAW he go,re.2 he⟩
def Wk.region {id:Nat} {ops:fk} (hl:ou E nt B ops.toList ops.toList s s1) (h:ll E nt B .normal ks s1 Q):Wk E nt B (.region id ops false) ks s Q:=λ{F g J tm hh} r=>by
 let ⟨F',g',φ',tm',h',r',go⟩:=hl F g J tm hh r;exact ⟨_,_,_,.region go,h r'⟩
def ll.code (h:Wk E nt B c ks s Q):ll E nt B .normal (.code c::ks) s Q:=λr=>⟨λ_=>h r,λhc=>(by cases hc)⟩
def ll.axY (he:mT e=false) (h:ll E nt B e ks s Q):ll E nt B e (.code c::ks) s Q:=λr=>⟨λhc=>(by rw[he] at hc;cases hc),λ_=>h r⟩
def ll.block {id:Nat} (h:ll E nt B (leave id e) ks s Q):ll E nt B e (.block id::ks) s Q:=λr=>h r
def ll.loop (h:Wk E nt B (.loop c) ks s Q):ll E nt B .normal (.loop c::ks) s Q:=λr=>⟨λ_=>h r,λhc=>(by cases hc)⟩
def ll.awv (he:mT e=false) (h:ll E nt B e ks s Q):ll E nt B e (.loop c::ks) s Q:=λr=>⟨λhc=>(by rw[he] at hc;cases hc),λ_=>h r⟩
def ll.nil (h:Q e s):ll E nt B e [] s Q:=λ{F g J tm hh} r=>⟨F,g,J,s,r,h⟩
def Wk.Z8 (hg:ic B s s1) (h:Wk E nt B c ks s1 Q):Wk E nt B c ks s Q:=λr=>by
 let ⟨_,_,_,r1⟩:=hg.go r;exact h r1
def ll.Z8 (hg:ic B s s1) (h:ll E nt B e ks s1 Q):ll E nt B e ks s Q:=λr=>by
 let ⟨_,_,_,r1⟩:=hg.go r;exact h r1
def resV (E:Env) (s:LS):ResultVar->Option AV
 | .tmp t=>lk t s.ts
 | .cell t ty=>bE (lk t s.ts) (E.ty.get ty) λa i=>Xv i s.bs a
def aag (E:Env) (s:LS):List ResultVar->Option aB
 | []=>some []
 |r::rs=>bE (resV E s r) (aag E s rs) λv l=>some (v::l)
def akE:aB->AV
 | [v]=>v
 |vs=>.cm vs
def aAB (r:Rel B F g J s tm h) {x:ResultVar} (hx:resV E s x=some y) (hu:y≠ .undef):∃v,O7 E tm h.hp.get x=some v/\VA F g v y:=by
 cases x with
 |tmp t=>exact r.tm t y hx hu
 |cell t ty=>
  let ⟨a,i,h1,h2,h3⟩:=bc hx;let ⟨v,v1,v2⟩:=r.tm t a h1 (λe=>by subst e;cases h3)
  let ⟨u,u1,u2⟩:=ail (E:=E) (t:=ty) h2 h3 r v2;refine ⟨u,?_,u2⟩;show au (tm t) (nM E h.hp.get ty)=_;rw[v1];exact aoz u1
def ahQ (r:Rel B F g J s tm h):∀{l:List ResultVar} {ys:aB},aag E s l=some ys->jS ys=true->∃vs,sM E tm h.hp.get l=some vs/\bZ F g vs ys
 | [],_,hy,_=>by cases hy;exact ⟨[],rfl,.nil⟩
 |x::l,ys,hy,hu=>by
  let ⟨a,m,h1,h2,h3⟩:=bc hy;cases h3;let ⟨u1,u2⟩:=Jw hu;let ⟨v,v1,v2⟩:=aAB r h1 u1;let ⟨vs,w1,w2⟩:=ahQ r h2 u2;exact ⟨v::vs,by show bE _ _ _=_;rw[v1,w1];rfl,.cons v2 w2⟩
def zg:Nat->aB->dd
 |_,[]=> []
 |i,x::l=>(i,x)::zg (i+1) l
def acQ:∀{xs:aB} {aa:aM},bZ F g aa xs->∀{i t:Nat} {x:AV},lk t (zg i xs)=some x->∃v,i<=t/\t<i+aa.length/\aa[t-i]? =some v/\VA F g v x
 | [],_,_,i,t,x,h=>by cases h
 |y::l,_,.cons (vs:=vs) hv q,i,j,x,h=>by
  rw[show zg i (y::l)=(i,y)::zg (i+1) l from rfl,cr] at h;split at h
  ·rename_i e;cases h;subst e;exact ⟨_,cF _,by simp,by simp,hv⟩
  ·let ⟨v,a1,a2,a3,a4⟩:=acQ q h;refine ⟨v,by omega,by rw[mM];omega,?_,a4⟩
   rw[show j-i=(j-(i+1))+1 by omega,sg]
   exact a3
def wc (k:Nat) (l:aI):Bool:=iu k||l.any λp=>Nat.beq (fN p) (fN k)
structure od (bV:aI) (B:Bs):Prop where
 no:∀k,wc k bV=false->B.pk k=false
 rt:∀k k',iu k=iu k'->fN k=fN k'->B.pk k=B.pk k'
def xq (bs:bH):aI:= @List.rec (Nat×Bx) (λ_=>aI) [] (λp _ ih=>p.1::ih) bs
def aAV {l:aI} (hb:iu k=iu k') (h:fN k=fN k'):wc k l=wc k' l:=by
 unfold wc;rw[h,hb]
def Jm (bV:aI) (k:Nat):Bool:=ay (wc k bV) (lA k) false
def od.pn {B:Bs} (hB:od bV B) (h:Jm bV k=false):B.pn k=false:=by
 cases hm:wc k bV with
 |false=>exact Bs.Pe (hB.no k hm)
 |true=>
  have h:ay (wc k bV) (lA k) false=false:=h;rw[hm] at h;have h:lA k=false:=h;show ay (B.pk k) (lA k) false=false;rw[h];cases B.pk k<;>rfl
def od.ps {B:Bs} (hB:od bV B) {i:Nat} (hb:iu k=iu k') (h:fN k=fN k') (hp:B.ps k i):B.ps k' i:=by
 let ⟨h1,k2,e,hi⟩:=hp;exact ⟨by rw[<-hB.rt k k' hb h];exact h1,k2,e.trans h,hi⟩
def G8:gi k bs=wc k (xq bs):=by
 have key:∀l:bH,(l.any λp=>Nat.beq (fN p.1) (fN k))=(xq l).any λp=>Nat.beq (fN p) (fN k):=λl=>by
  induction l with
  |nil=>rfl
  |cons p l ih=>
   show (Nat.beq (fN p.1) (fN k)||l.any λp=>Nat.beq (fN p.1) (fN k))=(Nat.beq (fN p.1) (fN k)||(xq l).any λp=>Nat.beq (fN p) (fN k))
   rw[ih]
 show (iu k||_)=(iu k||_);rw[key]
def avy (E:Env) (fn:Func) (y:AV) (cC:bH) (e:Ex) (s:LS):Prop:=PK e=true/\(∃ys,aag E s fn.results.toList=some ys/\jS ys=true/\y=akE ys)/\∀k b,lk k cC=some b->lk k s.bs=some b
def aDB (q:bZ F g vs ys):VA F g (oneOf vs) (akE ys):=by
 cases q with
 |nil=>exact .cm .nil
 |cons h t=>
  cases t with
  |nil=>exact h
  |cons h2 t2=>exact .cm (.cons h (.cons h2 t2))
def aBq {c:Code} (hk:MC E f fn c) (hn:Nat.ble xs.length fn.ntmps=true) (hw:∀B,od (xq bs) B->Wk E fn.ntmps B c [] ⟨zg 0 xs,bs⟩ (avy E fn y cC)):bP E f bs xs y cC:=.mk λ{F g J h aa} dK has=>by
 have hB:od (xq bs) (u9 F g J bs h):=⟨λk hk=>by
  show gi k bs=false;rw[G8];exact hk,λk k' eb e=>by
  show gi k bs=gi k' bs;rw[G8,G8];exact aAV eb e⟩
 have r:Rel (u9 F g J bs h) F g J ⟨zg 0 xs,bs⟩ (setArgs aa 0 .nil).get ⟨h.hp,h.nx,[]⟩:={dK with tm:=λt x hx bY=>(acQ has hx).elim λv ha=>⟨v,by rw[Eh,ax ⟨ha.1,ha.2.1⟩];exact ha.2.2.1,ha.2.2.2⟩}
 let ⟨e,kR,h1,go,F',g',φ',s',r1,he,⟨ys,y1,y2,y3⟩,hbs⟩:=hw _ hB r;let ⟨vs,w1,w2⟩:=ahQ r1 y1 y2;refine ⟨F',g',φ',h1,oneOf vs,?_,by rw[y3];exact aDB w2,?_⟩
 ·have:=df.call (E:=E) (h:=h) hk (fi:= []) (aa:=aa) (ca:= []) (vs:=vs) (by rw[nr,pg,has.length];exact hn) he (by rw[nr,pg];exact go) w1
  exact this
 ·have r2:=r1.less (s':=⟨[],cC⟩) ⟨λt y hy=>(by cases hy),λk b hb=>⟨b,hbs k b hb,WB.refl b⟩⟩
  exact {r2 with tm:=λt x hx _=>(by cases hx)}
end
section
variable {F F':Hf} {g g':Gb} {B:Bs} {J:cS} {s s' s1:LS} {tm:Tf} {h:Hs} {hp:Hf} {E:Env} {nt:Nat}
variable {c:Call} {b:Bx}
def fw (W M:Nat) (o:Oper):Nat:=Nat.mod (mN W M (jv o)) (Nat.pow 2 W)
def uB (W M i m:Nat):Nat:=Nat.lor M (Nat.shiftLeft m (Nat.mul i W))
def df.aBn {W base i M:Nat} {all:bS} {prev:List Rc} {tm:cq}:df E (.draw nt W all base i M prev [] tm h) (.st tm h):=.step ⟨0,λ_ _=>rfl⟩
def Kl {W base i M:Nat} {all l:bS} {o:Oper} {prev:List Rc} {tm:cq} (hd:(fS nt o.dst&&nj i (jv o))=true) (hw:eD all o tm.get=some w):step E rec (.draw nt W all base i M prev (o::l) tm h)=ay w (doD E rec nt W all base i M (fw W M o) prev l tm h o (ir o.op)) (rO rec nt W all base i M (fw W M o) prev l tm o.dst ⟨i,false,[],[],Nat.add base i,Nat.add (Nat.add base i) 1⟩ (.cm []) h):=by
 show ay (fS nt o.dst && nj i (jv o)) (force (Nat.mod (mN W M (jv o)) (Nat.pow 2 W)) λm=>Xf E rec nt W all base i M m prev l tm h o (eD all o tm.get)) (.fail "")=_
 rw[hd,force_eq,hw];rfl
def NT {W base i M:Nat} {all l:bS} {prev:List Rc} {tm:cq} (hi:gM m rc prev=true):rO rec nt W all base i M m prev l tm d rc v h=rec (.draw nt W all base (i+1) (uB W M i m) (rc::prev) l (cM tm d v) h):=by
 show ay (gM m rc prev) (force (uB W M i m) λM'=>rec (.draw nt W all base (Nat.add i 1) M' (rc::prev) l (cM tm d v) h)) (.fail "")=_
 rw[hi,force_eq]
variable {W base i M:Nat} {all l:bS} {o:Oper} {prev:List Rc} {s9:cq} {out:Out}
def df.auW (hd:(fS nt o.dst&&nj i (jv o))=true) (hw:eD all o s9.get=some false) (hi:gM (fw W M o) ⟨i,false,[],[],base+i,base+i+1⟩ prev=true)
  (ha:df E (.draw nt W all base (i+1) (uB W M i (fw W M o)) (⟨i,false,[],[],base+i,base+i+1⟩::prev) l (cM s9 o.dst (.cm [])) h) out):df E (.draw nt W all base i M prev (o::l) s9 h) out:=by
 let ⟨n1,e1⟩:=ha;refine .step ⟨n1,λn hn=> ?_⟩
 rw[Kl hd hw];show rO (run E n) nt W all base i M (fw W M o) prev l s9 o.dst ⟨i,false,[],[],base+i,base+i+1⟩ (.cm []) h=_;rw[NT hi];exact e1 n hn
def df.aBm (hd:(fS nt o.dst&&nj i (jv o))=true) (hw:eD all o s9.get=some true) (hc:ir o.op=none) (hv:oO E o.op s9.get h.hp.get (base+i)=some (v,us)) (hi:gM (fw W M o) ⟨i,false,kL o.op s9.get,og (base+i) us,base+i,base+i+1⟩ prev=true) (ha:df E (.draw nt W all base (i+1) (uB W M i (fw W M o)) (⟨i,false,kL o.op s9.get,og (base+i) us,base+i,base+i+1⟩::prev) l (cM s9 o.dst v) (h.gY us)) out):df E (.draw nt W all base i M prev (o::l) s9 h) out:=by
 let ⟨n1,e1⟩:=ha;refine .step ⟨n1,λn hn=> ?_⟩
 rw[Kl hd hw,hc];show ajs (run E n) nt W all base i M (fw W M o) prev l s9 h o (oO E o.op s9.get h.hp.get (base+i))=_;rw[hv];show rO (run E n) nt W all base i M (fw W M o) prev l s9 o.dst ⟨i,false,kL o.op s9.get,og (base+i) us,base+i,base+i+1⟩ v (h.gY us)=_;rw[NT hi];exact e1 n hn
def df.acw {f:SV} (hd:(fS nt o.dst&&nj i (jv o))=true) (hw:eD all o s9.get=some true) (hc:ir o.op=some c) (hf:pR s9.get c.callee=some f) (has:eI s9.get c.args.toList=some aa) (hv:df E (.call f aa ⟨qB (fw W M o) prev h.hp,h.nx,[]⟩) (.gg [⟨false,v,h2⟩])) (hi:gM (fw W M o) ⟨i,true,[],below h.nx h2.lg [],h.nx,h2.nx⟩ prev=true) (ha:df E (.draw nt W all base (i+1) (uB W M i (fw W M o)) (⟨i,true,[],below h.nx h2.lg [],h.nx,h2.nx⟩::prev) l (cM s9 o.dst v) ⟨jb (fw W M o) h.hp prev h2.hp,h2.nx,below h.nx h2.lg h.lg⟩) out):df E (.draw nt W all base i M prev (o::l) s9 h) out:=by
 let ⟨n1,e1⟩:=ha;let ⟨n2,e2⟩:=hv;refine .step ⟨n1+n2,λn hn=> ?_⟩
 rw[Kl hd hw,hc];show alQ (run E n) ⟨qB (fw W M o) prev h.hp,h.nx,[]⟩ (pR s9.get c.callee) (eI s9.get c.args.toList) (λv h2=>rO (run E n) nt W all base i M (fw W M o) prev l s9 o.dst ⟨i,true,[],below h.nx h2.lg [],h.nx,h2.nx⟩ v ⟨jb (fw W M o) h.hp prev h2.hp,h2.nx,below h.nx h2.lg h.lg⟩) _=_
 rw[hf,has];show ata (run E n (.call f aa ⟨qB (fw W M o) prev h.hp,h.nx,[]⟩)) (λv h2=>rO (run E n) nt W all base i M (fw W M o) prev l s9 o.dst ⟨i,true,[],below h.nx h2.lg [],h.nx,h2.nx⟩ v ⟨jb (fw W M o) h.hp prev h2.hp,h2.nx,below h.nx h2.lg h.lg⟩) (λ_ _=>.fail "")=_
 rw[e2 n (by omega)]
 show rO (run E n) nt W all base i M (fw W M o) prev l s9 o.dst ⟨i,true,[],below h.nx h2.lg [],h.nx,h2.nx⟩ v ⟨jb (fw W M o) h.hp prev h2.hp,h2.nx,below h.nx h2.lg h.lg⟩=_;rw[NT hi];exact e1 n (by omega)
def GL:∀(us:cQ) {x:Nat},(∀u∈us,u.1≠x)->∀h:Hs,(h.gY us).hp.get x=h.hp.get x
 | [],_,_,h=>rfl
 |u::us,x,hu,h=>by
  show ((h.up u).gY us).hp.get x=_;rw[GL us (λv hv=>hu v (dR _ hv)) (h.up u)]
  show (h.hp.set u.1 u.2).get x=_;rw[Tr.iU,aA (zl (hu u gw))]
def LS.wi (s:LS) (K:Nat):LS:=⟨(s.fa K).ts,ea K (s.fa K).bs⟩
def LS.Ba (s:LS) (W:WK):LS:=match W with|none=>s|some q=>s.wi q.1
def aBi {t:Nat} (h:lk t (s.wi K).ts=some y):∃x,lk t s.ts=some x/\y=jL K x:=by
 rw[show (s.wi K).ts=s.ts.map λp=>(p.1,jL K p.2) from rfl,mm] at h
 obtain ⟨x,hx,rfl⟩:=kP.1 h;exact ⟨x,hx,rfl⟩
def UJ (h:lk k (s.wi K).bs=some b):k≠K/\∃b0,lk k s.bs=some b0/\b=b0.fa K:=by
 rw[show (s.wi K).bs=ea K (s.bs.map λp=>(p.1,p.2.fa K)) from rfl,ib] at h
 split at h
 ·cases h
 ·rename_i bY;rw[mm] at h;obtain ⟨b0,h0,rfl⟩:=kP.1 h;exact ⟨bY,b0,h0,rfl⟩
def abJ (r:Rel B F g J s tm h) (K:Nat):Rel B F g J (s.wi K) tm h:=by
 have r1:=Cq r K;refine r1.less ⟨λt y hy=>.inr ⟨y,hy,WV.refl y⟩,λk b hb=> ?_⟩
 rw[show (s.wi K).bs=ea K (s.fa K).bs from rfl,ib] at hb;split at hb
 ·cases hb
 ·exact ⟨b,hb,WB.refl b⟩
def V6 (s:LS) (K:Nat):(s.wi K).free K:=by
 let ⟨h1,h2⟩:=Kb s K;refine ⟨h1,λk b bY hb=>h2 k b bY ?_⟩
 rw[show (s.wi K).bs=ea K (s.fa K).bs from rfl,ib,aA bY] at hb;exact hb
def Rel.amC (r:Rel B F g J s tm h) (r2:Rel B F2 g2 φ2 s2 tm2 h') (hF:∀id o,F id=some o->h'.hp.get id=h.hp.get id) (hb:∀k b,lk k s.bs=some b->∀i∈J k,h'.hp.get i=h.hp.get i) (hφ:∀k b,lk k s.bs=some b->φ2 k=J k) (hgt:∀t x,lk t s.ts=some x->kg g g2 (dE x)) (hgb:∀k b,lk k s.bs=some b->kg g g2 [k]/\kg g g2 b.keys):Rel B F g2 φ2 s tm h':=by
 refine ⟨λt x hx hn=> ?_,λk b hk=> ?_,λk k' b b' hk gO bY i hi=> ?_,λk b hk i hi=> ?_,λi o ho=>(hF i o ho).trans (r.sub i o ho),r2.bd,r2.nx,r2.old,r.f0,r.fn,λk b hk i hi=> ?_,r2.lg,r2.Ip⟩
 ·let ⟨v,v1,v2⟩:=r.tm t x hx hn;exact ⟨v,v1,v2.gb (hgt t x hx)⟩
 ·rw[hφ k b hk];exact ((r.bx k b hk).keep (gq.refl F) λi hi=>hb k b hk i hi).gb (hgb k b hk).1 (hgb k b hk).2
 ·rw[hφ k b hk] at hi;rw[hφ k' b' gO];exact r.dj k k' b b' hk gO bY i hi
 ·rw[hφ k b hk] at hi;exact r.nf k b hk i hi
 ·rw[hφ k b hk] at hi;exact r.l6 k b hk i hi
end
section
variable {F F':Hf} {g g':Gb} {B:Bs} {J:cS} {s s' s1:LS} {tm:Tf} {h:Hs} {hp:Hf} {E:Env} {nt:Nat}
variable {l:Nat} {wk ks:aI}
def Fh {lo hi:Nat}:∀{l:aI},(∀x∈l,x<lo\/hi<=x)->rN lo hi l=true
 | [],_=>rfl
 |x::l,h=>by
  have ih:=Fh (lo:=lo) (hi:=hi) (l:=l) λy hy=>h y (dR _ hy)
  show ay (Nat.ble (Nat.succ x) lo) (rN lo hi l) (ay (Nat.ble hi x) (rN lo hi l) false)=true;rw[ih,bk,bk];rcases h x gw with c|c
  ·rw[ax (kn c)]
  ·rw[ax (kn c)];split<;>rfl
def HF:∀{l m:aI},(∀x∈l,x∉m)->qo l m=true
 | [],_,_=>rfl
 |x::l,m,h=>by
  show ay (ke x m) false (qo l m)=true;rw[HF λy hy=>h y (dR _ hy),bk,aA]
  exact λhc=>h x gw ((qx _ _).1 hc)
structure PI where
 i:Nat
 n:Nat
 rk:aI
 wk:aI
 wn:Bool
structure DR (B:Bs) (base W cur nc:Nat) (vs:List LS) (laid:cy) (pp:List (Rc×PI)) (g:Gb) (J:cS) (Fs:Nat->Hf) (lim:Nat->Nat) (tm:Tf) (h:Hs):Prop where
 r:∀(j:Nat) (s:LS),vs[j]? =some s->Rel B (Fs j) g J s tm h
 up:∀(j j':Nat) (s s':LS),j<=j'->vs[j]? =some s->vs[j']? =some s'->gq (Fs j) (Fs j')/\∀k b,lk k s.bs=some b->∃b',lk k s'.bs=some b'
 fb:∀(j:Nat) (s:LS),vs[j]? =some s->∀id o,Fs j id=some o->id<base\/(base+W<=id/\id<lim j)
 bb:∀(j:Nat) (s:LS),vs[j]? =some s->∀k b,lk k s.bs=some b->∀i∈J k,i<base\/(base+W<=i/\i<lim j)\/∃q,(k,q)∈laid/\q<cur/\i=base+q
 lm:∀(j:Nat) (s:LS),vs[j]? =some s->base+W<=lim j/\lim j<=h.nx
 top:vs.length=nc+1
 hx:base+W<=h.nx
 em:∀q,cur<=q->q<W->h.hp.get (base+q)=none
 bn:B.nx<=base
 pi:∀q∈pp,q.1.i=q.2.i/\q.2.i<cur/\q.2.n<=nc/\(q.2.n=0->q.1.call=false/\q.1.lo=base+q.2.i/\q.1.hi=base+q.2.i+1)/\(q.2.n≠0->q.1.call=true/\base+W<=q.1.lo/\q.1.hi<=h.nx/\∀(j:Nat) (s:LS),vs[j]? =some s->j<q.2.n->lim j<=q.1.lo)
 po:∀q∈pp,∀id,id∈q.1.rd\/id∈q.1.wr->id<base\/(base+W<=id/\id<h.nx)\/∃j,j<=q.2.i/\id=base+j
 pr:∀q∈pp,∀(j:Nat) (s:LS),vs[j]? =some s->∀k b,lk k s.bs=some b->∀i∈J k,(i∈q.1.rd->k∈q.2.rk)/\(i∈q.1.wr->k∈q.2.wk)
 pf:∀q∈pp,∀i∈q.1.wr,∀(j:Nat) (s:LS),vs[j]? =some s->Fs j i=none
 pw:∀q∈pp,q.2.wn=true->q.1.wr= []
def D9 (l m:Nat) (rk wk:aI) (call wn:Bool) (p:PI):Prop:=jQ m p.i=true\/((p.n≠0->l<p.n/\call=false/\wn=true)/\(call=true->p.wn=true)/\(∀k∈wk,k∉p.rk/\k∉p.wk)/\∀k∈rk,k∉p.wk)
variable {base W cur nc:Nat} {vs:List LS} {laid:cy} {pp:List (Rc×PI)} {Fs:Nat->Hf} {lim:Nat->Nat}
def DR.indep (D:DR B base W cur nc vs laid pp g J Fs lim tm h) (iT:cur<W) (hl:vs[l]? =some sl) (hrd:∀id∈rc.rd,(∃o,Fs l id=some o)\/∃k∈rk,∃b,lk k sl.bs=some b/\id∈J k) (JP:∀id∈rc.wr,∃k∈wk,∃b,lk k sl.bs=some b/\id∈J k) (jP:∀id,rc.lo<=id->id<rc.hi->id=base+cur\/h.nx<=id) (tp:∀k j,(k∈rk\/k∈wk)->(k,j)∈laid->jQ m j=true) (hwn:wn=true->rc.wr= []) (qC:∀q∈pp,D9 l m rk wk rc.call wn q.2):gM m rc (pp.map (·.1))=true:=by
 have key:∀(l:List (Rc×PI)),(∀q∈l,jQ m q.1.i=true\/Fu q.1 rc=true)->gM m rc (l.map (·.1))=true:=λl=>by
  induction l with
  |nil=>exact λ_=>rfl
  |cons q l ih=>
   intro hq;have ih:=ih λp hp=>hq p (dR _ hp)
   show ay (jQ m q.1.i) (gM m rc (l.map (·.1))) (ay (Fu q.1 rc) (gM m rc (l.map (·.1))) false)=true
   rw[ih,bk,bk];rcases hq q gw with c|c
   ·rw[ax c]
   ·rw[ax c];split<;>rfl
 refine key pp λq hq=> ?_
 let ⟨p1,p2,p3,p4,p5⟩:=D.pi q hq;rcases qC q hq with c|⟨c1,c2,c3,c4⟩
 ·exact .inl (by rw[p1];exact c)
 by_cases hm:jQ m q.2.i=true
 ·exact .inl (by rw[p1];exact hm)
 refine .inr ?_;have hoff:∀id,((∃o,Fs l id=some o)\/∃k,(k∈rk\/k∈wk)/\∃b,lk k sl.bs=some b/\id∈J k)->id<q.1.lo\/q.1.hi<=id:=λid cK=>by
  have rq:=D.lm l sl hl;by_cases hn:q.2.n=0
  ·let ⟨_,e1,e2⟩:=p4 hn;rw[e1,e2];rcases cK with ⟨o,ho⟩|⟨k,hk,b,hb,hi⟩
   ·rcases D.fb l sl hl id o ho with c|c<;>omega
   ·rcases D.bb l sl hl k b hb id hi with c|c|⟨j,j1,j2,rfl⟩
    ·omega
    ·omega
    ·have:j≠q.2.i:=λe=>hm (by rw[<-e];exact tp k j hk j1)
     omega
  ·let ⟨_,e1,e2,e3⟩:=p5 hn;have e3:=e3 l sl hl (c1 hn).1;rcases cK with ⟨o,ho⟩|⟨k,hk,b,hb,hi⟩
   ·rcases D.fb l sl hl id o ho with c|c<;>omega
   ·rcases D.bb l sl hl k b hb id hi with c|c|⟨j,j1,j2,rfl⟩<;>omega
 have hold:∀id,id∈q.1.rd\/id∈q.1.wr->id<rc.lo\/rc.hi<=id:=λid cK=>by
  by_cases h1:rc.lo<=id
  ·by_cases h2:id<rc.hi
   ·have:=D.hx;rcases jP id h1 h2 with e|e<;>rcases D.po q hq id cK with c|c|⟨j,j1,rfl⟩<;>omega
   ·exact .inr (by omega)
  ·exact .inl (by omega)
 have i1:rN q.1.lo q.1.hi rc.rd=true:=Fh λid cK=>hoff id ((hrd id cK).elim .inl λ⟨k,hk,x⟩=>.inr ⟨k,.inl hk,x⟩)
 have i2:rN q.1.lo q.1.hi rc.wr=true:=Fh λid cK=>hoff id (by let ⟨k,hk,x⟩:=JP id cK;exact .inr ⟨k,.inr hk,x⟩)
 have i3:rN rc.lo rc.hi q.1.rd=true:=Fh λid cK=>hold id (.inl cK)
 have i4:rN rc.lo rc.hi q.1.wr=true:=Fh λid cK=>hold id (.inr cK)
 have i5:qo q.1.rd rc.wr=true:=HF λid cK hw=>by
  let ⟨k,hk,b,hb,hi⟩:=JP id hw;exact (c3 k hk).1 ((D.pr q hq l sl hl k b hb id hi).1 cK)
 have i6:qo rc.rd q.1.wr=true:=HF λid cK hw=>by
  rcases hrd id cK with ⟨o,ho⟩|⟨k,hk,b,hb,hi⟩
  ·rw[D.pf q hq id hw l sl hl] at ho;cases ho
  ·exact c4 k hk ((D.pr q hq l sl hl k b hb id hi).2 hw)
 have i7:qo q.1.wr rc.wr=true:=HF λid cK hw=>by
  let ⟨k,hk,b,hb,hi⟩:=JP id hw;exact (c3 k hk).2 ((D.pr q hq l sl hl k b hb id hi).2 cK)
 have i8:ay q.1.call (ay rc.call false (En rc.wr)) (ay rc.call (En q.1.wr) true)=true:=by
  by_cases hn:q.2.n=0
  ·rw[(p4 hn).1];show ay rc.call (En q.1.wr) true=true;cases gD:rc.call with
   |false=>rfl
   |true=>show En q.1.wr=true;rw[D.pw q hq (c2 gD)];rfl
  ·rw[(p5 hn).1];let ⟨_,d1,d2⟩:=c1 hn;rw[d1,hwn d2];rfl
 show (rN q.1.lo q.1.hi rc.rd&&(rN q.1.lo q.1.hi rc.wr&&(rN rc.lo rc.hi q.1.rd&&(rN rc.lo rc.hi q.1.wr&&(qo q.1.rd rc.wr&&(qo rc.rd q.1.wr&&(qo q.1.wr rc.wr&&ay q.1.call (ay rc.call false (En rc.wr)) (ay rc.call (En q.1.wr) true))))))))=true;rw[i1,i2,i3,i4,i5,i6,i7,i8];rfl
def Xp:Op->List Operand
 | .load _ x=> [x]
 | .store _ x y=> [x,y]
 | .lookup _ x k _=> [x,k]
 | .mapUpdate _ m k x=> [m,k,x]
 | .insert _ m k x=> [m,k,x]
 | .next it _=> [it]
 | .range _ x=> [x]
 | .call c=>c.args.toList
 |_=> []
def akR (op:Op):Bool:=match op with| .call c=>vp c|_=>false
def akj (op:Op) (tm:Tf):kL op tm=ay (akR op) (Hc tm (Xp op)) (pj tm (Xp op)):=by cases op<;>rfl
def awZ (bs:bH):AV->Option aI
 | .undef=>none
 | .loc K _=>(match lk K bs with|some (.flat _ _)=>some [K]|_=>none)
 | .el K _ _ _=>(match lk K bs with|some (.rows _ _ _ _)=>some [K]|some (.hole _ _ _ _ _)=>some [K]|some (.tree _ _ _ _ _)=>some [K]|_=>none)
 | .ms K _ _ _=>(match lk K bs with|some (.rows _ _ _ _)=>some [K]|some (.tree _ _ _ _ _)=>some [K]|some (.flat _ _)=>some [K]|_=>none)
 | .mp K=>(match lk K bs with|some (.map _)=>some [K]|_=>none)
 | .it K=>(match lk K bs with|some (.iter _ _)=>some [K]|_=>none)
 |_=>some []
def abj (ts:dd) (bs:bH):List Operand->Option aI
 | []=>some []
 |x::l=>bE (awZ bs (bM ts x)) (abj ts bs l) λa b=>some (a++b)
def ato (r:Rel B F g J s tm h) (hv:VA F g v y) (hk:awZ s.bs y=some ks):∀id∈mo (some v),(∃o,F id=some o)\/∃k∈ks,∃b,lk k s.bs=some b/\id∈J k:=by
 intro id cK;cases hv with
 |slice hF=>exact .inl (by rw[cB.1 cK];exact DN hF)
 |jW hF=>exact .inl (by rw[cB.1 cK];exact DN hF)
 |iW hF=>exact .inl (by rw[cB.1 cK];exact DN hF)
 |iw hF=>exact .inl (by rw[cB.1 cK];exact DN hF)
 |loc K off=>
  have hk:(match lk K s.bs with|some (.flat _ _)=>some [K]|_=>none)=some ks:=hk
  split at hk
  ·rename_i hb;cases hk;refine .inr ⟨K,by simp,_,hb,?_⟩
   have q:=r.bx K _ hb;generalize J K=fp at q ⊢;cases q with|flat=>rw[cB.1 cK];simp
  ·cases hk
 | @el _ K s' j f fT=>
  have hk:(match lk K s.bs with|some (.rows _ _ _ _)=>some [K]|some (.hole _ _ _ _ _)=>some [K]|some (.tree _ _ _ _ _)=>some [K]|_=>none)=some ks:=hk
  split at hk
  ·rename_i hb;cases hk;refine .inr ⟨K,by simp,_,hb,?_⟩
   have q:=r.bx K _ hb;generalize J K=fp at q ⊢;cases q with
   |dD iY=>rw[fT] at iY;cases iY
   |rows=>rw[cB.1 cK];simp
  ·rename_i hb;cases hk;refine .inr ⟨K,by simp,_,hb,?_⟩
   have q:=r.bx K _ hb;generalize J K=fp at q ⊢;cases q with
   |hole=>rw[cB.1 cK];simp
  ·rename_i hb;cases hk;refine .inr ⟨K,by simp,_,hb,?_⟩
   have q:=r.bx K _ hb;generalize J K=fp at q ⊢;cases q with
   |iA iY=>rw[fT] at iY;cases iY
   |tree=>rw[cB.1 cK];simp
  ·cases hk
 | @ms _ K s' lo n fT=>
  have hk:(match lk K s.bs with|some (.rows _ _ _ _)=>some [K]|some (.tree _ _ _ _ _)=>some [K]|some (.flat _ _)=>some [K]|_=>none)=some ks:=hk
  split at hk
  ·rename_i hb;cases hk;refine .inr ⟨K,by simp,_,hb,?_⟩
   have q:=r.bx K _ hb;generalize J K=fp at q ⊢;cases q with
   |dD iY=>rw[fT] at iY;cases iY
   |rows=>rw[cB.1 cK];simp
  ·rename_i hb;cases hk;refine .inr ⟨K,by simp,_,hb,?_⟩
   have q:=r.bx K _ hb;generalize J K=fp at q ⊢;cases q with
   |iA iY=>rw[fT] at iY;cases iY
   |tree=>rw[cB.1 cK];simp
  ·rename_i hb;cases hk;refine .inr ⟨K,by simp,_,hb,?_⟩
   have q:=r.bx K _ hb;generalize J K=fp at q ⊢;cases q with
   |flat=>rw[cB.1 cK];simp
  ·cases hk
 |mp K=>
  have hk:(match lk K s.bs with|some (.map _)=>some [K]|_=>none)=some ks:=hk
  split at hk
  ·rename_i hb;cases hk;refine .inr ⟨K,by simp,_,hb,?_⟩
   have q:=r.bx K _ hb;generalize J K=fp at q ⊢;cases q with|map=>rw[cB.1 cK];simp
  ·cases hk
 |it K=>
  have hk:(match lk K s.bs with|some (.iter _ _)=>some [K]|_=>none)=some ks:=hk
  split at hk
  ·rename_i hb;cases hk;refine .inr ⟨K,by simp,_,hb,?_⟩
   have q:=r.bx K _ hb;generalize J K=fp at q ⊢;cases q with|iter=>rw[cB.1 cK];simp
  ·cases hk
 |undef=>cases hk
 |_=>cases cK
def V2 (r:Rel B F g J s tm h):∀{l:List Operand} {ks:aI},abj s.ts s.bs l=some ks->∀id∈pj tm l,(∃o,F id=some o)\/∃k∈ks,∃b,lk k s.bs=some b/\id∈J k
 | [],_,_,id,cK=>by cases cK
 |x::l,ks,hk,id,cK=>by
  let ⟨a,b,h1,h2,h3⟩:=bc hk;cases h3;have cK:id∈mo (bU tm x)++pj tm l:=cK;rcases ee.1 cK with cK|cK
  ·have bY:bM s.ts x≠ .undef:=λe=>by rw[e] at h1;cases h1
   let ⟨v,v1,v2⟩:=r.val rfl bY;rw[v1] at cK;rcases ato r v2 h1 id cK with c|⟨k,hk,c⟩
   ·exact .inl c
   ·exact .inr ⟨k,eJ _ hk,c⟩
  ·rcases V2 r h2 id cK with c|⟨k,hk,c⟩
   ·exact .inl c
   ·exact .inr ⟨k,ez _ hk,c⟩
def aqD (bs:bH):AV->Option aI
 | .undef=>none
 | .mp K=>(match lk K bs with|some (.map _)=>some [K]|_=>none)
 |_=>some []
def UE (ts:dd) (bs:bH):List Operand->Option aI
 | []=>some []
 |x::l=>bE (aqD bs (bM ts x)) (UE ts bs l) λa b=>some (a++b)
def Ft (ts:dd) (bs:bH) (op:Op):Option aI:=ay (akR op) (UE ts bs (Xp op)) (abj ts bs (Xp op))
def aqC (r:Rel B F g J s tm h) (hv:VA F g v y) (hk:aqD s.bs y=some ks):∀id∈idM (some v),∃k∈ks,∃b,lk k s.bs=some b/\id∈J k:=by
 intro id cK;cases hv with
 |mp K=>
  have hk:(match lk K s.bs with|some (.map _)=>some [K]|_=>none)=some ks:=hk
  split at hk
  ·rename_i hb;cases hk;refine ⟨K,by simp,_,hb,?_⟩
   have q:=r.bx K _ hb;generalize J K=fp at q ⊢;cases q with|map=>rw[cB.1 cK];simp
  ·cases hk
 |undef=>cases hk
 |_=>cases cK
def PF (r:Rel B F g J s tm h):∀{l:List Operand} {ks:aI},UE s.ts s.bs l=some ks->∀id∈Hc tm l,∃k∈ks,∃b,lk k s.bs=some b/\id∈J k
 | [],_,_,id,cK=>by cases cK
 |x::l,ks,hk,id,cK=>by
  let ⟨a,b,h1,h2,h3⟩:=bc hk;cases h3;have bY:bM s.ts x≠ .undef:=λe=>by rw[e] at h1;cases h1
  let ⟨v,v1,v2⟩:=r.val rfl bY;rcases ee.1 (show id∈idM (bU tm x)++Hc tm l from cK) with cK|cK
  ·rw[v1] at cK;let ⟨k,c1,c2⟩:=aqC r v2 h1 id cK;exact ⟨k,eJ _ c1,c2⟩
  ·let ⟨k,c1,c2⟩:=PF r h2 id cK;exact ⟨k,ez _ c1,c2⟩
def akZ (r:Rel B F g J s tm h) {op:Op} (hk:Ft s.ts s.bs op=some ks):∀id∈kL op tm,(∃o,F id=some o)\/∃k∈ks,∃b,lk k s.bs=some b/\id∈J k:=by
 rw[akj];unfold Ft at hk;cases hl:akR op with
 |true=>
  rw[hl] at hk;exact λid cK=>.inr (PF r hk id cK)
 |false=>
  rw[hl] at hk;exact λid cK=>V2 r hk id cK
end
section
variable {F F':Hf} {g g':Gb} {B:Bs} {J:cS} {s s' s1:LS} {tm:cq} {h:Hs} {hp:Hf} {E:Env} {nt:Nat}
variable {base W cur nc:Nat} {vs zn:List LS} {laid:cy} {pp:List (Rc×PI)} {Fs:Nat->Hf} {lim:Nat->Nat}
variable {i:Nat} {b:Bx} {l:Bool} {o:Oper}
def GK {new:Nat}:∀{us:cQ} {id:Nat},id∈og new us->id≠new/\∃u∈us,u.1=id
 | [],id,h=>by cases h
 |u::us,id,h=>by
  have h:id∈ay (Nat.beq u.1 new) (og new us) (u.1::og new us):=h;rw[bk] at h;split at h
  ·let ⟨a,v,b,c⟩:=GK h;exact ⟨a,v,dR _ b,c⟩
  ·rename_i bY;rcases bB.1 h with rfl|h
   ·exact ⟨λe=>bY ((beq_iff _ _).2 e),u,gw,rfl⟩
   ·let ⟨a,v,b,c⟩:=GK h;exact ⟨a,v,dR _ b,c⟩
def asj (h:∀u∈us,u.1=new):og new us= []:=by
 cases hw:og new us with
 |nil=>rfl
 |cons a l=>
  let ⟨h1,u,h2,h3⟩:=GK (new:=new) (us:=us) (id:=a) (by rw[hw];exact gw)
  exact absurd (h3.symm.trans (h u h2)) h1
def vJ:WK->aI
 |some (K,false)=> [K]
 |_=> []
def IQ:WK->Bool
 |some (_,false)=>false
 |_=>true
def Xx (Wk:WK) (cur:Nat) (laid:cy):cy:=match Wk with|some q=>(q.1,cur)::laid|none=>laid
def Ve {Wk:WK} (hk:∀l,Wk≠some (k,l)):kg g (wu g Wk new us v) [k]:=by
 cases Wk with
 |none=>exact λ_ _=>⟨rfl,rfl,rfl⟩
 |some q=>
  show kg g (if iD new us=true then g.at q.1 new (Vd v) else g) [k]
  split
  ·exact at_ne λe=>hk q.2 (by rw[e])
  ·exact λ_ _=>⟨rfl,rfl,rfl⟩
def avl {Wk:WK} (hk:iD new us=false\/∀l,Wk≠some (k,l)):tz J Wk new us k=J k:=by
 cases Wk with
 |none=>rfl
 |some q=>
  show (if iD new us=true then λk=>if k=q.1 then new::ay q.2 [] (J k).tail else J k else J) k=J k
  rcases hk with hk|hk
  ·rw[hk];rfl
  ·split
   ·exact aA λe=>hk q.2 (by rw[e])
   ·rfl
def acE {Wk:WK} (hi:i∈tz J Wk new us k):(i=new/\iD new us=true/\∃l,Wk=some (k,l))\/(i∈J k/\(iD new us=false\/Wk≠some (k,true))):=by
 cases Wk with
 |none=>exact .inr ⟨hi,.inr λhl=>by cases hl⟩
 |some q=>
  have hi:i∈(if iD new us=true then λk=>if k=q.1 then new::ay q.2 [] (J k).tail else J k else J) k:=hi
  split at hi
  ·rename_i hn;by_cases hk:k=q.1
   ·rw[show (λk=>if k=q.1 then new::ay q.2 [] (J k).tail else J k) k=new::ay q.2 [] (J k).tail from ax hk] at hi
    rcases bB.1 hi with hi|hi
    ·exact .inl ⟨hi,hn,q.2,by rw[hk]⟩
    ·let ⟨q1,q2⟩:=q;cases q2 with
     |true=>cases hi
     |false=>exact .inr ⟨List.mem_of_mem_tail hi,.inr λhl=>by cases hl⟩
   ·rw[show (λk=>if k=q.1 then new::ay q.2 [] (J k).tail else J k) k=J k from aA hk] at hi
    exact .inr ⟨hi,.inr λhl=>hk (by cases hl;rfl)⟩
  ·rename_i hn;exact .inr ⟨hi,.inl (by cases hx:iD new us with|false=>rfl|true=>exact absurd hx hn)⟩
def yN {Wk:WK} (h:lk k (s.Ba Wk).bs=some b):(∀l,Wk≠some (k,l))/\∃b0,lk k s.bs=some b0:=by
 cases Wk with
 |none=>exact ⟨λl hl=>(by cases hl),b,h⟩
 |some q=>
  let ⟨h1,b0,h2,_⟩:=UJ (s:=s) (K:=q.1) h;exact ⟨λl hl=>h1 (by cases hl;rfl),b0,h2⟩
def aqM (r:Rel B F g J s tm.get h) (Wk:WK):Rel B F g J (s.Ba Wk) tm.get h:=by
 cases Wk with
 |none=>exact r
 |some q=>exact abJ r q.1
def V7 {Wk:WK} (h1:∀l,Wk≠some (k,l)) (h2:lk k s.bs=some b):∃b',lk k (s.Ba Wk).bs=some b':=by
 cases Wk with
 |none=>exact ⟨b,h2⟩
 |some q=>
  have bY:k≠q.1:=λe=>h1 q.2 (by rw[e])
  show ∃b',lk k (ea q.1 (s.bs.map λp=>(p.1,p.2.fa q.1)))=some b'
  rw[ib,aA bY,mm,h2];exact ⟨_,rfl⟩
def PV {Wk:WK} (h:Wk=some (K,l)):(s.Ba Wk).free K:=by
 subst h;exact V6 s K
def jg:(s.cM d x).bs=s.bs:=by cases d<;>rfl
def UY {l l':List Y} (h:l'.length=l.length) {x:Y} (hx:l'[j]? =some x):∃y,l[j]? =some y:=by
 have:=(cg.1 hx).1;exact ⟨_,cg.2 ⟨by omega,rfl⟩⟩
def DR.op (D:DR B base W cur nc vs laid pp g J Fs lim tm.get h) {l:Nat} {Wk:WK} (iT:cur<W) (hl:vs[l]? =some sl) (hlen:zn.length=vs.length) (hOK:∀j s,vs[j]? =some s->l<=j->∃t,zn[j]? =some (t.cM o.dst x)/\bX E B o.op s t x Wk) (UP:∀j s,vs[j]? =some s->j<l->zn[j]? =some ((s.Ba Wk).cM o.dst .undef)) (hrk:Ft sl.ts sl.bs o.op=some rk) (tp:∀k j,(k∈rk\/k∈vJ Wk)->(k,j)∈laid->jQ m j=true) (qC:∀q∈pp,D9 l m rk (vJ Wk) false (IQ Wk) q.2):
  ∃v us,oO E o.op tm.get h.hp.get (base+cur)=some (v,us)/\gM m ⟨cur,false,kL o.op tm.get,og (base+cur) us,base+cur,base+cur+1⟩ (pp.map (·.1))=true/\
   ∃g' φ',DR B base W (cur+1) nc zn (Xx Wk cur laid) ((⟨cur,false,kL o.op tm.get,og (base+cur) us,base+cur,base+cur+1⟩,⟨cur,0,rk,vJ Wk,IQ Wk⟩)::pp) g' φ' Fs lim (cM tm o.dst v).get (h.gY us):=by
 generalize jP:base+cur=new;have tj:h.hp.get new=none:=by rw[<-jP];exact D.em cur (cF _) iT
 have hlo:B.nx<=new:=by have:=D.bn;omega
 let ⟨tl,tl1,tl2⟩:=hOK l sl hl (cF _);have rl:=D.r l sl hl;let ⟨v,us,o1,o2,o3,o4,o5,o6⟩:=tl2.go rl tj hlo;have hU:Upd h us new (h.gY us)\/(us= []/\h.gY us=h):=.inl ⟨λ_=>rfl,by rw[zq];exact cF _,by rw[zq];have:=D.hx;omega,λy hy=>hy⟩
 have iq:(h.gY us).nx=h.nx:=zq us h;have hw:∀id∈og new us,∃k∈vJ Wk,∃b,lk k sl.bs=some b/\id∈J k:=λid cK=>by
  let ⟨h1,u,h2,h3⟩:=GK cK;rcases o4 u h2 with c|⟨K,b,c1,c2,c3⟩
  ·exact absurd (h3.symm.trans c) h1
  ·rw[c1];exact ⟨K,by simp[vJ],b,c2,by rw[<-h3];exact c3⟩
 have hrd:∀id∈kL o.op tm.get,(∃o,Fs l id=some o)\/∃k∈rk,∃b,lk k sl.bs=some b/\id∈J k:=λid cK=>akZ rl hrk id cK
 have hwn:IQ Wk=true->og new us= []:=λhn=>asj λu hu=>(o4 u hu).elim (λc=>c) λ⟨K,b,c1,_⟩=>by rw[c1] at hn;cases hn
 refine ⟨v,us,o1,D.indep (rk:=rk) (wk:=vJ Wk) (wn:=IQ Wk) iT hl hrd hw (λid h1 h2=>.inl (by
  have h1:new<=id:=h1;have h2:id<new+1:=h2;omega)) tp hwn qC,wu g Wk new us v,tz J Wk new us,?_⟩
 have alF:∀(j:Nat) (s:LS),vs[j]? =some s->∀i,((∃o,Fs j i=some o)\/∃k b,(∀l,Wk≠some (k,l))/\lk k s.bs=some b/\i∈J k)->∀u∈us,u.1≠i:=λj s hj i hi u hu e=>by
  have hcom:∃t st,vs[t]? =some st/\j<=t/\l<=t:=by
   rcases Nat.le_total j l with c|c
   ·exact ⟨l,sl,hl,c,cF _⟩
   ·exact ⟨j,s,hj,cF _,c⟩
  let ⟨t,st,ht,t1,t2⟩:=hcom;have rt:=D.r t st ht;rcases o4 u hu with c|⟨K,b,c1,c2,c3⟩
  ·rw[e] at c;rcases hi with ⟨o,ho⟩|⟨k,b,_,hb,hi⟩
   ·rw[c] at ho;have:=(D.r j s hj).sub new o ho;rw[tj] at this;cases this
   ·exact ((D.r j s hj).bx k b hb).there i hi (by rw[c];exact tj)
  ·let ⟨b',cn⟩:=(D.up l t sl st t2 hl ht).2 K b c2;rw[e] at c3;rcases hi with ⟨o,ho⟩|⟨k,b1,hk,hb,hi⟩
   ·have:=(D.up j t s st t1 hj ht).1 i o ho;rw[rt.nf K b' cn i c3] at this;cases this
   ·let ⟨b2,nO⟩:=(D.up j t s st t1 hj ht).2 k b1 hb;exact rt.dj k K b2 b' nO cn (λe=>hk false (by rw[e];exact c1)) i hi c3
 have sep:∀(j:Nat) (s:LS),vs[j]? =some s->∀i,((∃o,Fs j i=some o)\/∃k b,(∀l,Wk≠some (k,l))/\lk k s.bs=some b/\i∈J k)->(h.gY us).hp.get i=h.hp.get i:=λj s hj i hi=>GL us (λu hu=>alF j s hj i hi u hu) h
 have seen:∀{j:Nat} {s':LS},zn[j]? =some s'->∃s,vs[j]? =some s/\(∀k b,lk k s'.bs=some b->(∃b,lk k s.bs=some b)\/(iD new us=true/\Wk=some (k,true)))/\(j<l->∀k b,lk k s'.bs=some b->∀l,Wk≠some (k,l)):=λ{j s'} jB=>by
  let ⟨s,hj⟩:=UY hlen jB;refine ⟨s,hj,?_⟩;rcases Nat.lt_or_ge j l with c|c
  ·have:=UP j s hj c;rw[jB] at this;cases this;refine ⟨λk b hb=> ?_,λ_ k b hb=> ?_⟩
   ·rw[jg] at hb;exact .inl (yN hb).2
   ·rw[jg] at hb;exact (yN hb).1
  ·let ⟨t,e1,e2⟩:=hOK j s hj c;rw[jB] at e1;cases e1;let ⟨v',us',p1,p2,p3,p4,p5,p6⟩:=e2.go (D.r j s hj) tj hlo;rw[o1] at p1;cases p1;refine ⟨λk b hb=> ?_,λhc=>by omega⟩
   rw[jg] at hb;exact p5 k b hb
 have same:∀{j1:Nat} {s1:LS} {k1:Nat} {b1:Bx} {j2:Nat} {s2:LS} {k2:Nat} {b2:Bx} {i:Nat},vs[j1]? =some s1->lk k1 s1.bs=some b1->i∈J k1->vs[j2]? =some s2->lk k2 s2.bs=some b2->i∈J k2->k1=k2:=λ{j1 s1 k1 b1 j2 s2 k2 b2 i} h1 h2 h3 h4 h5 h6=>by
  rcases Nat.le_total j1 j2 with c|c
  ·let ⟨b,hb⟩:=(D.up j1 j2 s1 s2 c h1 h4).2 k1 b1 h2;exact yq λbY=>(D.r j2 s2 h4).dj k1 k2 b b2 hb h5 bY i h3 h6
  ·let ⟨b,hb⟩:=(D.up j2 j1 s2 s1 c h4 h1).2 k2 b2 h5;exact yq λbY=>(D.r j1 s1 h1).dj k1 k2 b1 b h2 hb bY i h3 h6
 have noF:∀{j1:Nat} {s1:LS} {o:SO} {j2:Nat} {s2:LS} {k2:Nat} {b2:Bx} {i:Nat},vs[j1]? =some s1->Fs j1 i=some o->vs[j2]? =some s2->lk k2 s2.bs=some b2->i∈J k2->False:=λ{j1 s1 o j2 s2 k2 b2 i} h1 h2 h4 h5 h6=>by
  rcases Nat.le_total j1 j2 with c|c
  ·have:=(D.up j1 j2 s1 s2 c h1 h4).1 i o h2;rw[(D.r j2 s2 h4).nf k2 b2 h5 i h6] at this;cases this
  ·let ⟨b,hb⟩:=(D.up j2 j1 s2 s1 c h4 h1).2 k2 b2 h5;rw[(D.r j1 s1 h1).nf k2 b hb i h6] at h2;cases h2
 have r2:∀(j:Nat) (s':LS),zn[j]? =some s'->Rel B (Fs j) (wu g Wk new us v) (tz J Wk new us) s' (cM tm o.dst v).get (h.gY us):=λj s' jB=>by
  let ⟨s,hj⟩:=UY hlen jB;rcases Nat.lt_or_ge j l with c|c
  ·have:=UP j s hj c;rw[jB] at this;cases this;refine Rel.cM ?_ (λhc=>absurd rfl hc)
   refine (aqM (D.r j s hj) Wk).amC (o3 _ hU) (λid o ho=>sep j s hj id (.inl ⟨o,ho⟩)) (λk b hb i hi=> ?_) (λk b hb=>avl (.inr (yN hb).1)) (λt y hy=> ?_) λk b hb=>⟨Ve (yN hb).1,?_⟩
   ·let ⟨c1,b0,c2⟩:=yN hb;exact sep j s hj i (.inr ⟨k,b0,c1,c2,hi⟩)
   ·intro k hk;refine Ve (k:=k) (λl hl=> ?_) k (by simp)
    exact (PV (s:=s) hl).1 t y hy hk
   ·intro k' gO;refine Ve (k:=k') (λl hl=> ?_) k' (by simp)
    exact (PV (s:=s) hl).2 k b (λe=>(yN hb).1 l (by rw[e];exact hl)) hb gO
  ·let ⟨t,e1,e2⟩:=hOK j s hj c;rw[jB] at e1;cases e1;let ⟨v',us',p1,p2,p3,p4,p5,p6⟩:=e2.go (D.r j s hj) tj hlo;rw[o1] at p1;cases p1;exact (p3 _ hU).cM λ_=>p2
 refine ⟨r2,λj j' s s' DC hj jB=> ?_,λj s' jB id o ho=> ?_,λj s' jB k b hb i hi=> ?_,λj s' jB=> ?_,by rw[hlen];exact D.top,by rw[iq];exact D.hx,λq hq AJ=> ?_,D.bn,λq hq=> ?_,λq hq id cK=> ?_,λq hq j s' jB k b hb i hi=> ?_,λq hq i hi j s' jB=> ?_,λq hq hn=> ?_⟩
 ·let ⟨s0,a1,a2,a3⟩:=seen hj;let ⟨AD,b1,b2,b3⟩:=seen jB;refine ⟨(D.up j j' s0 AD DC a1 b1).1,λk b hb=> ?_⟩
  rcases Nat.lt_or_ge j' l with c|c
  ·have e0:=UP j' AD b1 c;rw[jB] at e0;cases e0;have bY:=a3 (by omega) k b hb
   rcases a2 k b hb with ⟨b',cn⟩|⟨_,hl'⟩
   ·let ⟨b2',hb2'⟩:=(D.up j j' s0 AD DC a1 b1).2 k b' cn;rw[jg];exact V7 bY hb2'
   ·exact absurd hl' (bY true)
  ·let ⟨t,e1,e2⟩:=hOK j' AD b1 c;rw[jB] at e1;cases e1;let ⟨v',us',p1,p2,p3,p4,p5,p6⟩:=e2.go (D.r j' AD b1) tj hlo;rw[jg];rcases a2 k b hb with ⟨b',cn⟩|⟨_,hl'⟩
   ·exact p6 k (.inl ((D.up j j' s0 AD DC a1 b1).2 k b' cn))
   ·exact p6 k (.inr ⟨true,hl'⟩)
 ·let ⟨s,hj⟩:=UY hlen jB;exact D.fb j s hj id o ho
 ·let ⟨s0,a1,a2,a3⟩:=seen jB;rcases acE hi with ⟨c1,c2,l',c3⟩|⟨c1,c2⟩
  ·refine .inr (.inr ⟨cur,?_,EU _,by rw[c1,jP]⟩)
   rw[c3];exact gw
  ·have hs:∃b,lk k s0.bs=some b:=by
    rcases a2 k b hb with c|⟨d1,d2⟩
    ·exact c
    ·rcases c2 with c2|c2
     ·rw[c2] at d1;cases d1
     ·exact absurd d2 c2
   let ⟨b0,fT⟩:=hs;rcases D.bb j s0 a1 k b0 fT i c1 with d|d|⟨q,d1,d2,d3⟩
   ·exact .inl d
   ·exact .inr (.inl d)
   ·refine .inr (.inr ⟨q,?_,by omega,d3⟩)
    unfold Xx;split
    ·exact dR _ d1
    ·exact d1
 ·let ⟨s,hj⟩:=UY hlen jB;rw[iq];exact D.lm j s hj
 ·have hq0:h.hp.get (base+q)=none:=D.em q (by omega) AJ
  rw[GL us (λu hu e=> ?_) h]
  ·exact hq0
  ·rcases o4 u hu with c|⟨K,b,_,c2,c3⟩
   ·omega
   ·rw[e] at c3;exact (rl.bx K b c2).there _ c3 hq0
 ·rcases bB.1 hq with rfl|hq
  ·exact ⟨rfl,EU _,pU _,λ_=>⟨rfl,jP.symm,by show new+1=base+cur+1;omega⟩,λhc=>absurd rfl hc⟩
  ·let ⟨p1,p2,p3,p4,p5⟩:=D.pi q hq;refine ⟨p1,by omega,p3,p4,λhn=> ?_⟩
   let ⟨a1,a2,a3,a4⟩:=p5 hn;refine ⟨a1,a2,by rw[iq];exact a3,λj s' jB bD=> ?_⟩
   let ⟨s,hj⟩:=UY hlen jB;exact a4 j s hj bD
 ·rw[iq];rcases bB.1 hq with rfl|hq
  ·have rq:=D.lm l sl hl;have cK:(∃o,Fs l id=some o)\/∃k b,lk k sl.bs=some b/\id∈J k:=by
    rcases cK with c|c
    ·rcases hrd id c with c|⟨k,_,b,c1,c2⟩
     ·exact .inl c
     ·exact .inr ⟨k,b,c1,c2⟩
    ·let ⟨k,_,b,c1,c2⟩:=hw id c;exact .inr ⟨k,b,c1,c2⟩
   rcases cK with ⟨o,ho⟩|⟨k,b,c1,c2⟩
   ·rcases D.fb l sl hl id o ho with d|d
    ·exact .inl d
    ·exact .inr (.inl (by omega))
   ·rcases D.bb l sl hl k b c1 id c2 with d|d|⟨q,d1,d2,d3⟩
    ·exact .inl d
    ·exact .inr (.inl (by omega))
    ·exact .inr (.inr ⟨q,(show q<=cur by omega),d3⟩)
  ·exact D.po q hq id cK
 ·let ⟨s0,a1,a2,a3⟩:=seen jB;have hs:(i=new)\/(i∈J k/\∃b,lk k s0.bs=some b):=by
   rcases acE hi with ⟨c1,_⟩|⟨c1,c2⟩
   ·exact .inl c1
   ·refine .inr ⟨c1,?_⟩;rcases a2 k b hb with c|⟨d1,d2⟩
    ·exact c
    ·rcases c2 with c2|c2
     ·rw[c2] at d1;cases d1
     ·exact absurd d2 c2
  rcases bB.1 hq with rfl|hq
  ·refine ⟨λhr=> ?_,λhr=> ?_⟩
   ·rcases hrd i hr with ⟨o,ho⟩|⟨k0,FB,b0,c1,c2⟩
    ·rcases hs with rfl|⟨c1,b0,c2⟩
     ·rw[rl.sub _ o ho] at tj;cases tj
     ·exact (noF hl ho a1 c2 c1).elim
    ·rcases hs with rfl|⟨d1,b1,d2⟩
     ·exact absurd tj ((rl.bx k0 b0 c1).there _ c2)
     ·rw[same a1 d2 d1 hl c1 c2];exact FB
   ·let ⟨k0,FB,b0,c1,c2⟩:=hw i hr;rcases hs with rfl|⟨d1,b1,d2⟩
    ·exact absurd tj ((rl.bx k0 b0 c1).there _ c2)
    ·rw[same a1 d2 d1 hl c1 c2];exact FB
  ·rcases hs with e|⟨d1,b1,d2⟩
   ·let ⟨p1,p2,_⟩:=D.pi q hq;have mY:¬(i∈q.1.rd\/i∈q.1.wr):=λhc=>by
     have:=D.hx;rcases D.po q hq i hc with d|d|⟨j',d1,d2⟩<;>omega
    exact ⟨λhc=>absurd (.inl hc) mY,λhc=>absurd (.inr hc) mY⟩
   ·exact D.pr q hq j s0 a1 k b1 d2 i d1
 ·let ⟨s0,hj⟩:=UY hlen jB;rcases bB.1 hq with rfl|hq
  ·let ⟨k0,FB,b0,c1,c2⟩:=hw i hi;cases hf:Fs j i with
   |none=>rfl
   |some o=>exact (noF hj hf hl c1 c2).elim
  ·exact D.pf q hq i hi j s0 hj
 ·rcases bB.1 hq with rfl|hq
  ·exact hwn hn
  ·exact D.pw q hq hn
end
section
variable {F F':Hf} {g g':Gb} {B:Bs} {J:cS} {s s' s1:LS} {tm:cq} {h:Hs} {hp:Hf} {E:Env} {nt:Nat}
variable {base W cur nc:Nat} {vs zn:List LS} {laid:cy} {pp:List (Rc×PI)} {Fs:Nat->Hf} {lim:Nat->Nat}
variable {K':Nat} {b:Bx}
def DR.skip (D:DR B base W cur nc vs laid pp g J Fs lim tm.get h) (iT:cur<W):
  gM m ⟨cur,false,[],[],base+cur,base+cur+1⟩ (pp.map (·.1))=true/\DR B base W (cur+1) nc (vs.map λs=>s.cM d (.cm [])) laid ((⟨cur,false,[],[],base+cur,base+cur+1⟩,⟨cur,0,[],[],true⟩)::pp) g J Fs lim (cM tm d (.cm [])).get h:=by
 have bD:0<vs.length:=by rw[D.top];omega
 have hl:vs[0]? =some vs[0]:=dW bD;have back:∀{j:Nat} {s':LS},(vs.map λs=>s.cM d (.cm []))[j]? =some s'->∃s,vs[j]? =some s/\s'=s.cM d (.cm []):=λ{j s'} hj=>by
  rw[kK] at hj;obtain ⟨s,hs,rfl⟩:=kP.1 hj;exact ⟨s,hs,rfl⟩
 refine ⟨?_,λj s' hj=> ?_,λj j' s s' DC hj jB=> ?_,λj s' hj=> ?_,λj s' hj k b hb i hi=> ?_,λj s' hj=> ?_,by rw[iz];exact D.top,D.hx,λq hq AJ=>D.em q (by omega) AJ,D.bn,λq hq=> ?_,λq hq id cK=> ?_,λq hq j s' hj k b hb i hi=> ?_,λq hq i hi j s' hj=> ?_,λq hq hn=> ?_⟩
 ·refine D.indep (l:=0) (rk:= []) (wk:= []) (wn:=true) iT hl (λid cK=>by cases cK) (λid cK=>by cases cK) (λid h1 h2=>.inl ?_) (λk j hk=>by rcases hk with c|c<;>cases c) (λ_=>rfl) λq hq=> ?_
  ·have h1:base+cur<=id:=h1;have h2:id<base+cur+1:=h2;omega
  ·exact .inr ⟨λhn=>⟨by omega,rfl,rfl⟩,λhc=>(by cases hc),λk hk=>(by cases hk),λk hk=>by cases hk⟩
 ·obtain ⟨s,hs,rfl⟩:=back hj;exact (D.r j s hs).cM λ_=>.cm .nil
 ·obtain ⟨s0,hs,rfl⟩:=back hj;obtain ⟨AD,hs',rfl⟩:=back jB;let ⟨a,b⟩:=D.up j j' s0 AD DC hs hs';exact ⟨a,λk b' hb=>by rw[jg] at hb ⊢;exact b k b' hb⟩
 ·obtain ⟨s,hs,rfl⟩:=back hj;exact D.fb j s hs
 ·obtain ⟨s,hs,rfl⟩:=back hj;rw[jg] at hb;rcases D.bb j s hs k b hb i hi with c|c|⟨q,c1,c2,c3⟩
  ·exact .inl c
  ·exact .inr (.inl c)
  ·exact .inr (.inr ⟨q,c1,by omega,c3⟩)
 ·obtain ⟨s,hs,rfl⟩:=back hj;exact D.lm j s hs
 ·rcases bB.1 hq with rfl|hq
  ·exact ⟨rfl,EU _,pU _,λ_=>⟨rfl,rfl,rfl⟩,λhc=>absurd rfl hc⟩
  ·let ⟨p1,p2,p3,p4,p5⟩:=D.pi q hq;refine ⟨p1,by omega,p3,p4,λhn=> ?_⟩
   let ⟨a1,a2,a3,a4⟩:=p5 hn;exact ⟨a1,a2,a3,λj s' hj bD=>by obtain ⟨s,hs,rfl⟩:=back hj;exact a4 j s hs bD⟩
 ·rcases bB.1 hq with rfl|hq
  ·rcases cK with c|c<;>cases c
  ·exact D.po q hq id cK
 ·obtain ⟨s,hs,rfl⟩:=back hj;rw[jg] at hb;rcases bB.1 hq with rfl|hq
  ·exact ⟨λhc=>(by cases hc),λhc=>by cases hc⟩
  ·exact D.pr q hq j s hs k b hb i hi
 ·obtain ⟨s,hs,rfl⟩:=back hj;rcases bB.1 hq with rfl|hq
  ·cases hi
  ·exact D.pf q hq i hi j s hs
 ·rcases bB.1 hq with rfl|hq
  ·rfl
  ·exact D.pw q hq hn
def LS.Hn (s:LS):aI->LS
 | []=>s
 |k::ks=>(s.wi k).Hn ks
def alC (hf:s.free K):(s.wi K').free K:=by
 refine ⟨λt x hx hc=> ?_,λk b bY hb hc=> ?_⟩
 ·obtain ⟨y,hy,rfl⟩:=aBi hx;unfold jL at hc;rw[bk] at hc;split at hc
  ·cases hc
  ·exact hf.1 t y hy hc
 ·obtain ⟨_,b0,h0,rfl⟩:=UJ hb;have h2:=hf.2 k b0 bY h0;cases b0 with
  |flat e cs=>
   have key:∀cs:aB,K∈eW (Cr K' cs)->K∈eW cs:=λcs=>by
    induction cs with
    |nil=>exact λh=>h
    |cons x l ih=>
     intro h;rcases ee.1 (show K∈dE (jL K' x)++eW (Cr K' l) from h) with h|h
     ·unfold jL at h;rw[bk] at h;split at h
      ·cases h
      ·exact eJ _ h
     ·exact ez _ (ih h)
   exact h2 (key cs hc)
  |hole e s0 Q i x=>
   refine h2 ?_;have h:K∈dE (jL K' x):=hc;unfold jL at h;rw[bk] at h;split at h
   ·cases h
   ·exact h
  |tree e s0 l Q o=>
   have key:∀o:dd,K∈vN (l4 (jL K') o)->K∈vN o:=λo=>by
    induction o with
    |nil=>exact λh=>h
    |cons p l ih=>
     intro h;rcases ee.1 (show K∈dE (jL K' p.2)++vN (l4 (jL K') l) from h) with h|h
     ·unfold jL at h;rw[bk] at h;split at h
      ·cases h
      ·exact eJ _ h
     ·exact ez _ (ih h)
   exact h2 (key o hc)
  |_=>cases hc
def V8:∀(ks:aI) {s:LS},Rel B F g J s tm.get h->Rel B F g J (s.Hn ks) tm.get h
 | [],_,r=>r
 |k::ks,_,r=>V8 ks (abJ r k)
def abK:∀{ks:aI} {s:LS} {k:Nat} {b:Bx},lk k (s.Hn ks).bs=some b->k∉ks/\∃b0,lk k s.bs=some b0
 | [],_,_,b,h=>⟨λhc=>(by cases hc),b,h⟩
 |K::ks,s,k,b,h=>by
  let ⟨h1,b0,h2⟩:=abK (ks:=ks) (s:=s.wi K) h;let ⟨h3,b1,h4,_⟩:=UJ h2;exact ⟨λhc=>(bB.1 hc).elim h3 h1,b1,h4⟩
def V9:∀{ks:aI} {s:LS} {k:Nat} {b:Bx},k∉ks->lk k s.bs=some b->∃b',lk k (s.Hn ks).bs=some b'
 | [],_,_,b,_,h=>⟨b,h⟩
 |K::ks,s,k,b,hk,h=>by
  let ⟨b',cn⟩:=V7 (s:=s) (Wk:=some (K,true)) (k:=k) (λl hl=>hk (by cases hl;exact gw)) h
  exact V9 (ks:=ks) (s:=s.wi K) (λhc=>hk (dR _ hc)) cn
def PW {K:Nat}:∀{ks:aI} {s:LS},s.free K->(s.Hn ks).free K
 | [],_,h=>h
 |k::ks,_,h=>PW (ks:=ks) (alC h)
def Hm:∀{ks:aI} {s:LS} {K:Nat},K∈ks->(s.Hn ks).free K
 |k::ks,s,K,h=>by
  rcases bB.1 h with rfl|h
  ·exact PW (s:=s.wi K) (V6 s K)
  ·exact Hm (s:=s.wi k) h
def LS.Kk (s:LS):aI->LS
 | []=>s
 |k::ks=>(LS.mk s.ts (ea k s.bs)).Kk ks
def Kj:∀{ks:aI} {s:LS} {k:Nat} {b:Bx},lk k (s.Kk ks).bs=some b->k∉ks/\lk k s.bs=some b
 | [],_,_,b,h=>⟨λhc=>(by cases hc),h⟩
 |K::ks,s,k,b,h=>by
  let ⟨h1,h2⟩:=Kj (ks:=ks) (s:=LS.mk s.ts (ea K s.bs)) h;have h2:lk k (ea K s.bs)=some b:=h2;rw[ib] at h2;split at h2
  ·cases h2
  ·rename_i bY;exact ⟨λhc=>(bB.1 hc).elim bY h1,h2⟩
def Qd:∀{ks:aI} {s:LS} {k:Nat} {b:Bx},k∉ks->lk k s.bs=some b->lk k (s.Kk ks).bs=some b
 | [],_,_,_,_,h=>h
 |K::ks,s,k,b,hk,h=>Qd (ks:=ks) (s:=LS.mk s.ts (ea K s.bs)) (λhc=>hk (dR _ hc)) (by
  show lk k (ea K s.bs)=some b;rw[ib,aA (λ(e:k=K)=>hk (by rw[e];exact gw))];exact h)
def Wi:∀{ks:aI} {s:LS},(s.Kk ks).ts=s.ts
 | [],_=>rfl
 |K::ks,s=>Wi (ks:=ks) (s:=LS.mk s.ts (ea K s.bs))
def BO:cy->aI
 | []=> []
 |q::l=>ay (lA q.2) (BO l) (q.1::BO l)
def SB:∀{ps:cy} {q:Nat×Nat},q∈ps->lA q.2=false->q.1∈BO ps
 |p::l,q,hq,he=>by
  show q.1∈ay (lA p.2) (BO l) (p.1::BO l);rw[bk];rcases bB.1 hq with rfl|hq
  ·rw[he];exact gw
  ·split
   ·exact SB hq he
   ·exact dR _ (SB hq he)
def YK:∀{ps:cy} {k:Nat},k∈BO ps->k∈ps.map (·.1)
 |p::l,k,hk=>by
  have hk:k∈ay (lA p.2) (BO l) (p.1::BO l):=hk;rw[bk] at hk;split at hk
  ·exact dR _ (YK hk)
  ·rcases bB.1 hk with rfl|hk
   ·exact gw
   ·exact dR _ (YK hk)
def LS.zd (s:LS) (ps rs:cy):LS:=(s.Kk (ps.map (·.1))).Hn (BO ps++rs.map (·.1))
def aqN (ps rs:cy) {s:LS} (r:Rel B F g J s tm.get h):Rel B F g J (s.zd ps rs) tm.get h:=
 V8 _ (r.less ⟨λt y hy=>.inr ⟨y,by rw[Wi] at hy;exact hy,WV.refl y⟩,λk b hb=>⟨b,(Kj hb).2,WB.refl b⟩⟩)
def oU {ps rs:cy} {s:LS} (h:lk k (s.zd ps rs).bs=some b):k∉(ps++rs).map (·.1)/\∃b0,lk k s.bs=some b0:=by
 let ⟨h1,b0,h2⟩:=abK h;let ⟨h3,h4⟩:=Kj h2;rw[pT];exact ⟨λhc=>(ee.1 hc).elim h3 λhc=>h1 (ez _ hc),b0,h4⟩
def aqO {ps rs:cy} {s:LS} (hk:k∉(ps++rs).map (·.1)) (h:lk k s.bs=some b):∃b',lk k (s.zd ps rs).bs=some b':=by
 rw[pT] at hk;exact V9 (λhc=>(ee.1 hc).elim (λhc=>hk (eJ _ (YK hc))) λhc=>hk (ez _ hc)) (Qd (λhc=>hk (eJ _ hc)) h)
def PX {ps rs:cy} {s:LS} (hq:q∈rs):(s.zd ps rs).free q.1:=Hm (ez _ (dS.2 ⟨q,hq,rfl⟩))
def Np {ps rs:cy} {s:LS} (hq:q∈ps) (he:lA q.2=false):(s.zd ps rs).free q.1:=Hm (eJ _ (SB hq he))
def oE {n x:Nat}:∀{l acc:aI},x∈below n l acc->x∈acc\/(x∈l/\x<n)
 | [],_,hx=>.inl hx
 |y::l,acc,hx=>by
  have hx:x∈ay (Nat.ble (Nat.succ y) n) (below n l (y::acc)) (below n l acc):=hx;rw[bk] at hx;split at hx
  ·rename_i bD;rcases oE hx with c|c
   ·rcases bB.1 c with rfl|c
    ·exact .inr ⟨by simp,fU bD⟩
    ·exact .inl c
   ·exact .inr ⟨dR _ c.1,c.2⟩
  ·rcases oE hx with c|c
   ·exact .inl c
   ·exact .inr ⟨dR _ c.1,c.2⟩
def qG (w:aI):cy->aI
 | []=> []
 |q::l=>ay (ke q.2 w) (q.1::qG w l) (qG w l)
def Sy {w:aI}:∀{ps:cy} {K k:Nat},(K,k)∈ps->k∈w->K∈qG w ps
 |p::l,K,k,hm,hk=>by
  show K∈ay (ke p.2 w) (p.1::qG w l) (qG w l);rw[bk];rcases bB.1 hm with rfl|hm
  ·rw[ax ((qx _ _).2 hk)];exact gw
  ·split
   ·exact dR _ (Sy hm hk)
   ·exact Sy hm hk
def YI {w:aI}:∀{ps:cy} {K:Nat},K∈qG w ps->K∈ps.map (·.1)
 |p::l,K,hk=>by
  have hk:K∈ay (ke p.2 w) (p.1::qG w l) (qG w l):=hk;rw[bk] at hk;split at hk
  ·rcases bB.1 hk with rfl|hk
   ·exact gw
   ·exact dR _ (YI hk)
  ·exact dR _ (YI hk)
def DR.call (D:DR B base W cur nc vs laid pp g J Fs lim tm.get h) {d:da} {m f:Nat} {st mX:LS} {w:aI} (hs0:∀{F:Hf} {g:Gb} {J:cS} {tm:Tf} {h:Hs},Rel B F g J st tm h->Rel B F g J mX tm h) (hsb:∀k,(∃b,lk k mX.bs=some b)↔∃b,lk k st.bs=some b) {ps rs:cy} {bs cC ob:bH} {xs:aB} {y:AV} {aa:aM} (iT:cur<W) (ig:vs[nc]? =some st) (hg:tv (ps++rs)=true) (pD:te mX.bs (ps++rs) ps=some bs) (Cm:ti mX.bs (ps++rs) ps ps=true) (rG:lO ps (eW xs)=true) (has:bZ (Fs nc) g aa xs)
  (hrs:∀q∈rs,mX.free q.1/\B.pk q.1=false/\lk q.1 mX.bs=none) (Iw:∀q∈ps,lA q.2=false->B.pn q.1=false/\(∀t x,lk t mX.ts=some x->q.1∉dE x)/\∀k b,lk k mX.bs=some b->lk k (ps++rs)=none->q.1∉b.keys) (aui:∀q∈ps++rs,∀q'∈ps,fN q'.2=fN q.2->q'.1=q.1\/((q'.1∈qG w ps->q.1∈qG w ps)/\(∀j,(q'.1,j)∉laid)/\∀p∈pp,q'.1∉p.2.rk/\q'.1∉p.2.wk)) (N6:∀q∈ps++rs,∀q'∈ps,fN q'.2=fN q.2->∀i,B.ps q'.1 i\/B.nx<=i->B.ps q.1 i\/B.nx<=i) (hc:xV E f bs (l3 (oD (ps++rs)) xs) y cC w) (hob:G1 cC (ps++rs) (ps++rs)=some ob) (JU:A8 ps cC (ps++rs) (ps++rs)=true) (Fz:lO (oi (ps++rs)) (dE y)=true)
  (tp:∀k j,k∈ps.map (·.1)->(k,j)∈laid->jQ m j=true) (qC:∀q∈pp,D9 nc m [] (qG w ps) true false q.2):
  ∃v h2,df E (.call (.fn (.func f) [] []) aa ⟨qB m (pp.map (·.1)) h.hp,h.nx,[]⟩) (.gg [⟨false,v,h2⟩])/\gM m ⟨cur,true,[],below h.nx h2.lg [],h.nx,h2.nx⟩ (pp.map (·.1))=true/\
   ∃g' φ' C2 uU,DR B base W (cur+1) (nc+1) ((vs.map λs=>(s.zd ps rs).cM d .undef)++ [LS.cM ⟨mX.ts,ob++mX.bs⟩ d (nw (jU (ps++rs)) y)]) laid ((⟨cur,true,[],below h.nx h2.lg [],h.nx,h2.nx⟩,⟨cur,nc+1,[],qG w ps,false⟩)::pp) g' φ' C2 uU (cM tm d v).get ⟨jb m h.hp (pp.map (·.1)) h2.hp,h2.nx,below h.nx h2.lg h.lg⟩:=by
 have rt:=hs0 (D.r nc st ig);have sb:∀{k b},lk k mX.bs=some b->∃b',lk k st.bs=some b':=λ{k b} hb=>(hsb k).1 ⟨b,hb⟩
 have sb':∀{k b},lk k st.bs=some b->∃b',lk k mX.bs=some b':=λ{k b} hb=>(hsb k).2 ⟨b,hb⟩
 have hpm:∀{K k b},(K,k)∈ps->lk K mX.bs=some b->K∈ps.map (·.1):=λh1 _=>dS.2 ⟨_,h1,rfl⟩
 have J1:∀x,Hid m (pp.map (·.1)) x->∃q∈pp,jQ m q.2.i=false/\q.2.n=0/\x=base+q.2.i/\q.2.i<cur:=λx ⟨p,hp,h1,h2⟩=>by
  obtain ⟨q,hq,rfl⟩:=dS.1 hp;let ⟨p1,p2,p3,p4,p5⟩:=D.pi q hq;rw[p1] at h1;have hn:q.2.n=0:=by
   rcases qC q hq with c|⟨c,_⟩
   ·rw[h1] at c;cases c
   ·exact yq λhn=>by have:=(c hn).1;omega
  exact ⟨q,hq,h1,hn,by rw[<-h2];exact (p4 hn).2.1,p2⟩
 have rq:=D.lm nc st ig;have aum:∀{K k b},(K,k)∈ps->lk K mX.bs=some b->∀i∈J K,¬Hid m (pp.map (·.1)) i:=λ{K k b} h1 h2 i hi hc=>by
  let ⟨q,hq,b1,b2,b3,b4⟩:=J1 i hc;let ⟨b',J3⟩:=sb h2;rcases D.bb nc st ig K b' J3 i hi with c|c|⟨j,c1,c2,c3⟩
  ·omega
  ·omega
  ·have e:j=q.2.i:=by omega
   have:=tp K j (hpm h1 h2) c1;rw[e,b1] at this;cases this
 let ⟨F',g2,φ2,h1,v,go,hv,hr,hF,hFn,UO,alG,hφn,hgs,abD,hold⟩:=rt.call (hh:=⟨qB m (pp.map (·.1)) h.hp,h.nx,[]⟩) (Hd:=Hid m (pp.map (·.1))) (λx hx=>(jG _ _ x).2 hx) (λx hx=>by
  let ⟨q,hq,b1,b2,b3,b4⟩:=J1 x hx;refine ⟨(jG _ _ x).1 hx,?_,?_,λK k b m1 m2 hi=>aum m1 m2 x hi hx⟩
  ·cases hf:Fs nc x with
   |none=>rfl
   |some o=>rcases D.fb nc st ig x o hf with c|c<;>omega
  ·show x<h.nx;have:=D.hx;omega) rfl hg pD Cm rG has hrs Iw N6 hc hob JU Fz
 have UO:h.nx<=h1.nx:=UO;generalize hh2:(⟨h1.hp,h1.nx,below h.nx h1.lg []⟩:Hs)=h2 at go;have e1:h2.hp=h1.hp:=by rw[<-hh2]
 have e2:h2.nx=h1.nx:=by rw[<-hh2]
 have e3:h2.lg=below h.nx h1.lg []:=by rw[<-hh2]
 have JP:∀id∈below h.nx h2.lg [],id<h.nx/\∃k∈qG w ps,∃b,lk k mX.bs=some b/\id∈J k:=λid cK=>by
  rcases oE cK with c|⟨c1,c2⟩
  ·cases c
  ·rw[e3] at c1;rcases oE c1 with c|⟨c3,_⟩
   ·cases c
   ·let ⟨K,k,b,d0,d1,d2,d3⟩:=alG id c3 c2;exact ⟨c2,K,Sy d1 d0,b,d2,d3⟩
 have akf:=hr ⟨jb m h.hp (pp.map (·.1)) h2.hp,h2.nx,below h.nx h2.lg h.lg⟩ (λx hx=>((me _ _ x).2 hx).trans (by rw[e1])) (λx hx=>(me _ _ x).1 hx) e2 (λx hx=>by
  rcases oE hx with c|⟨c1,c2⟩
  ·exact .inl c
  ·rw[e3] at c1;rcases oE c1 with c|⟨c3,_⟩
   ·cases c
   ·exact .inr ⟨c3,c2⟩)
 generalize tq:(⟨jb m h.hp (pp.map (·.1)) h2.hp,h2.nx,below h.nx h2.lg h.lg⟩:Hs)=h' at*
 have oA:h'.nx=h1.nx:=by rw[<-tq,<-e2]
 have keep:∀x,x<h.nx->(∀K k b,(K,k)∈ps->lk K mX.bs=some b->x∉J K)->h'.hp.get x=h.hp.get x:=λx hx mY=>by
  rw[<-tq];show (jb m h.hp (pp.map (·.1)) h2.hp).get x=_
  by_cases c:Hid m (pp.map (·.1)) x
  ·exact (me _ _ x).1 c
  ·rw[(me _ _ x).2 c,e1,hold x hx mY];exact (jG _ _ x).2 c
 let C2:Nat->Hf:=λj=>if j=nc+1 then F' else Fs j
 let uU:Nat->Nat:=λj=>if j=nc+1 then h1.nx else lim j
 have Fo:∀{j},j<=nc->C2 j=Fs j:=λ{j} hj=>aA (by omega)
 have Fn:C2 (nc+1)=F':=ax rfl;have lo:∀{j},j<=nc->uU j=lim j:=λ{j} hj=>aA (by omega)
 have ln:uU (nc+1)=h1.nx:=ax rfl;generalize rp:(vs.map λs=>(s.zd ps rs).cM d .undef)++ [LS.cM ⟨mX.ts,ob++mX.bs⟩ d (nw (jU (ps++rs)) y)]=vs2
 have view:∀{j:Nat} {s':LS},vs2[j]? =some s'->(j<=nc/\∃s,vs[j]? =some s/\s'=(s.zd ps rs).cM d .undef)\/(j=nc+1/\s'=LS.cM ⟨mX.ts,ob++mX.bs⟩ d (nw (jU (ps++rs)) y)):=λ{j s'} hj=>by
  rw[<-rp,oI] at hj;split at hj
  ·rename_i bD;rw[iz,D.top] at bD;rw[kK] at hj;obtain ⟨s,hs,rfl⟩:=kP.1 hj;exact .inl ⟨by omega,s,hs,rfl⟩
  ·rename_i bD;rw[iz,D.top] at bD hj;have:j-(nc+1)=0:=by
    have:=(cg.1 hj).1;simp at this;omega
   rw[this] at hj;cases hj;exact .inr ⟨by omega,rfl⟩
 have alw:∀{j:Nat} {s:LS} {k:Nat} {b:Bx},vs[j]? =some s->lk k s.bs=some b->∃b',lk k mX.bs=some b':=λ{j s k b} hj hb=>by
  have hle:j<=nc:=by have:=(cg.1 hj).1;rw[D.top] at this;omega
  let ⟨b',cn⟩:=(D.up j nc s st hle hj ig).2 k b hb;exact sb' cn
 have nal:∀{K:Nat},K∉(ps++rs).map (·.1)->lk K (ps++rs)=none:=λ{K} hK=>by
  cases hl:lk K (ps++rs) with
  |none=>rfl
  |some k=>exact absurd (dS.2 ⟨_,nX hl,rfl⟩) hK
 have amC:∀{j:Nat} {s:LS} {k:Nat} {b:Bx} {i:Nat},vs[j]? =some s->k∉(ps++rs).map (·.1)->lk k s.bs=some b->i∈J k->i<h.nx/\∀K k' b',(K,k')∈ps->lk K mX.bs=some b'->i∉J K:=λ{j s k b i} hj hk hb hi=>by
  let ⟨b1,iY⟩:=alw hj hb;refine ⟨rt.lt iY i hi,λK k' b' m1 m2 hc=>rt.dj k K b1 b' iY m2 (λe=>hk ?_) i hi hc⟩
  rw[e];exact dS.2 ⟨_,eJ _ m1,rfl⟩
 have ajy:∀{k b},lk k (ob++mX.bs)=some b->∀i∈φ2 k,(i<h.nx/\∃K' b,lk K' mX.bs=some b/\i∈J K'/\(K'=k\/((K'∈qG w ps->k∈qG w ps)/\K'∈ps.map (·.1)/\(∀j,(K',j)∉laid)/\∀p∈pp,K'∉p.2.rk/\K'∉p.2.wk)))\/h.nx<=i:=λ{k b} hb i hi=>by
  rcases hφn _ _ hb i hi with ⟨c1,⟨b,c⟩|⟨j,K',k',b',d1,d2,d3,d4⟩⟩|c
  ·exact .inl ⟨c1,k,b,c.1,c.2,.inl rfl⟩
  ·refine .inl ⟨c1,K',b',d4.1,d4.2,?_⟩;rcases aui _ d1 _ d2 d3 with e|⟨e1,e2,e3⟩
   ·exact .inl e
   ·exact .inr ⟨e1,dS.2 ⟨_,d2,rfl⟩,e2,e3⟩
  ·exact .inr c
 have r2:∀(j:Nat) (s':LS),vs2[j]? =some s'->Rel B (C2 j) g2 φ2 s' (cM tm d v).get h':=λj s' hj=>by
  rcases view hj with ⟨hle,s,hs,rfl⟩|⟨rfl,rfl⟩
  ·rw[Fo hle];refine Rel.cM ?_ (λhc=>absurd rfl hc)
   refine (aqN ps rs (D.r j s hs)).amC akf (λid o ho=> ?_) (λk b hb i hi=> ?_) (λk b hb=>abD k (nal (oU hb).1)) (λt y hy=> ?_) λk b hb=>⟨?_,?_⟩
   ·have hot:=(D.up j nc s st hle hs ig).1 id o ho;exact keep id (rt.flt hot) λK k b m1 m2 hi=>by rw[rt.nf K b m2 id hi] at hot;cases hot
   ·let ⟨c1,b0,c2⟩:=oU hb;let ⟨d1,d2⟩:=amC hs c1 c2 hi;exact keep i d1 d2
   ·exact hgs _ (λq hq hc=>(PX (ps:=ps) (s:=s) hq).1 t y hy hc) λq hq he hc=>(Np (rs:=rs) (s:=s) hq he).1 t y hy hc
   ·exact hgs _ (λq hq hc=>(oU hb).1 (by rw[<-cB.1 hc];exact dS.2 ⟨q,ez _ hq,rfl⟩)) λq hq he hc=>(oU hb).1 (by rw[<-cB.1 hc];exact dS.2 ⟨q,eJ _ hq,rfl⟩)
   ·exact hgs _ (λq hq hc=>(PX (ps:=ps) (s:=s) hq).2 k b (λe=>(oU hb).1 (by rw[e];exact dS.2 ⟨q,ez _ hq,rfl⟩)) hb hc) λq hq he hc=>(Np (rs:=rs) (s:=s) hq he).2 k b (λe=>(oU hb).1 (by rw[e];exact dS.2 ⟨q,eJ _ hq,rfl⟩)) hb hc
  ·rw[Fn];exact akf.cM λ_=>hv
 refine ⟨v,h2,go,?_,g2,φ2,C2,uU,?_⟩
 ·refine D.indep (rk:= []) (wk:=qG w ps) (wn:=false) iT ig (λid cK=>by cases cK) (λid cK=>by let ⟨_,k,hk,b,hb,hi⟩:=JP id cK;let ⟨b',cn⟩:=sb hb;exact ⟨k,hk,b',cn,hi⟩) (λid h3 h4=>.inr h3) (λk j hk=>by
   rcases hk with c|c
   ·cases c
   ·exact tp k j (YI c)) (λhc=>by cases hc) qC
 rw[tq];refine ⟨r2,λj j' s s' DC hj jB=> ?_,λj s' hj id o ho=> ?_,λj s' hj k b hb i hi=> ?_,λj s' hj=> ?_,by rw[<-rp,eQ,iz,D.top];rfl,(by rw[oA];have:=D.hx;omega),λq hq AJ=> ?_,D.bn,λq hq=> ?_,λq hq id cK=> ?_,λq hq j s' hj k b hb i hi=> ?_,λq hq i hi j s' hj=> ?_,λq hq hn=> ?_⟩
 ·rcases view hj with ⟨a1,s0,a2,rfl⟩|⟨rfl,rfl⟩
  ·rcases view jB with ⟨b1,AD,b2,rfl⟩|⟨rfl,rfl⟩
   ·rw[Fo a1,Fo b1];let ⟨u1,u2⟩:=D.up j j' s0 AD DC a2 b2;refine ⟨u1,λk b hb=> ?_⟩
    rw[jg] at hb ⊢;let ⟨c1,b0,c2⟩:=oU hb;let ⟨b3,c3⟩:=u2 k b0 c2;exact aqO c1 c3
   ·rw[Fo a1,Fn];refine ⟨(D.up j nc s0 st a1 a2 ig).1.trans hF,λk b hb=> ?_⟩
    rw[jg] at hb ⊢;let ⟨c1,b0,c2⟩:=oU hb;let ⟨b3,c3⟩:=alw a2 c2;show ∃b',lk k (ob++mX.bs)=some b';rw[wS,c3];cases lk k ob with
    |none=>exact ⟨_,rfl⟩
    |some b4=>exact ⟨_,rfl⟩
  ·rcases view jB with ⟨b1,AD,b2,rfl⟩|⟨rfl,rfl⟩
   ·omega
   ·exact ⟨gq.refl _,λk b hb=>⟨b,hb⟩⟩
 ·rcases view hj with ⟨a1,s0,a2,rfl⟩|⟨rfl,rfl⟩
  ·rw[Fo a1] at ho;rw[lo a1];exact D.fb j s0 a2 id o ho
  ·rw[Fn] at ho;rw[ln];rcases hFn id o ho with c|c
   ·rcases D.fb nc st ig id o c with d|d
    ·exact .inl d
    ·exact .inr (by omega)
   ·have:=akf.flt ho;rw[oA] at this;have:=D.hx;exact .inr (by omega)
 ·rcases view hj with ⟨a1,s0,a2,rfl⟩|⟨rfl,rfl⟩
  ·rw[lo a1];rw[jg] at hb;let ⟨c1,b0,c2⟩:=oU hb;rw[abD k (nal c1)] at hi;rcases D.bb j s0 a2 k b0 c2 i hi with c|c|⟨q,c1,c2,c3⟩
   ·exact .inl c
   ·exact .inr (.inl c)
   ·exact .inr (.inr ⟨q,c1,by omega,c3⟩)
  ·rw[ln];rw[jg] at hb;rcases ajy hb i hi with ⟨c1,K',b0,c2,c3,hK⟩|c
   ·let ⟨b0',c2'⟩:=sb c2;rcases D.bb nc st ig K' b0' c2' i c3 with c|c|⟨q,c4,c5,c6⟩
    ·exact .inl c
    ·exact .inr (.inl (by omega))
    ·rcases hK with e|⟨_,_,e,_⟩
     ·subst e;exact .inr (.inr ⟨q,c4,by omega,c6⟩)
     ·exact absurd c4 (e q)
   ·have:=akf.lt hb i hi;rw[oA] at this;have:=D.hx;exact .inr (.inl (by omega))
 ·rw[oA];rcases view hj with ⟨a1,s0,a2,rfl⟩|⟨rfl,rfl⟩
  ·rw[lo a1];have:=D.lm j s0 a2;omega
  ·rw[ln];have:=D.hx;omega
 ·have hq0:h.hp.get (base+q)=none:=D.em q (by omega) AJ
  rw[keep (base+q) (by have:=D.hx;omega) λK k b m1 m2 hc=>(rt.bx K b m2).there _ hc hq0]
  exact hq0
 ·rcases bB.1 hq with rfl|hq
  ·refine ⟨rfl,EU _,cF _,λhc=>(by cases hc),λ_=>⟨rfl,D.hx,?_,λj s' hj bD=> ?_⟩⟩
   ·rw[oA];exact vI e2
   ·rcases view hj with ⟨a1,s0,a2,rfl⟩|⟨rfl,rfl⟩
    ·rw[lo a1];exact (D.lm j s0 a2).2
    ·have bD:nc+1<nc+1:=bD;omega
  ·let ⟨p1,p2,p3,p4,p5⟩:=D.pi q hq;refine ⟨p1,by omega,by omega,p4,λhn=> ?_⟩
   let ⟨a1,a2,a3,a4⟩:=p5 hn;refine ⟨a1,a2,by rw[oA];omega,λj s' hj bD=> ?_⟩
   rcases view hj with ⟨c1,s0,c2,rfl⟩|⟨rfl,rfl⟩
   ·rw[lo c1];exact a4 j s0 c2 bD
   ·omega
 ·rw[oA];rcases bB.1 hq with rfl|hq
  ·rcases cK with c|c
   ·cases c
   ·let ⟨c0,k,_,b,c1,c2⟩:=JP id c;let ⟨b',c1'⟩:=sb c1;rcases D.bb nc st ig k b' c1' id c2 with d|d|⟨q,d1,d2,d3⟩
    ·exact .inl d
    ·exact .inr (.inl (by omega))
    ·exact .inr (.inr ⟨q,(show q<=cur by omega),d3⟩)
  ·rcases D.po q hq id cK with c|c|c
   ·exact .inl c
   ·exact .inr (.inl (by omega))
   ·exact .inr (.inr c)
 ·rcases bB.1 hq with rfl|hq
  ·refine ⟨λhc=>(by cases hc),λhc=> ?_⟩
   let ⟨c0,k0,FB,b0,c1,c2⟩:=JP i hc;rcases view hj with ⟨a1,s0,a2,rfl⟩|⟨rfl,rfl⟩
   ·rw[jg] at hb;let ⟨d1,b1,d2⟩:=oU hb;rw[abD k (nal d1)] at hi;let ⟨b2,d3⟩:=alw a2 d2;have e:k=k0:=yq λbY=>rt.dj k k0 b2 b0 d3 c1 bY i hi c2
    rw[e];exact FB
   ·rw[jg] at hb;rcases ajy hb i hi with ⟨_,K',b1,d2,d3,hK⟩|d
    ·have e:K'=k0:=yq λbY=>rt.dj K' k0 b1 b0 d2 c1 bY i d3 c2
     rcases hK with e1|⟨e1,_⟩
     ·rw[<-e1,e];exact FB
     ·exact e1 (by rw[e];exact FB)
    ·omega
  ·rcases view hj with ⟨a1,s0,a2,rfl⟩|⟨rfl,rfl⟩
   ·rw[jg] at hb;let ⟨d1,b1,d2⟩:=oU hb;rw[abD k (nal d1)] at hi;exact D.pr q hq j s0 a2 k b1 d2 i hi
   ·rw[jg] at hb;rcases ajy hb i hi with ⟨_,K',b1,d2,d3,hK⟩|dge
    ·let ⟨b1',d2'⟩:=sb d2;rcases hK with e|⟨_,_,_,e⟩
     ·subst e;exact D.pr q hq nc st ig K' b1' d2' i d3
     ·let ⟨p1,p2⟩:=D.pr q hq nc st ig K' b1' d2' i d3;exact ⟨λhc=>absurd (p1 hc) (e q hq).1,λhc=>absurd (p2 hc) (e q hq).2⟩
    ·have mY:¬(i∈q.1.rd\/i∈q.1.wr):=λhc=>by
      have:=D.hx;let ⟨_,p2,_⟩:=D.pi q hq;rcases D.po q hq i hc with d|d|⟨j',d1,d2⟩<;>omega
     exact ⟨λhc=>absurd (.inl hc) mY,λhc=>absurd (.inr hc) mY⟩
 ·rcases bB.1 hq with rfl|hq
  ·let ⟨c0,k0,FB,b0,c1,c2⟩:=JP i hi;rcases view hj with ⟨a1,s0,a2,rfl⟩|⟨rfl,rfl⟩
   ·rw[Fo a1];cases hf:Fs j i with
    |none=>rfl
    |some o=>
     have:=(D.up j nc s0 st a1 a2 ig).1 i o hf;rw[rt.nf k0 b0 c1 i c2] at this;cases this
   ·rw[Fn];cases hf:F' i with
    |none=>rfl
    |some o=>
     rcases hFn i o hf with c|c
     ·rw[rt.nf k0 b0 c1 i c2] at c;cases c
     ·omega
  ·rcases view hj with ⟨a1,s0,a2,rfl⟩|⟨rfl,rfl⟩
   ·rw[Fo a1];exact D.pf q hq i hi j s0 a2
   ·rw[Fn];cases hf:F' i with
    |none=>rfl
    |some o=>
     rcases hFn i o hf with c|c
     ·rw[D.pf q hq i hi nc st ig] at c;cases c
     ·have:=D.hx;let ⟨_,p2,_⟩:=D.pi q hq;rcases D.po q hq i (.inr hi) with d|d|⟨j',d1,d2⟩<;>omega
 ·rcases bB.1 hq with rfl|hq
  ·cases hn
  ·exact D.pw q hq hn
def DR.DP (D:DR B base W cur nc vs laid pp g J Fs lim tm.get h) {d:da} {m f:Nat} {st:LS} {ps:cy} {bs:bH} {xs:aB} {y:AV} {aa:aM} (iT:cur<W) (ig:vs[nc]? =some st) (hg:tv (ps++ [])=true) (pD:te st.bs (ps++ []) ps=some bs) (Cm:ti st.bs (ps++ []) ps ps=true) (rG:lO ps (eW xs)=true) (has:bZ (Fs nc) g aa xs)
  (hc:MZ E f bs (l3 (oD (ps++ [])) xs) y)
  (tp:∀k j,k∈ps.map (·.1)->(k,j)∈laid->jQ m j=true) (qC:∀q∈pp,D9 nc m [] [] true true q.2):
  ∃v h2,df E (.call (.fn (.func f) [] []) aa ⟨qB m (pp.map (·.1)) h.hp,h.nx,[]⟩) (.gg [⟨false,v,h2⟩])/\gM m ⟨cur,true,[],below h.nx h2.lg [],h.nx,h2.nx⟩ (pp.map (·.1))=true/\
   ∃C2 uU,DR B base W (cur+1) (nc+1) ((vs.map λs=>s.cM d .undef)++ [st.cM d (nw (jU (ps++ [])) y)]) laid ((⟨cur,true,[],below h.nx h2.lg [],h.nx,h2.nx⟩,⟨cur,nc+1,[],[],true⟩)::pp) g J C2 uU (cM tm d v).get ⟨jb m h.hp (pp.map (·.1)) h2.hp,h2.nx,below h.nx h2.lg h.lg⟩:=by
 have rt:=D.r nc st ig;have hpm:∀{K k b},(K,k)∈ps->lk K st.bs=some b->K∈ps.map (·.1):=λh1 _=>dS.2 ⟨_,h1,rfl⟩
 have J1:∀x,Hid m (pp.map (·.1)) x->∃q∈pp,jQ m q.2.i=false/\q.2.n=0/\x=base+q.2.i/\q.2.i<cur:=λx ⟨p,hp,h1,h2⟩=>by
  obtain ⟨q,hq,rfl⟩:=dS.1 hp;let ⟨p1,p2,p3,p4,p5⟩:=D.pi q hq;rw[p1] at h1;have hn:q.2.n=0:=by
   rcases qC q hq with c|⟨c,_⟩
   ·rw[h1] at c;cases c
   ·exact yq λhn=>by have:=(c hn).1;omega
  exact ⟨q,hq,h1,hn,by rw[<-h2];exact (p4 hn).2.1,p2⟩
 have rq:=D.lm nc st ig;have aum:∀{K k b},(K,k)∈ps->lk K st.bs=some b->∀i∈J K,¬Hid m (pp.map (·.1)) i:=λ{K k b} h1 h2 i hi hc=>by
  let ⟨q,hq,b1,b2,b3,b4⟩:=J1 i hc;rcases D.bb nc st ig K b h2 i hi with c|c|⟨j,c1,c2,c3⟩
  ·omega
  ·omega
  ·have e:j=q.2.i:=by omega
   have:=tp K j (hpm h1 h2) c1;rw[e,b1] at this;cases this
 let ⟨dK,has'⟩:=rt.dK (rs:= []) (hh:=⟨qB m (pp.map (·.1)) h.hp,h.nx,[]⟩) (Hd:=Hid m (pp.map (·.1))) (λx hx=>(jG _ _ x).2 hx) (λx hx=>by
  let ⟨q,hq,b1,b2,b3,b4⟩:=J1 x hx;refine ⟨(jG _ _ x).1 hx,?_,?_,λK k b m1 m2 hi=>aum m1 m2 x hi hx⟩
  ·cases hf:Fs nc x with
   |none=>rfl
   |some o=>rcases D.fb nc st ig x o hf with c|c<;>omega
  ·show x<h.nx;have:=D.hx;omega) rfl hg pD Cm rG has
 let ⟨h1,v,go,hv,UO,hold,hO,alG⟩:=hc.go dK has';have UO:h.nx<=h1.nx:=UO;have qJ:VA (Fs nc) g v (nw (jU (ps++ [])) y):=hv.fO λk _=>⟨rfl,rfl,rfl⟩
 generalize hh2:(⟨h1.hp,h1.nx,below h.nx h1.lg []⟩:Hs)=h2 at go;have e1:h2.hp=h1.hp:=by rw[<-hh2]
 have e2:h2.nx=h1.nx:=by rw[<-hh2]
 have e3:h2.lg=below h.nx h1.lg []:=by rw[<-hh2]
 have hwr0:∀id,id∉below h.nx h2.lg []:=λid cK=>by
  rcases oE cK with c|⟨c1,c2⟩
  ·cases c
  ·rw[e3] at c1;rcases oE c1 with c|⟨c3,_⟩
   ·cases c
   ·have:h.nx<=id:=alG id c3;omega
 have JP:below h.nx h2.lg []= []:=by
  cases hb:below h.nx h2.lg [] with
  |nil=>rfl
  |cons x l=>exact absurd (by rw[hb];exact gw) (hwr0 x)
 generalize tq:(⟨jb m h.hp (pp.map (·.1)) h2.hp,h2.nx,below h.nx h2.lg h.lg⟩:Hs)=h' at*
 have oA:h'.nx=h1.nx:=by rw[<-tq,<-e2]
 have keep:∀x,x<h.nx->h'.hp.get x=h.hp.get x:=λx hx=>by
  rw[<-tq];show (jb m h.hp (pp.map (·.1)) h2.hp).get x=_
  by_cases c:Hid m (pp.map (·.1)) x
  ·exact (me _ _ x).1 c
  ·rw[(me _ _ x).2 c,e1,hold x hx];exact (jG _ _ x).2 c
 have bd':∀x,h'.nx<=x->h'.hp.get x=none:=λx hx=>by
  rw[oA] at hx;have mY:¬Hid m (pp.map (·.1)) x:=λc=>by
   let ⟨q,hq,b1,b2,b3,b4⟩:=J1 x c;have:=D.hx;omega
  rw[<-tq];show (jb m h.hp (pp.map (·.1)) h2.hp).get x=_
  rw[(me _ _ x).2 mY,e1];exact hO x hx
 have lg':∀x∈h'.lg,x∈h.lg\/h.nx<=x:=λx hx=>by
  rw[<-tq] at hx;rcases oE hx with c|⟨c1,c2⟩
  ·exact .inl c
  ·rw[e3] at c1;rcases oE c1 with c|⟨c3,_⟩
   ·cases c
   ·exact .inr (alG x c3)
 have grow:∀{F:Hf} {s:LS},Rel B F g J s tm.get h->Rel B F g J s tm.get h':=λr=>r.grow (by rw[oA];exact UO) keep bd' lg'
 let C2:Nat->Hf:=λj=>if j=nc+1 then Fs nc else Fs j
 let uU:Nat->Nat:=λj=>if j=nc+1 then h1.nx else lim j
 have Fo:∀{j},j<=nc->C2 j=Fs j:=λ{j} hj=>aA (by omega)
 have Fn:C2 (nc+1)=Fs nc:=ax rfl;have lo:∀{j},j<=nc->uU j=lim j:=λ{j} hj=>aA (by omega)
 have ln:uU (nc+1)=h1.nx:=ax rfl;generalize rp:(vs.map λs=>s.cM d .undef)++ [st.cM d (nw (jU (ps++ [])) y)]=vs2
 have view:∀{j:Nat} {s':LS},vs2[j]? =some s'->(j<=nc/\∃s,vs[j]? =some s/\s'=s.cM d .undef)\/(j=nc+1/\s'=st.cM d (nw (jU (ps++ [])) y)):=λ{j s'} hj=>by
  rw[<-rp,oI] at hj;split at hj
  ·rename_i bD;rw[iz,D.top] at bD;rw[kK] at hj;obtain ⟨s,hs,rfl⟩:=kP.1 hj;exact .inl ⟨by omega,s,hs,rfl⟩
  ·rename_i bD;rw[iz,D.top] at bD hj;have:j-(nc+1)=0:=by
    have:=(cg.1 hj).1;simp at this;omega
   rw[this] at hj;cases hj;exact .inr ⟨by omega,rfl⟩
 have HS:∀{j:Nat} {s':LS},vs2[j]? =some s'->∃j0 s0,j0<=nc/\j0<=j/\vs[j0]? =some s0/\C2 j=Fs j0/\s'.bs=s0.bs/\lim j0<=uU j/\(j<nc+1->j0=j/\uU j=lim j):=λ{j s'} hj=>by
  rcases view hj with ⟨hle,s,hs,rfl⟩|⟨rfl,rfl⟩
  ·exact ⟨j,s,hle,cF _,hs,Fo hle,jg,by rw[lo hle];exact cF _,λ_=>⟨rfl,lo hle⟩⟩
  ·exact ⟨nc,st,cF _,by omega,ig,Fn,jg,by rw[ln];have:=rq.2;omega,λhc=>by omega⟩
 have limT:∀{j:Nat} {s':LS},vs2[j]? =some s'->uU j<=h1.nx:=λ{j s'} hj=>by
  rcases view hj with ⟨hle,s,hs,rfl⟩|⟨rfl,rfl⟩
  ·rw[lo hle];have:=(D.lm j s hs).2;omega
  ·rw[ln];exact cF _
 refine ⟨v,h2,go,?_,C2,uU,?_⟩
 ·rw[JP];exact D.indep (rk:= []) (wk:= []) (wn:=true) iT ig (λid cK=>by cases cK) (λid cK=>by cases cK) (λid h3 h4=>.inr h3) (λk j hk=>by rcases hk with c|c<;>cases c) (λ_=>rfl) qC
 rw[JP,tq];refine ⟨λj s' hj=> ?_,λj j' s s' DC hj jB=> ?_,λj s' hj id o ho=> ?_,λj s' hj k b hb i hi=> ?_,λj s' hj=> ?_,by rw[<-rp,eQ,iz,D.top];rfl,(by rw[oA];have:=D.hx;omega),λq hq AJ=> ?_,D.bn,λq hq=> ?_,λq hq id cK=> ?_,λq hq j s' hj k b hb i hi=> ?_,λq hq i hi j s' hj=> ?_,λq hq hn=> ?_⟩
 ·rcases view hj with ⟨hle,s,hs,rfl⟩|⟨rfl,rfl⟩
  ·rw[Fo hle];exact (grow (D.r j s hs)).cM (λhc=>absurd rfl hc)
  ·rw[Fn];exact (grow rt).cM λ_=>qJ
 ·rcases view hj with ⟨a1,s0,a2,rfl⟩|⟨rfl,rfl⟩
  ·rcases view jB with ⟨b1,AD,b2,rfl⟩|⟨rfl,rfl⟩
   ·rw[Fo a1,Fo b1,jg,jg];exact D.up j j' s0 AD DC a2 b2
   ·rw[Fo a1,Fn,jg,jg];exact D.up j nc s0 st a1 a2 ig
  ·rcases view jB with ⟨b1,AD,b2,rfl⟩|⟨rfl,rfl⟩
   ·omega
   ·exact ⟨gq.refl _,λk b hb=>⟨b,hb⟩⟩
 ·let ⟨j0,s0,c0,c00,c1,c2,c3,c4,c5⟩:=HS hj;rw[c2] at ho;rcases D.fb j0 s0 c1 id o ho with c|c
  ·exact .inl c
  ·exact .inr (by omega)
 ·let ⟨j0,s0,c0,c00,c1,c2,c3,c4,c5⟩:=HS hj;rw[c3] at hb;rcases D.bb j0 s0 c1 k b hb i hi with c|c|⟨q,c6,c7,c8⟩
  ·exact .inl c
  ·exact .inr (.inl (by omega))
  ·exact .inr (.inr ⟨q,c6,by omega,c8⟩)
 ·let ⟨j0,s0,c0,c00,c1,c2,c3,c4,c5⟩:=HS hj;have a1:=D.lm j0 s0 c1;have a2:=limT hj;rw[oA];omega
 ·rw[keep (base+q) (by have:=D.hx;omega)]
  exact D.em q (by omega) AJ
 ·rcases bB.1 hq with rfl|hq
  ·refine ⟨rfl,EU _,cF _,λhc=>(by cases hc),λ_=>⟨rfl,D.hx,?_,λj s' hj bD=> ?_⟩⟩
   ·rw[oA];exact vI e2
   ·have bD:j<nc+1:=bD;let ⟨j0,s0,c0,c00,c1,c2,c3,c4,c5⟩:=HS hj;let ⟨c6,c7⟩:=c5 bD;rw[c7];subst c6;exact (D.lm _ s0 c1).2
  ·let ⟨p1,p2,p3,p4,p5⟩:=D.pi q hq;refine ⟨p1,by omega,by omega,p4,λhn=> ?_⟩
   let ⟨a1,a2,a3,a4⟩:=p5 hn;refine ⟨a1,a2,by rw[oA];omega,λj s' hj bD=> ?_⟩
   let ⟨j0,s0,c0,c00,c1,c2,c3,c4,c5⟩:=HS hj;let ⟨c6,c7⟩:=c5 (by omega)
   rw[c7];subst c6;exact a4 _ s0 c1 bD
 ·rw[oA];rcases bB.1 hq with rfl|hq
  ·rcases cK with c|c<;>cases c
  ·rcases D.po q hq id cK with c|c|c
   ·exact .inl c
   ·exact .inr (.inl (by omega))
   ·exact .inr (.inr c)
 ·let ⟨j0,s0,c0,c00,c1,c2,c3,c4,c5⟩:=HS hj;rw[c3] at hb;rcases bB.1 hq with rfl|hq
  ·exact ⟨λhc=>(by cases hc),λhc=>(by cases hc)⟩
  ·exact D.pr q hq j0 s0 c1 k b hb i hi
 ·let ⟨j0,s0,c0,c00,c1,c2,c3,c4,c5⟩:=HS hj;rcases bB.1 hq with rfl|hq
  ·cases hi
  ·rw[c2];exact D.pf q hq i hi j0 s0 c1
 ·rcases bB.1 hq with rfl|hq
  ·rfl
  ·exact D.pw q hq hn
end
section
variable {F F':Hf} {g g':Gb} {B:Bs} {J:cS} {s s' s1:LS} {tm:cq} {h:Hs} {hp:Hf} {E:Env} {nt:Nat}
variable {W cur nc M:Nat} {vs zn:List LS} {laid:cy} {j8:List PI} {all l:bS} {o:Oper}
variable {Q:Ex->LS->Prop}
def gT (E:Env) (nt:Nat) (B:Bs) (all:bS) (W cur nc M:Nat) (vs:List LS) (laid:cy) (j8:List PI) (l:bS) (s':LS):Prop:=
 ∀{base:Nat} {pp:List (Rc×PI)} {g:Gb} {J:cS} {Fs:Nat->Hf} {lim:Nat->Nat} {tm:cq} {h:Hs},pp.map (·.2)=j8->DR B base W cur nc vs laid pp g J Fs lim tm.get h->∃F' g' φ' tm' h',Rel B F' g' φ' s' (Tr.get tm') h'/\df E (.draw nt W all base cur M (pp.map (·.1)) l tm h) (.st tm' h')
def gT.nil (hs:vs[nc]? =some s'):gT E nt B all W cur nc M vs laid j8 [] s':=λ{base pp g J Fs lim tm h} _ D=>⟨Fs nc,g,J,tm,h,D.r nc s' hs,.aBn⟩
def gT.skip (iT:cur<W) (hd:(fS nt o.dst&&nj cur (jv o))=true) (ig:vs[nc]? =some st) (hw:qL all o st.ts=some false) (hl:gT E nt B all W (cur+1) nc (uB W M cur (fw W M o)) (vs.map λs=>s.cM o.dst (.cm [])) laid (⟨cur,0,[],[],true⟩::j8) l s'):gT E nt B all W cur nc M vs laid j8 (o::l) s':=λ{base pp g J Fs lim tm h} hp D=>by
 let ⟨hi,D2⟩:=D.skip (d:=o.dst) (m:=fw W M o) iT;let ⟨F',g',φ',tm',h',r',go⟩:=hl (by rw[fM,hp]) D2
 exact ⟨F',g',φ',tm',h',r',.auW hd (yr (D.r nc st ig) hw) hi go⟩
def gT.op {Wk:WK} {v:Nat} (iT:cur<W) (hd:(fS nt o.dst&&nj cur (jv o))=true) (ig:vs[nc]? =some st) (hw:qL all o st.ts=some true) (hc:ir o.op=none) (hl:vs[v]? =some sl) (hlen:zn.length=vs.length) (hOK:∀j s,vs[j]? =some s->v<=j->∃t,zn[j]? =some (t.cM o.dst x)/\bX E B o.op s t x Wk) (UP:∀j s,vs[j]? =some s->j<v->zn[j]? =some ((s.Ba Wk).cM o.dst .undef)) (hrk:Ft sl.ts sl.bs o.op=some rk) (tp:∀k j,(k∈rk\/k∈vJ Wk)->(k,j)∈laid->jQ (fw W M o) j=true) (qC:∀q∈j8,D9 v (fw W M o) rk (vJ Wk) false (IQ Wk) q) (hn:gT E nt B all W (cur+1) nc (uB W M cur (fw W M o)) zn (Xx Wk cur laid) (⟨cur,0,rk,vJ Wk,IQ Wk⟩::j8) l s'):gT E nt B all W cur nc M vs laid j8 (o::l) s':=λ{base pp g J Fs lim tm h} hp D=>by
 let ⟨u,us,o1,o2,g',φ',D2⟩:=D.op iT hl hlen hOK UP hrk tp λq hq=>qC q.2 (by rw[<-hp];exact dS.2 ⟨q,hq,rfl⟩)
 let ⟨F2,g2,φ2,tm',h',r',go⟩:=hn (by rw[fM,hp]) D2
 exact ⟨F2,g2,φ2,tm',h',r',.aBm hd (yr (D.r nc st ig) hw) hc o1 o2 go⟩
def gT.call {st mX:LS} (hs0:∀{F:Hf} {g:Gb} {J:cS} {tm:Tf} {h:Hs},Rel B F g J st tm h->Rel B F g J mX tm h) (hsb:∀k,(∃b,lk k mX.bs=some b)↔∃b,lk k st.bs=some b) {c:Call} {w:Operand} {wr:aI} {f:Nat} {ps rs:cy} {bs cC ob:bH} {fi ca xs:aB} {y:AV} (iT:cur<W) (hd:(fS nt o.dst&&nj cur (jv o))=true) (ig:vs[nc]? =some st) (hw:qL all o st.ts=some true) (hc:ir o.op=some c) (hf:c.callee= .value w) (hfv:bM st.ts w= .fn f fi ca) (hxs:fi++jw st.ts c.args.toList++ca=xs) (hu:jS (jw st.ts c.args.toList)=true)
  (hg:tv (ps++rs)=true) (pD:te mX.bs (ps++rs) ps=some bs) (Cm:ti mX.bs (ps++rs) ps ps=true) (rG:lO ps (eW xs)=true) (hrs:∀q∈rs,mX.free q.1/\B.pk q.1=false/\lk q.1 mX.bs=none) (Iw:∀q∈ps,lA q.2=false->B.pn q.1=false/\(∀t x,lk t mX.ts=some x->q.1∉dE x)/\∀k b,lk k mX.bs=some b->lk k (ps++rs)=none->q.1∉b.keys) (aui:∀q∈ps++rs,∀q'∈ps,fN q'.2=fN q.2->q'.1=q.1\/((q'.1∈qG wr ps->q.1∈qG wr ps)/\(∀j,(q'.1,j)∉laid)/\∀p∈j8,q'.1∉p.rk/\q'.1∉p.wk)) (N6:∀q∈ps++rs,∀q'∈ps,fN q'.2=fN q.2->∀i,B.ps q'.1 i\/B.nx<=i->B.ps q.1 i\/B.nx<=i) (hC:xV E f bs (l3 (oD (ps++rs)) xs) y cC wr) (hob:G1 cC (ps++rs) (ps++rs)=some ob) (JU:A8 ps cC (ps++rs) (ps++rs)=true) (Fz:lO (oi (ps++rs)) (dE y)=true)
  (tp:∀k j,k∈ps.map (·.1)->(k,j)∈laid->jQ (fw W M o) j=true) (qC:∀q∈j8,D9 nc (fw W M o) [] (qG wr ps) true false q)
  (hn:gT E nt B all W (cur+1) (nc+1) (uB W M cur (fw W M o)) ((vs.map λs=>(s.zd ps rs).cM o.dst .undef)++ [LS.cM ⟨mX.ts,ob++mX.bs⟩ o.dst (nw (jU (ps++rs)) y)]) laid (⟨cur,nc+1,[],qG wr ps,false⟩::j8) l s'):gT E nt B all W cur nc M vs laid j8 (o::l) s':=λ{base pp g J Fs lim tm h} hp D=>by
 subst hxs;have rt:=D.r nc st ig;let ⟨aa,a1,a2⟩:=rt.eI hu;let ⟨fv,f1,f2⟩:=rt.val hfv (by simp)
 obtain ⟨fs,cs,rfl,k1,k2⟩:∃fs cs,fv= .fn (.func f) fs cs/\bZ (Fs nc) g fs fi/\bZ (Fs nc) g cs ca:=by
  cases f2 with
  |fn _ h1 h2=>exact ⟨_,_,rfl,h1,h2⟩
 replace a2:=(k1.append a2).append k2;let ⟨u,h2,go,hi,g',φ',C2,uU,D2⟩:=D.call (d:=o.dst) (m:=fw W M o) hs0 hsb iT ig hg pD Cm rG a2 hrs Iw (λq hq q' AJ e=>(aui q hq q' AJ e).imp id λc=>⟨c.1,c.2.1,λp gy=>c.2.2 p.2 (by rw[<-hp];exact dS.2 ⟨p,gy,rfl⟩)⟩) N6 hC hob JU Fz tp λq hq=>qC q.2 (by rw[<-hp];exact dS.2 ⟨q,hq,rfl⟩)
 let ⟨F2,g2,φ2,tm',h',r',go2⟩:=hn (by rw[fM,hp]) D2
 exact ⟨F2,g2,φ2,tm',h',r',.acw hd (yr rt hw) hc (by rw[hf];exact f1) a1 go.jk hi go2⟩
def gT.DP {st:LS} {c:Call} {w:Operand} {f:Nat} {ps:cy} {bs:bH} {fi ca xs:aB} {y:AV} (iT:cur<W) (hd:(fS nt o.dst&&nj cur (jv o))=true) (ig:vs[nc]? =some st) (hw:qL all o st.ts=some true) (hc:ir o.op=some c) (hf:c.callee= .value w) (hfv:bM st.ts w= .fn f fi ca) (hxs:fi++jw st.ts c.args.toList++ca=xs) (hu:jS (jw st.ts c.args.toList)=true)
  (hg:tv (ps++ [])=true) (pD:te st.bs (ps++ []) ps=some bs) (Cm:ti st.bs (ps++ []) ps ps=true) (rG:lO ps (eW xs)=true) (hC:MZ E f bs (l3 (oD (ps++ [])) xs) y)
  (tp:∀k j,k∈ps.map (·.1)->(k,j)∈laid->jQ (fw W M o) j=true) (qC:∀q∈j8,D9 nc (fw W M o) [] [] true true q)
  (hn:gT E nt B all W (cur+1) (nc+1) (uB W M cur (fw W M o)) ((vs.map λs=>s.cM o.dst .undef)++ [st.cM o.dst (nw (jU (ps++ [])) y)]) laid (⟨cur,nc+1,[],[],true⟩::j8) l s'):gT E nt B all W cur nc M vs laid j8 (o::l) s':=λ{base pp g J Fs lim tm h} hp D=>by
 subst hxs;have rt:=D.r nc st ig;let ⟨aa,a1,a2⟩:=rt.eI hu;let ⟨fv,f1,f2⟩:=rt.val hfv (by simp)
 obtain ⟨fs,cs,rfl,k1,k2⟩:∃fs cs,fv= .fn (.func f) fs cs/\bZ (Fs nc) g fs fi/\bZ (Fs nc) g cs ca:=by
  cases f2 with
  |fn _ h1 h2=>exact ⟨_,_,rfl,h1,h2⟩
 replace a2:=(k1.append a2).append k2;let ⟨u,h2,go,hi,C2,uU,D2⟩:=D.DP (d:=o.dst) (m:=fw W M o) iT ig hg pD Cm rG a2 hC tp λq hq=>qC q.2 (by rw[<-hp];exact dS.2 ⟨q,hq,rfl⟩)
 let ⟨F2,g2,φ2,tm',h',r',go2⟩:=hn (by rw[fM,hp]) D2
 exact ⟨F2,g2,φ2,tm',h',r',.acw hd (yr rt hw) hc (by rw[hf];exact f1) a1 go.jk hi go2⟩
def Wk.drawn {id:Nat} {ops:fk} {ks:List KI} (hl:gT E nt B ops.toList ops.size 0 0 0 [s] [] [] ops.toList s1) (hk:ll E nt B .normal ks s1 Q):Wk E nt B (.region id ops true) ks s Q:=λ{F g J tm h} r=>by
 have view:∀{j:Nat} {s':LS},[s][j]? =some s'->j=0/\s'=s:=λ{j s'} hj=>by
  cases j with
  |zero=>cases hj;exact ⟨rfl,rfl⟩
  |succ j=>simp at hj
 have D:DR B h.nx ops.size 0 0 [s] [] [] g J (λ_=>F) (λ_=>h.nx+ops.size) tm.get ⟨h.hp,Nat.add h.nx ops.size,h.lg⟩:=by
  have hn:h.nx<=Nat.add h.nx ops.size:=xa _ _;refine ⟨λj s' hj=> ?_,λj j' s1 s2 _ h1 h2=> ?_,λj s' hj id o ho=>.inl (r.flt ho),λj s' hj k b hb i hi=> ?_,λj s' hj=>⟨cF _,cF _⟩,rfl,cF _,λq _ _=>r.bd _ (xa _ _),r.nx,λq hq=>(by cases hq),λq hq=>(by cases hq),λq hq=>(by cases hq),λq hq=>(by cases hq),λq hq=>(by cases hq)⟩
  ·obtain ⟨_,rfl⟩:=view hj;exact {r with bd:=λx hx=>r.bd x (iL hn hx),nx:=iL r.nx hn}
  ·obtain ⟨_,rfl⟩:=view h1;obtain ⟨_,rfl⟩:=view h2;exact ⟨gq.refl _,λk b hb=>⟨b,hb⟩⟩
  ·obtain ⟨_,rfl⟩:=view hj;exact .inl (r.lt hb i hi)
 let ⟨F',g',φ',tm',h',r',go⟩:=hl rfl D;exact ⟨_,_,_,.drawn go,hk r'⟩
end
section
variable {F F':Hf} {g g':Gb} {B:Bs} {J:cS} {s s' s1:LS} {tm:Tf} {h:Hs} {hp:Hf} {E:Env} {nt:Nat} {all l:bS}
variable {a:Operand}
abbrev Ob:=AV×AV
def fI:List Ob->Prop
 | []=>True
 |p::l=>p.1=p.2/\fI l
def acb:List Ob->aB
 | []=> []
 |p::l=>p.1::acb l
def Z2:List Ob->aB
 | []=> []
 |p::l=>p.2::Z2 l
def aaX:∀{l:List Ob},acb l=Z2 l->fI l
 | [],_=>trivial
 |p::l,h=>by
  have h:p.1::acb l=p.2::Z2 l:=h;injection h with h1 h2
  exact ⟨h1,aaX h2⟩
def qg:∀{l m:List Ob},fI (l++m)->fI l/\fI m
 | [],_,h=>⟨trivial,h⟩
 |p::l,m,h=>by
  let ⟨h1,h2⟩:=h;let ⟨h3,h4⟩:=qg h2;exact ⟨⟨h1,h3⟩,h4⟩
def DG (K:Nat):dd->Bool
 | []=>true
 |p::l=>ay (ke K (dE p.2)) false (DG K l)
def Hx (K:Nat):bH->Bool
 | []=>true
 |p::l=>ay (Nat.beq p.1 K) (Hx K l) (ay (ke K p.2.keys) false (Hx K l))
def wP {l:aI} (h:ke K l=false):K∉l:=λhm=>by
 rw[(qx K l).2 hm] at h;cases h
def Hy {K:Nat}:∀{ts:dd},DG K ts=true->∀t x,lk t ts=some x->K∉dE x
 | [],_,t,x,hx=>by cases hx
 |(k,y)::l,hf,t,x,hx=>by
  have hf:ay (ke K (dE y)) false (DG K l)=true:=hf;rw[cr] at hx;rw[bk] at hf;split at hf
  ·cases hf
  ·rename_i hm;split at hx
   ·cases hx;exact wP (by simpa using hm)
   ·exact Hy hf t x hx
def Hw {K:Nat}:∀{bs:bH},Hx K bs=true->∀k b,k≠K->lk k bs=some b->K∉b.keys
 | [],_,k,b,_,hx=>by cases hx
 |p::l,hf,k,b,bY,hx=>by
  let ⟨k',b'⟩:=p;have hf:ay (Nat.beq k' K) (Hx K l) (ay (ke K b'.keys) false (Hx K l))=true:=hf;rw[cr] at hx;rw[bk] at hf;split at hf
  ·rename_i he;have he:k'=K:=(beq_iff _ _).1 he;rw[aA (λe=>bY (e.trans he))] at hx
   exact Hw hf k b bY hx
  ·rw[bk] at hf;split at hf
   ·cases hf
   ·rename_i hm;split at hx
    ·cases hx;exact wP (by simpa using hm)
    ·exact Hw hf k b bY hx
def alS (s:LS) (K:Nat):Bool:=ay (DG K s.ts) (Hx K s.bs) false
def auG (hf:alS s K=true):s.free K:=by
 unfold alS at hf;rw[bk] at hf;split at hf
 ·rename_i h2;exact ⟨Hy h2,Hw hf⟩
 ·cases hf
def acj (bV:aI) (K K2:Nat):Bool:=ay (Nat.beq (fN K) (fN K2)&&(!iu K && !iu K2)) true (!wc K bV)
def U2 (hB:od bV B) {K2:Nat} (h:acj bV K K2=true):∀i,B.ps K i\/B.nx<=i->B.ps K2 i\/B.nx<=i:=by
 unfold acj at h;rw[bk] at h;split at h
 ·rename_i e;rw[aY,aY] at e;exact λi hi=>hi.imp (λhp=>hB.ps (by have h1:=e.2.1;have h2:=e.2.2;cases hb:iu K<;>cases nO:iu K2<;>simp_all) ((beq_iff _ _).1 e.1) hp) id
 ·have hk:=hB.no K (by simpa using h)
  exact λi hi=>hi.elim (λc=>by have:=c.1;rw[hk] at this;cases this) .inr
def sy (bV:aI) (s:LS) (K:Nat):Bool:=ay (wc K bV) false (ay (DG K s.ts) (Hx K s.bs) false)
def wZ (hB:od bV B) (hf:sy bV s K=true):s.free K/\B.pk K=false:=by
 unfold sy at hf;rw[bk] at hf;split at hf
 ·cases hf
 ·rename_i h1;rw[bk] at hf;split at hf
  ·rename_i h2;exact ⟨⟨Hy h2,Hw hf⟩,hB.no K (by simpa using h1)⟩
  ·cases hf
def avq:UD->Option (Nat×TypeId)
 | .array n e=>some (n,e)
 |_=>none
def Wp {d:UD} {q:Nat×TypeId} (h:avq d=some q):d= .array q.1 q.2:=by
 cases d<;>first|(cases h;done)|(cases h;rfl)
def aby (E:Env) (t:TypeId) (x y:AV):Option AV:=
 match x,y with
 | .agg cs,.int _ (.ofNat k)=>au (E.ty.get t) λi=>au (avq i.desc) λq=>au (E.ty.get q.2) λie=>ay (Nat.ble (Nat.succ k) q.1) (mf ie cs (Nat.mul k ie.size)) none
 |_,_=>none
def agp {ix:Operand} (ha:bM s.ts a=x) (tY:bM s.ts ix=y) (hx:aby E t x y=some z):bX E B (.index t a ix) s s z none:=by
 unfold aby at hx;split at hx
 ·rename_i cs kk k;let ⟨i,hi,hx⟩:=aj hx;let ⟨q,hq,hx⟩:=aj hx;let ⟨ie,hie,hx⟩:=aj hx;let ⟨hk,hx⟩:=aJ hx;refine bX.bi (f:=λ_ v u=>au (lq u) λk=>sN E t k v) (λ_ _ _=>rfl) ha (by simp) tY (by simp) λ{F g J tm h v w} r hv hw=> ?_
  cases hv with
  |agg hv=>
  cases hw;let ⟨u,u1,u2⟩:=rj hv hx;refine ⟨u,?_,u2⟩;show sN E t k _=_;unfold sN;rw[iV hi,Wp hq];show bE (some _) (E.ty.get q.2) (λcs ie=>ay (Nat.ble (Nat.succ k) q.1) (same (ia ie cs (Nat.mul k ie.size))) none)=_
  rw[yW rfl hie,hk,u1];rfl
 ·cases hx
def UH (E:Env) (t:TypeId) (x y:AV):Option AV:=
 match x,y with
 | .loc K off,.int _ (.ofNat k)=>au (E.ty.get t) λi=>au (avq i.desc) λq=>au (E.ty.get q.2) λie=>ay (Nat.ble (Nat.succ k) q.1) (some (.loc K (Nat.add off (Nat.mul k ie.size)))) none
 |_,_=>none
def apl {ix:Operand} (ha:bM s.ts a=x) (tY:bM s.ts ix=y) (hx:UH E t x y=some z):bX E B (.indexAddr t a ix) s s z none:=by
 unfold UH at hx;split at hx
 ·rename_i K off kk k;let ⟨i,hi,hx⟩:=aj hx;let ⟨q,hq,hx⟩:=aj hx;let ⟨ie,hie,hx⟩:=aj hx;let ⟨hk,hx⟩:=aJ hx;cases hx;refine bX.bi (f:=λ_ v u=>au (lq u) λk=>same (lu E t v k)) (λ_ _ _=>rfl) ha (by simp) tY (by simp) λ{F g J tm h v w} r hv hw=> ?_
  cases hv with
  |loc=>
  cases hw;refine ⟨.ptr (g.Z K) (off+k*ie.size),?_,.loc K _⟩;show same (lu E t (.ptr (g.Z K) off) k)=_;unfold lu;rw[iV hi,Wp hq];show same (au (some (g.Z K,off)) λp=>uE E q.2 p.1 p.2 q.1 k)=_
  rw[iV rfl];show same (uE E q.2 (g.Z K) off q.1 k)=_;unfold uE;rw[hk,iV hie];rfl
 ·cases hx
abbrev jO:=LS×AV×WK×List Ob
def l5 (E:Env) (B:Bs) (op:Op) (s:LS) (r:jO):Prop:=fI r.2.2.2->bX E B op s r.1 r.2.1 r.2.2.1
def ndf (x:AV):Option AV:=ay (BC x) none (some x)
def Cc (h:ndf x=some y):x=y/\x≠ .undef:=by
 unfold ndf at h;cases hx:BC x with
 |true=>rw[hx] at h;cases h
 |false=>rw[hx] at h;cases h;exact ⟨rfl,PJ hx⟩
def aay (E:Env) (s:LS) (op:Op):Option AV:=
 match op with
 | .move a=>ndf (bM s.ts a)
 | .assign a=>ndf (bM s.ts a)
 | .pick c a b=>(match bM s.ts c with| .bool t=>ndf (bM s.ts (ay t a b))|_=>none)
 | .nilCheck a=>ay (axa (bM s.ts a)) (some (bM s.ts a)) none
 | .load t a=>au (E.ty.get t) λi=>Xv i s.bs (bM s.ts a)
 | .fieldAddr t a f=>au (FJ E t f) λp=>aqW p (bM s.ts a)
 | .field t a f=>au (FJ E t f) λp=>(match bM s.ts a with| .agg cs=>mf p.2 cs p.1|_=>none)
 | .extract a i=>(match bM s.ts a with| .cm xs=>xs[i]? |_=>none)
 | .binOp op t a b _=>au (ndf (bM s.ts b)) λy=>amx E op t a b (bM s.ts a) y
 | .unOp op _ a=>unL op (bM s.ts a)
 | .convert src dst a=>bE (E.ty.get src) (E.ty.get dst) λ_ i2=>XN i2.desc (bM s.ts a)
 | .makeFunc (.func f) a c=>ay (jS (jw s.ts a.toList)) (ay (jS (jw s.ts c.toList)) (some (.fn f (jw s.ts a.toList) (jw s.ts c.toList))) none) none
 | .build t parts=>bE (E.ty.get t) (B5 s.ts parts.toList) λi m=>au (acG E (km i.zero) m i.desc) λys=>some (.agg ys)
 | .index t a ix=>aby E t (bM s.ts a) (bM s.ts ix)
 | .indexAddr t a ix=>UH E t (bM s.ts a) (bM s.ts ix)
 |_=>none
def aoT {op:Op} (hx:aay E s op=some x):bX E B op s s x none:=by
 unfold aay at hx;split at hx
 ·let ⟨h1,h2⟩:=Cc hx;subst h1;exact aAP rfl h2
 ·let ⟨h1,h2⟩:=Cc hx;subst h1;exact apm rfl h2
 ·split at hx
  ·rename_i hc;let ⟨h1,h2⟩:=Cc hx;subst h1;exact aAN hc rfl h2
  ·cases hx
 ·let ⟨h1,hx⟩:=aJ hx;cases hx;exact agh rfl h1
 ·let ⟨i,hi,hx⟩:=aj hx;exact aAQ hi rfl hx
 ·let ⟨i,hi,hx⟩:=aj hx;exact aaT hi rfl hx
 ·let ⟨i,hi,hx⟩:=aj hx;split at hx
  ·rename_i ha;exact atf hi ha hx
  ·cases hx
 ·split at hx
  ·rename_i ha;exact akI ha hx
  ·cases hx
 ·let ⟨y,hy,hx⟩:=aj hx;let ⟨h1,h2⟩:=Cc hy;subst h1;exact aDG rfl rfl h2 hx
 ·exact aHW rfl hx
 ·let ⟨i,i2,h1,h2,hx⟩:=bc hx;exact aAS h1 h2 rfl hx
 ·let ⟨h1,hx⟩:=aJ hx;let ⟨h2,hx⟩:=aJ hx;cases hx;exact aAR rfl h1 rfl h2
 ·let ⟨i,m,h1,h2,hx⟩:=bc hx;let ⟨ys,h3,hx⟩:=aj hx;cases hx;exact atg h1 h2 h3
 ·exact agp rfl rfl hx
 ·exact apl rfl rfl hx
 ·cases hx
def Jl (E:Env) (s:LS) (K:Nat) (op:Op):Option (Bx×AV):=
 match op with
 | .box e a=>au (rz (bM s.ts a)) λxs=>ay (ke K (eW xs)) none (some (.flat e xs,.loc K 0))
 | .alloc e=>au (E.ty.get e) λi=>some (.flat e (km i.zero),.loc K 0)
 | .buildSlice t len parts=>bE (qU E t) (B5 s.ts parts.toList) λp m=>ay (jc p.2&&Nat.ble (Nat.mul len p.2.size) 16777216) (au (DH (oM p.2.size) (Ej (km p.2.zero) len) m) λys=>ay (eW ys).isEmpty (some (.rows false p.1 p.2.size (ry p.2.size len ys),.ms K p.2.size 0 len)) (ay (Nat.beq len 1 && !ke K (eW ys)) (some (.flat p.1 ys,.ms K p.2.size 0 1)) none)) none
 | .makeMap _ none=>some (.map [],.mp K)
 | .range t a=>au (E.ty.get t) λi=>ay (zR i.desc) (match bM s.ts a with| .str b=>some (.iter b 0,.it K)|_=>none) none
 |_=>none
def VS {op:Op} (hk:s.free K) (hp:B.pk K=false) (hx:Jl E s K op=some p):bX E B op s (s.set K p.1) p.2 (some (K,true)):=by
 unfold Jl at hx;split at hx
 ·let ⟨xs,h1,hx⟩:=aj hx;rw[bk] at hx;split at hx
  ·cases hx
  ·rename_i hm;cases hx;exact aDF rfl h1 hk hp (wP (by simpa using hm))
 ·let ⟨i,h1,hx⟩:=aj hx;cases hx;exact ath h1 hk hp
 ·let ⟨q,m,h1,h2,hx⟩:=bc hx;let ⟨h3,hx⟩:=aJ hx;let ⟨ys,h4,hx⟩:=aj hx;rw[bk] at hx;split at hx
  ·rename_i h5;cases hx;exact W8 h1 h3 h2 h4 hk hp h5
  ·let ⟨h6,hx⟩:=aJ hx;cases hx;rw[aY] at h6;have e1:=(beq_iff _ _).1 h6.1;subst e1;exact aaU h1 h3 h2 h4 hk hp (wP (by simpa using h6.2))
 ·cases hx;exact akG hk hp
 ·let ⟨i,h1,hx⟩:=aj hx;let ⟨h2,hx⟩:=aJ hx;split at hx
  ·rename_i ha;cases hx;exact atd h1 h2 ha hk hp
  ·cases hx
 ·cases hx
def Jk (E:Env) (s:LS) (op:Op):Option (Nat×Bx):=
 match op with
 | .store t a c=>au (E.ty.get t) λi=>(match bM s.ts a with
  | .loc K off=>au (rz (bM s.ts c)) λxs=>(match lk K s.bs with
   |some (.flat e cs)=>ay (Nat.beq xs.length i.size&&Nat.ble (Nat.add off xs.length) cs.length) (some (K,.flat e (di cs off xs))) none
   |_=>none)
  |_=>none)
 |_=>none
def aoS {op:Op} {p:Nat×Bx} (hx:Jk E s op=some p):bX E B op s (s.set p.1 p.2) (.cm []) (some (p.1,false)):=by
 unfold Jk at hx;split at hx
 ·let ⟨i,h1,hx⟩:=aj hx;split at hx
  ·rename_i ha;let ⟨xs,h2,hx⟩:=aj hx;split at hx
   ·rename_i hb;let ⟨h3,hx⟩:=aJ hx;cases hx;exact atc h1 ha rfl h2 hb h3
   ·cases hx
  ·cases hx
 ·cases hx
def aax (E:Env) (s:LS) (op:Op):Option AV:=
 match op with
 | .call c=>(match c.callee with
  | .builtin .len=>(match c.args.toList,c.argTypes.toList with
   | [a],[t]=>au (E.ty.get t) λi=>au (akS s.bs i.desc (bM s.ts a)) λn=>some (.int .i64 n)
   |_,_=>none)
  | .builtin .min=>(match c.args.toList with
   | [a,b]=>atj false (bM s.ts a) (bM s.ts b)
   |_=>none)
  | .builtin .max=>(match c.args.toList with
   | [a,b]=>atj true (bM s.ts a) (bM s.ts b)
   |_=>none)
  |_=>none)
 |_=>none
def aoR {op:Op} (hx:aax E s op=some x):bX E B op s s x none:=by
 unfold aax at hx;split at hx
 ·split at hx
  ·rename_i yS;split at hx
   ·rename_i ha ht;let ⟨i,h1,hx⟩:=aj hx;let ⟨n,h2,hx⟩:=aj hx;cases hx;exact aDC yS ha ht h1 rfl h2
   ·cases hx
  ·rename_i yS;split at hx
   ·rename_i ha;exact apj (mx:=false) yS ha rfl rfl hx
   ·cases hx
  ·rename_i yS;split at hx
   ·rename_i ha;exact apj (mx:=true) yS ha rfl rfl hx
   ·cases hx
  ·cases hx
 ·cases hx
def aaw (E:Env) (s:LS) (op:Op):Option jO:=
 match op with
 | .load t a=>au (E.ty.get t) λi=>ay (kW i.desc) none (match bM s.ts a with
  | .el K sz j f=>(match lk K s.bs with
   |some (.hole _ gZ _ i0 x)=>ay (Nat.beq gZ sz) (some (s,x,none,[(.loc 0 (Nat.add (Nat.mul j sz) f),.loc 0 i0)])) none
   |some (.tree _ gZ _ _ (p::_))=>ay (Nat.beq gZ sz) (some (s,p.2,none,[(.loc 0 (Nat.add (Nat.mul j sz) f),.loc 0 p.1)])) none
   |_=>none)
  |_=>none)
 |_=>none
def aoQ {op:Op} {r:jO} (hr:aaw E s op=some r):l5 E B op s r:=by
 intro ho;unfold aaw at hr;split at hr
 ·let ⟨i,h1,hr⟩:=aj hr;rw[bk] at hr;split at hr
  ·cases hr
  ·rename_i hg;split at hr
   ·rename_i ha;split at hr
    ·rename_i hb;let ⟨h2,hr⟩:=aJ hr;cases hr;have e1:=(beq_iff _ _).1 h2;have e2:=ho.1;injection e2 with _ e2
     subst e1;subst e2;exact agm h1 (by simpa using hg) ha hb
    ·rename_i p o hb;let ⟨h2,hr⟩:=aJ hr;cases hr;have e1:=(beq_iff _ _).1 h2;have e2:=ho.1;injection e2 with _ e2
     let ⟨p1,p2⟩:=p;have e2:Nat.add (Nat.mul _ _) _=p1:=e2;subst e1;subst e2;exact agi h1 (by simpa using hg) ha hb
    ·cases hr
   ·cases hr
 ·cases hr
def zx (E:Env) (bV:aI) (s:LS) (op:Op) (d:da):Option jO:=
 match aay E s op with
 |some x=>some (s,x,none,[])
 |none=>(match Jk E s op with
  |some p=>some (s.set p.1 p.2,.cm [],some (p.1,false),[])
  |none=>(match aax E s op with
   |some x=>some (s,x,none,[])
   |none=>(match aaw E s op with
    |some r=>some r
    |none=>(match d with
     |some K=>ay (sy bV s K) (au (Jl E s K op) λp=>some (s.set K p.1,p.2,some (K,true),[])) none
     |none=>none))))
def Dh {op:Op} {r:jO} (hB:od bV B) (hr:zx E bV s op d=some r):l5 E B op s r:=by
 intro ho;unfold zx at hr;split at hr
 ·rename_i h1;cases hr;exact aoT h1
 ·split at hr
  ·rename_i h1;cases hr;exact aoS h1
  ·split at hr
   ·rename_i h1;cases hr;exact aoR h1
   ·split at hr
    ·rename_i h1;cases hr;exact aoQ h1 ho
    ·split at hr
     ·let ⟨h1,hr⟩:=aJ hr;let ⟨p,h2,hr⟩:=aj hr;cases hr;let ⟨a,b⟩:=wZ hB h1;exact VS a b h2
     ·cases hr
end
section
variable {F F':Hf} {g g':Gb} {B:Bs} {J:cS} {s s' s1:LS} {tm:Tf} {h:Hs} {hp:Hf} {E:Env} {nt:Nat} {all l:bS}
variable {b:ByteArray} {Q:aT} {r':aB} {c:UInt8} {hi:Int} {n':Nat} {Ac:List (AV×AV)}
def Fi (a b:Int):Ob:=(.int .i64 a,.int .i64 b)
def tQ (a b:Nat):Ob:=(.ms 0 0 0 a,.ms 0 0 0 b)
def oP (a b:aT):Ob:=(.slice 0 0 a,.slice 0 0 b)
def obS (a b:ByteArray):Ob:=(.str a,.str b)
def obM (a b:List (AV×AV)):List Ob:= [(.agg (a.map (·.1)),.agg (b.map (·.1))),(.agg (a.map (·.2)),.agg (b.map (·.2)))]
mutual
def Qb:Sh->AV
 | .d=>.cR
 | .o x l=>.agg (.bool x::uc l)
def uc:ew->aB
 | []=> []
 |a::l=>Qb a::uc l
end
mutual
def auR:∀{a b:Sh},Qb a=Qb b->a=b
 | .d,.d,_=>rfl
 | .d,.o _ _,h=>by cases (show AV.cR=AV.agg _ from h)
 | .o _ _,.d,h=>by cases (show AV.agg _=AV.cR from h)
 | .o x l,.o y m,h=>by
  have h:AV.agg (.bool x::uc l)=AV.agg (.bool y::uc m):=h;injection h with h
  injection h with h1 h2
  injection h1 with h1
  rw[h1,DJ h2]
def DJ:∀{a b:ew},uc a=uc b->a=b
 | [],[],_=>rfl
 | [],_::_,h=>by cases (show ([]:aB)=_::_ from h)
 |_::_,[],h=>by cases (show (_::_:aB)= [] from h)
 |x::a,y::b,h=>by
  have h:Qb x::uc a=Qb y::uc b:=h;injection h with h1 h2
  rw[auR h1,DJ h2]
end
def Mq:dd->aB
 | []=> []
 |p::l=>.loc p.1 0::p.2::Mq l
def acq:∀{a b:dd},Mq a=Mq b->a=b
 | [],[],_=>rfl
 | [],_::_,h=>by cases (show ([]:aB)=_::_ from h)
 |_::_,[],h=>by cases (show (_::_:aB)= [] from h)
 |(i,x)::a,(k,y)::b,h=>by
  have h:AV.loc i 0::x::Mq a=AV.loc k 0::y::Mq b:=h;injection h with h1 h2
  injection h2 with h2 h3
  injection h1 with h1
  rw[h1,h2,acq h3]
def vj {a b:Int} (h:(Fi a b).1=(Fi a b).2):a=b:=by unfold Fi at h;simpa using h
def mh {a b:Nat} (h:(tQ a b).1=(tQ a b).2):a=b:=by unfold tQ at h;simpa using h
def jt {a b:aT} (h:(oP a b).1=(oP a b).2):a=b:=by unfold oP at h;simpa using h
def Jt {a:ByteArray} (h:(obS a b).1=(obS a b).2):a=b:=by unfold obS at h;simpa using h
def NQ:∀{a b:List (AV×AV)},a.map (·.1)=b.map (·.1)->a.map (·.2)=b.map (·.2)->a=b
 | [],[],_,_=>rfl
 | [],_::_,h,_=>by cases h
 |_::_,[],h,_=>by cases h
 |(x,y)::a,(x',y')::b,h1,h2=>by
  rw[fM,fM,Ly] at h1 h2;let ⟨h3,h4⟩:=h1;let ⟨h5,h6⟩:=h2;have h3:x=x':=h3;have h5:y=y':=h5;rw[h3,h5,NQ h4 h6]
def apr {a b:List (AV×AV)} {l:List Ob} (h:fI (obM a b++l)):a=b/\fI l:=by
 let ⟨h1,h2,h3⟩:=h;have h1:AV.agg (a.map (·.1))=AV.agg (b.map (·.1)):=h1
 have h2:AV.agg (a.map (·.2))=AV.agg (b.map (·.2)):=h2
 exact ⟨NQ (by simpa using h1) (by simpa using h2),h3⟩
inductive Sr:aT->Type
 |CB {R:aT}:Sr R
 |box {Q R:aT} {lo n:Nat} (h:(Q.drop lo).take n=R) (hn:lo+n<=Q.length):Sr R
def asB (s:LS) (sz:Nat) (y:AV) {R:aT} (sr:Sr R):Option (List Ob):=
 match sr with
 | .CB=>(match y with
  | .cR=>some [oP [] R]
  |y=>au (xC y) λq=>ay (Nat.beq q.2.1 sz) (some [oP q.2.2 R]) none)
 | @Sr.box Q _ lo n _ _=>(match y with
  | .ms K gZ lo' n'=>(match lk K s.bs with
   |some (.rows _ _ asn Q')=>ay (Nat.beq gZ sz&&Nat.beq asn sz) (some [oP Q' Q,tQ lo' lo,tQ n' n]) none
   |_=>none)
  |_=>none)
def ahH {sz:Nat} {R:aT} {sr:Sr R} {obs:List Ob} (h:asB s sz y sr=some obs) (ho:fI obs):HX s sz y R:=by
 unfold asB at h;cases sr with
 |CB=>
  dsimp only at h;split at h
  ·cases h;have:=jt ho.1;subst this;exact aAw
  ·let ⟨⟨e,gZ,R'⟩,h1,h⟩:=aj h;let ⟨h2,h⟩:=aJ h;cases h;have e1:R'=R:=jt ho.1;have e2:gZ=sz:=(beq_iff _ _).1 h2;subst e1;subst e2;exact asA h1
 | @box Q _ lo n hR hn=>
  dsimp only at h;split at h
  ·rename_i K gZ lo' n';split at h
   ·rename_i z e asn Q' hb;let ⟨h2,h⟩:=aJ h;cases h;let ⟨o1,o2,o3,_⟩:=ho;have e1:=jt o1;have e2:=mh o2;have e3:=mh o3;rw[aY] at h2;have e4:gZ=sz:=(beq_iff _ _).1 h2.1;have e5:asn=sz:=(beq_iff _ _).1 h2.2;subst e1;subst e2;subst e3;subst e4;subst e5;exact aAx hb hR hn
   ·cases h
  ·cases h
def alj (E:Env) (s:LS) (rows:aT) (n:Int) (R:aB) (op:Op):Option jO:=
 match op with
 | .indexAddr t a ix=>bE (elemOf E t) (xC (bM s.ts a)) λie q=>(match bM s.ts ix with
  | .int _ n'=>ay (Nat.beq ie.size q.2.1) (some (s,.iw R,none,[oP q.2.2 rows,Fi n' n])) none
  |_=>none)
 |_=>none
def atD {n:Int} {op:Op} {r:jO} (hR:ub rows n=some R) (h:alj E s rows n R op=some r):l5 E B op s r:=by
 unfold alj at h;split at h
 ·let ⟨ie,⟨e,sz,A2⟩,h1,h2,h⟩:=bc h;split at h
  ·rename_i tY;let ⟨h3,h⟩:=aJ h;cases h;intro ho;let ⟨o1,o2,_⟩:=ho;have e1:A2=rows:=jt o1;have e2:=vj o2;subst e1;subst e2;exact ate h1 ((beq_iff _ _).1 h3) rfl h2 tY hR
  ·cases h
 ·cases h
def alk (E:Env) (s:LS) (n k:Nat) (m:Int) (op:Op):Option jO:=
 match op with
 | .indexAddr t a ix=>au (elemOf E t) λie=>(match bM s.ts a,bM s.ts ix with
  | .ms K sz lo n',.int _ m'=>ay (Nat.beq ie.size sz) (some (s,.el K sz (Nat.add lo k) 0,none,[tQ n' n,Fi m' m])) none
  |_,_=>none)
 |_=>none
def atE {m:Int} {op:Op} {r:jO} (hm:m=(k:Int)) (hk:k<n) (h:alk E s n k m op=some r):l5 E B op s r:=by
 unfold alk at h;split at h
 ·let ⟨ie,h1,h⟩:=aj h;split at h
  ·rename_i ha tY;let ⟨h3,h⟩:=aJ h;cases h;intro ho;let ⟨o1,o2,_⟩:=ho;have e1:=mh o1;have e2:=vj o2;subst e1;subst e2;exact ago h1 ((beq_iff _ _).1 h3) ha tY hm hk
  ·cases h
 ·cases h
def alg (E:Env) (s:LS) (Q:aT) (j:Nat) (R:aB) (op:Op):Option jO:=
 match op with
 | .load t a=>au (E.ty.get t) λi=>(match bM s.ts a with
  | .el K sz j' f=>(match lk K s.bs with
   |some (.rows _ _ gZ Q')=>ay (Nat.beq sz gZ&&Nat.ble (Nat.add f i.size) sz) (au (mf i ((R.drop f).take i.size) 0) λx=>ay (dE x).isEmpty (some (s,x,none,[oP Q' Q,tQ j' j])) none) none
   |some (.hole _ gZ Q' _ _)=>ay (Nat.beq sz gZ&&Nat.ble (Nat.add f i.size) sz) (au (mf i ((R.drop f).take i.size) 0) λx=>ay (dE x).isEmpty (some (s,x,none,[oP Q' Q,tQ j' j])) none) none
   |some (.tree _ gZ l Q' _)=>ay (Nat.beq sz gZ&&Nat.ble (Nat.add f i.size) sz) (au (mf i (((mR l R).drop f).take i.size) 0) λx=>ay (dE x).isEmpty (some (s,x,none,[oP Q' Q,tQ j' j])) none) none
   |_=>none)
  |_=>none)
 |_=>none
def aty {op:Op} {r:jO} (hj:Q[j]? =some R) (h:alg E s Q j R op=some r):l5 E B op s r:=by
 unfold alg at h;split at h
 ·let ⟨i,h1,h⟩:=aj h;split at h
  ·rename_i K sz j' f ha;split at h
   ·rename_i z e gZ Q' hb;let ⟨h2,h⟩:=aJ h;let ⟨x,h3,h⟩:=aj h;let ⟨h4,h⟩:=aJ h;cases h;intro ho;let ⟨o1,o2,_⟩:=ho;have e1:Q'=Q:=jt o1;have e2:=mh o2;rw[aY] at h2;have e3:sz=gZ:=(beq_iff _ _).1 h2.1;subst e1;subst e2;subst e3;exact akH h1 ha hb hj h2.2 h3 h4
   ·rename_i e gZ Q' i0 x0 hb;let ⟨h2,h⟩:=aJ h;let ⟨x,h3,h⟩:=aj h;let ⟨h4,h⟩:=aJ h;cases h;intro ho;let ⟨o1,o2,_⟩:=ho;have e1:Q'=Q:=jt o1;have e2:=mh o2;rw[aY] at h2;have e3:sz=gZ:=(beq_iff _ _).1 h2.1;subst e1;subst e2;subst e3;exact agl h1 ha hb hj h2.2 h3 h4
   ·rename_i e gZ l Q' o0 hb;let ⟨h2,h⟩:=aJ h;let ⟨x,h3,h⟩:=aj h;let ⟨h4,h⟩:=aJ h;cases h;intro ho;let ⟨o1,o2,_⟩:=ho;have e1:Q'=Q:=jt o1;have e2:=mh o2;rw[aY] at h2;have e3:sz=gZ:=(beq_iff _ _).1 h2.1;subst e1;subst e2;subst e3;exact agj h1 ha hb hj h2.2 h3 h4
   ·cases h
  ·cases h
 ·cases h
def alf (E:Env) (s:LS) (Q:aT) (j:Nat) (f:Nat) (xs:aB) (Q':aT) (op:Op):Option jO:=
 match op with
 | .store t a c=>bE (E.ty.get t) (rz (bM s.ts c)) λi xs'=>(match bM s.ts a with
  | .el K sz j' f'=>(match lk K s.bs with
   |some (.rows z e gZ Q0)=>ay (Nat.beq sz gZ&&(Nat.beq f' f&&((eW xs').isEmpty&&(Nat.beq xs'.length i.size&&Nat.ble (Nat.add f xs'.length) sz)))) (some (s.set K (.rows z e sz Q'),.cm [],some (K,false),[oP Q0 Q,tQ j' j,(.agg xs',.agg xs)])) none
   |_=>none)
  |_=>none)
 |_=>none
def atx {op:Op} {r:jO} (hj:Q[j]? =some R) (hQ':Q.set j (di R f xs)=Q') (h:alf E s Q j f xs Q' op=some r):l5 E B op s r:=by
 subst hQ';unfold alf at h;split at h
 ·let ⟨i,xs',h1,hx,h⟩:=bc h;split at h
  ·rename_i K sz j' f' ha;split at h
   ·rename_i z e gZ Q0 hb;let ⟨h2,h⟩:=aJ h;cases h;intro ho;let ⟨o1,o2,o3,_⟩:=ho;have e1:Q0=Q:=jt o1;have e2:=mh o2;have e4:xs'=xs:=by have o3:AV.agg xs'= .agg xs:=o3;simpa using o3
    simp only[aY] at h2;let ⟨k1,k2,k3,k4⟩:=h2;have e3:sz=gZ:=(beq_iff _ _).1 k1;have e5:f'=f:=(beq_iff _ _).1 k2;subst e1;subst e2;subst e3;subst e4;subst e5;exact age h1 ha rfl hx k3 hb hj (by rw[aY];exact k4)
   ·cases h
  ·cases h
 ·cases h
def aln (E:Env) (s:LS) (Q:aT) (j f:Nat) (Q':aT) (op:Op):Option jO:=
 match op with
 | .store t a c=>au (E.ty.get t) λi=>(match bM s.ts a,rz (bM s.ts c) with
  | .el K sz j' f',some [x]=>(match lk K s.bs with
   |some (.rows z e gZ Q0)=>ay (Nat.beq sz gZ&&(Nat.beq f' f&&(Nat.beq 1 i.size&&Nat.ble (Nat.add f 1) sz))) (some (s.set K (.hole e sz Q' (Nat.add (Nat.mul j sz) f) x),.cm [],some (K,false),[oP Q0 Q,tQ j' j])) none
   |some (.tree e gZ l Q0 _)=>ay (Nat.beq sz gZ&&(Nat.beq f' f&&(Nat.beq 1 i.size&&Nat.ble (Nat.add f 1) sz))) (some (s.set K (.tree e sz l Q' [(Nat.add (Nat.mul j sz) f,x)]),.cm [],some (K,false),[oP Q0 Q,tQ j' j])) none
   |_=>none)
  |_,_=>none)
 |_=>none
def atH {op:Op} {r:jO} (hj:Q[j]? =some R) (hQ':Q.set j (di R f [.undef])=Q') (h:aln E s Q j f Q' op=some r):l5 E B op s r:=by
 subst hQ';unfold aln at h;split at h
 ·let ⟨i,h1,h⟩:=aj h;split at h
  ·rename_i K sz j' f' x ha hx;split at h
   ·rename_i z e gZ Q0 hb;let ⟨h2,h⟩:=aJ h;cases h;intro ho;let ⟨o1,o2,_⟩:=ho;have e1:Q0=Q:=jt o1;have e2:=mh o2;simp only[aY] at h2;let ⟨k1,k2,k3,k4⟩:=h2;have e3:sz=gZ:=(beq_iff _ _).1 k1;have e5:f'=f:=(beq_iff _ _).1 k2;subst e1;subst e2;subst e3;subst e5;exact aaR h1 ha rfl hx hb hj (by rw[aY];exact ⟨k3,k4⟩)
   ·rename_i e gZ l Q0 o0 hb;let ⟨h2,h⟩:=aJ h;cases h;intro ho;let ⟨o1,o2,_⟩:=ho;have e1:Q0=Q:=jt o1;have e2:=mh o2;simp only[aY] at h2;let ⟨k1,k2,k3,k4⟩:=h2;have e3:sz=gZ:=(beq_iff _ _).1 k1;have e5:f'=f:=(beq_iff _ _).1 k2;subst e1;subst e2;subst e3;subst e5;exact aaP h1 ha rfl hx hb hj (fU k4) k3
   ·cases h
  ·cases h
 ·cases h
def alm (E:Env) (s:LS) (Q:aT) (j:Nat) (r':aB) (Q':aT) (op:Op):Option jO:=
 match op with
 | .store t a c=>au (E.ty.get t) λi=>(match bM s.ts a,rz (bM s.ts c) with
  | .el K sz j' f',some cs=>(match lk K s.bs with
   |some (.tree e gZ l Q0 _)=>ay (Nat.beq sz gZ&&(Nat.beq f' 0&&(Nat.beq cs.length sz&&(Nat.beq l.length sz&&(Nat.beq i.size sz&&(Nat.ble 1 sz&&Ay l cs)))))) (some (s.set K (.tree e sz l Q' (Aw (Nat.mul j sz) 0 l cs)),.cm [],some (K,false),[oP Q0 Q,tQ j' j,(.agg (mR l cs),.agg r')])) none
   |_=>none)
  |_,_=>none)
 |_=>none
def atG {op:Op} {r:jO} (hj:Q[j]? =some R) (hQ':Q.set j r'=Q') (h:alm E s Q j r' Q' op=some r):l5 E B op s r:=by
 subst hQ';unfold alm at h;split at h
 ·let ⟨i,h1,h⟩:=aj h;split at h
  ·rename_i K sz j' f' cs ha hx;split at h
   ·rename_i e gZ l Q0 o0 hb;let ⟨h2,h⟩:=aJ h;cases h;intro ho;let ⟨o1,o2,o3,_⟩:=ho;have e1:Q0=Q:=jt o1;have e2:=mh o2;have e4:mR l cs=r':=by injection o3
    simp only[aY] at h2;let ⟨k1,k2,k3,k4,k5,k6,k7⟩:=h2;have e3:sz=gZ:=(beq_iff _ _).1 k1;have e5:f'=0:=(beq_iff _ _).1 k2;subst e1;subst e2;subst e3;subst e5;subst e4;exact aaQ h1 ha rfl hx hb hj ((beq_iff _ _).1 k3) ((beq_iff _ _).1 k4) ((beq_iff _ _).1 k5) (fU k6) k7
   ·cases h
  ·cases h
 ·cases h
def alq (E:Env) (s:LS) (b:ByteArray) (n:Int) (c:UInt8) (op:Op):Option jO:=
 match op with
 | .index t a ix=>au (E.ty.get t) λi=>(match bM s.ts a,bM s.ts ix with
  | .str b',.int _ n'=>ay (zR i.desc) (some (s,.int .u8 (c.toNat:Int),none,[obS b' b,Fi n' n])) none
  |_,_=>none)
 |_=>none
def atK {n:Int} {op:Op} {r:jO} (hc:ub b.data.toList n=some c) (h:alq E s b n c op=some r):l5 E B op s r:=by
 unfold alq at h;split at h
 ·let ⟨i,h1,h⟩:=aj h;split at h
  ·rename_i ha tY;let ⟨h3,h⟩:=aJ h;cases h;intro ho;let ⟨o1,o2,_⟩:=ho;have e1:=Jt o1;have e2:=vj o2;subst e1;subst e2;exact agn h1 h3 ha tY hc
  ·cases h
 ·cases h
def atz (s:LS) (n:Int) (op:Op):Option jO:=
 match op with
 | .binOp op t a b t2=>(match bM s.ts a,bM s.ts b with
  | .int k m,.int k' n'=>ay (gu k k') (au (divL op k m n) λx=>some (s,x,none,[Fi n' n])) none
  |_,_=>none)
 |_=>none
def aBc {n:Int} {op:Op} {r:jO} (hn:n≠0) (h:atz s n op=some r):l5 E B op s r:=by
 unfold atz at h;split at h
 ·split at h
  ·rename_i ha hb;let ⟨h3,h⟩:=aJ h;let ⟨x,h4,h⟩:=aj h;cases h;intro ho;have e1:=vj ho.1;subst e1;exact aDD ha hb h3 hn h4
  ·cases h
 ·cases h
def alr (s:LS) (x y:ByteArray) (op:Op):Option jO:=
 match op with
 | .binOp .add t a b t2=>(match bM s.ts a,bM s.ts b with
  | .str x',.str y'=>some (s,.str (x++y),none,[obS x' x,obS y' y])
  |_,_=>none)
 |_=>none
def atL {x y:ByteArray} {op:Op} {r:jO} (hn:x.size+y.size<=1000000) (h:alr s x y op=some r):l5 E B op s r:=by
 unfold alr at h;split at h
 ·split at h
  ·rename_i ha hb;cases h;intro ho;let ⟨o1,o2,_⟩:=ho;have e1:=Jt o1;have e2:=Jt o2;subst e1;subst e2;exact aDE ha hb hn
  ·cases h
 ·cases h
def atB (E:Env) (bV:aI) (s:LS) (n1 n2:Int) (l:Nat) (x:aB) (Q':aT) (op:Op) (d:da):Option jO:=
 match op,d with
 | .makeSlice t a c,some K=>au (qU E t) λp=>(match bM s.ts a,bM s.ts c with
  | .int _ Is,.int _ n2'=>ay (jc p.2&&((eW (km p.2.zero)).isEmpty&&sy bV s K)) (some (s.set K (.rows false p.1 p.2.size Q'),.ms K p.2.size 0 l,some (K,true),[Fi Is n1,Fi n2' n2,(.agg (km p.2.zero),.agg x)])) none
  |_,_=>none)
 |_,_=>none
def alp (E:Env) (s:LS) (rows:aT) (lo hi:Int) (R:aT) (op:Op):Option jO:=
 match op with
 | .slice t a o1 o2 none=>bE (qU E t) (xC (bM s.ts a)) λp q=>bE (HQ s.ts o1) (HQ s.ts o2) λb1 b2=>ay (Nat.beq q.1 p.1&&Nat.beq q.2.1 p.2.size) (some (s,Oe (bM s.ts a) o1 p.1 p.2.size R,none,[oP q.2.2 rows,Fi (b1.getD 0) lo,Fi (b2.getD (q.2.2.length:Nat)) hi])) none
 |_=>none
def atJ {R:aT} {l u:Nat} {op:Op} {r:jO} (h1:lo=(l:Int)) (h2:hi=(u:Int)) (DA:l<=u) (tW:u<=rows.length) (hR:(rows.drop l).take (u-l)=R) (h:alp E s rows lo hi R op=some r):l5 E B op s r:=by
 unfold alp at h;split at h
 ·let ⟨p,⟨e,sz,A2⟩,h3,h4,h⟩:=bc h;let ⟨b1,b2,h5,h6,h⟩:=bc h;let ⟨h7,h⟩:=aJ h;cases h;intro ho;let ⟨o1,o2,o3,_⟩:=ho;have e1:A2=rows:=jt o1;have e2:=vj o2;have e3:=vj o3;rw[aY] at h7;have e4:e=p.1:=(beq_iff _ _).1 h7.1;have e5:sz=p.2.size:=(beq_iff _ _).1 h7.2;subst e1;subst e4;subst e5;exact ok_slice h3 rfl h4 h5 h6 (e2.trans h1) (e3.trans h2) DA tW hR
 ·cases h
def abm (E:Env) (s:LS) (Q:aT) (lo0 n:Nat) (lo hi:Int) (l u:Nat) (op:Op):Option jO:=
 match op with
 | .slice t a o1 o2 none=>au (qU E t) λp=>bE (HQ s.ts o1) (HQ s.ts o2) λb1 b2=>(match bM s.ts a with
  | .ms K sz lo' n'=>(match lk K s.bs with
   |some (.rows _ e gZ Q')=>ay (Nat.beq e p.1&&(Nat.beq sz p.2.size&&Nat.beq gZ p.2.size)) (some (s,.ms K p.2.size (Nat.add lo0 l) (Nat.sub u l),none,[oP Q' Q,tQ lo' lo0,tQ n' n,Fi (b1.getD 0) lo,Fi (b2.getD (n:Nat)) hi])) none
   |_=>none)
  |_=>none)
 |_=>none
def aqE {l u:Nat} {op:Op} {r:jO} (h1:lo=(l:Int)) (h2:hi=(u:Int)) (DA:l<=u) (tW:u<=n) (hn:lo0+n<=Q.length) (h:abm E s Q lo0 n lo hi l u op=some r):l5 E B op s r:=by
 unfold abm at h;split at h
 ·let ⟨p,h3,h⟩:=aj h;let ⟨b1,b2,h5,h6,h⟩:=bc h;split at h
  ·rename_i K sz lo' n' ha;split at h
   ·rename_i z e gZ Q' hb;let ⟨h7,h⟩:=aJ h;cases h;intro ho;let ⟨o1,o2,o3,o4,o5,_⟩:=ho;have e1:=jt o1;have e2:=mh o2;have e3:=mh o3;have e4:=vj o4;have e5:=vj o5;rw[aY,aY] at h7;have e6:e=p.1:=(beq_iff _ _).1 h7.1;have e7:sz=p.2.size:=(beq_iff _ _).1 h7.2.1;have e8:gZ=p.2.size:=(beq_iff _ _).1 h7.2.2;subst e1;subst e2;subst e3;subst e6;subst e7;subst e8;exact agf h3 ha hb h5 h6 (e4.trans h1) (e5.trans h2) DA tW hn
   ·cases h
  ·cases h
 ·cases h
def ajv (b:Builtin) (op:Op):Option ((Operand×Operand)×TypeId×TypeId):=
 match op with
 | .call c=>(match c.callee with
  | .builtin b'=>ay (decide (b'=b)) (match c.args.toList,c.argTypes.toList with
   | [a,y],[t1,t2]=>some ((a,y),t1,t2)
   |_,_=>none) none
  |_=>none)
 |_=>none
def VJ {b:Builtin} {op:Op} {q:(Operand×Operand)×TypeId×TypeId} (h:ajv b op=some q):∃c,op= .call c/\c.callee= .builtin b/\c.args.toList= [q.1.1,q.1.2]/\c.argTypes.toList= [q.2.1,q.2.2]:=by
 unfold ajv at h;split at h
 ·rename_i c;split at h
  ·rename_i b' hc;let ⟨h1,h2⟩:=aJ h;clear h;have e:b'=b:=by simpa using h1
   split at h2
   ·rename_i ha ht;cases h2;exact ⟨c,rfl,by rw[hc,e],ha,ht⟩
   ·cases h2
  ·cases h
 ·cases h
def obH (j sz:Nat):aI->dd->List Ob
 |f::fs,p::o=>(.loc 0 p.1,.loc 0 (Nat.add (Nat.mul j sz) f))::obH j sz fs o
 |_,_=> []
def aps {j sz:Nat}:∀{fs:aI} {o:dd},fI (obH j sz fs o)->EqH j sz fs o
 | [],_,_=>trivial
 |_::_,[],_=>trivial
 |f::fs,p::o,h=>by
  have h:AV.loc 0 p.1= .loc 0 (Nat.add (Nat.mul j sz) f)/\fI (obH j sz fs o):=h;have e:=h.1;injection e with _ e
  exact ⟨e,aps h.2⟩
def ald (E:Env) (s:LS) (Q:aT) (j:Nat) (R:aB) (fs:aI) (op:Op):Option jO:=
 match op with
 | .load t a=>au (E.ty.get t) λi=>(match bM s.ts a with
  | .el K sz j' f=>(match lk K s.bs with
   |some (.tree _ gZ l Q' o)=>ay (Nat.beq sz gZ&&Nat.ble (Nat.add f i.size) sz) (au (mf i (((akv (mR l R) fs o).drop f).take i.size) 0) λx=>ay (eW (mR l R)).isEmpty (some (s,x,none,oP Q' Q::tQ j' j::obH j sz fs o)) none) none
   |_=>none)
  |_=>none)
 |_=>none
def atv {op:Op} {r:jO} (hj:Q[j]? =some R) (h:ald E s Q j R fs op=some r):l5 E B op s r:=by
 unfold ald at h;split at h
 ·let ⟨i,h1,h⟩:=aj h;split at h
  ·rename_i K sz j' f ha;split at h
   ·rename_i e gZ l Q' o0 hb;let ⟨h2,h⟩:=aJ h;let ⟨x,h3,h⟩:=aj h;let ⟨h4,h⟩:=aJ h;cases h;intro ho;let ⟨o1,o2,o3⟩:=ho;have e1:Q'=Q:=jt o1;have e2:=mh o2;rw[aY] at h2;have e3:sz=gZ:=(beq_iff _ _).1 h2.1;subst e1;subst e2;subst e3;exact agk h1 ha hb hj h2.2 h3 h4 (aps o3)
   ·cases h
  ·cases h
 ·cases h
def ale (E:Env) (bV:aI) (s:LS) (Q:aT) (n:Nat) (op:Op):Option jO:=
 au (ajv .append op) λq=>bE (qU E q.2.1) (E.ty.get q.2.2) λp i2=>(match bM s.ts q.1.1,bM s.ts q.1.2 with
  | .ms K sz lo n0,.ms K1 sz1 lo1 n1=>(match lk K s.bs,lk K1 s.bs with
   |some (.tree e gZ l Q0 []),some (.flat _ cs)=>ay ((jc p.2&&(vY i2.desc&&(Nat.beq lo 0&&(Nat.beq sz p.2.size&&(Nat.beq gZ p.2.size&&(Nat.beq e p.1 && !Jm bV K))))))&&(Nat.beq sz1 p.2.size&&(Nat.beq lo1 0&&(Nat.beq n1 1&&(Nat.beq cs.length p.2.size&&(Nat.beq l.length p.2.size&&(Ay l cs && !ke K (vN (Aw (Nat.mul n p.2.size) 0 l cs)))))))))
     (some ((s.fa K).set K (.tree e gZ l (Q++ [mR l cs]) (Aw (Nat.mul n gZ) 0 l cs)),.ms K gZ 0 (n+1),some (K,false),[oP Q0 Q,tQ n0 n])) none
   |_,_=>none)
  |_,_=>none)
def atw {op:Op} {r:jO} (hB:od bV B) (hn:n=Q.length) (mv:Q.length<=1000000) (h:ale E bV s Q n op=some r):l5 E B op s r:=by
 unfold ale at h;let ⟨⟨⟨a,y⟩,t1,t2⟩,h1,h0⟩:=aj h;clear h;obtain ⟨c,rfl,hc1,yg,hc3⟩:=VJ h1;have h:=h0;clear h0;let ⟨p,i2,h2,h3,h⟩:=bc h;split at h
 ·rename_i K sz lo n0 K1 sz1 lo1 n1 ha hb;split at h
  ·rename_i e gZ l Q0 e1 cs ql iY;let ⟨h5,h⟩:=aJ h;cases h;intro ho;let ⟨o1,o2,_⟩:=ho;have e1:=jt o1;have e2:=mh o2;simp only[aY] at h5;let ⟨⟨k1,k2,k3,k4,k5,k6,k7⟩,m1,m2,m3,m4,m5,m6,m7⟩:=h5;have e3:lo=0:=(beq_iff _ _).1 k3;have e4:sz=p.2.size:=(beq_iff _ _).1 k4;have e5:gZ=p.2.size:=(beq_iff _ _).1 k5;have e6:e=p.1:=(beq_iff _ _).1 k6;have e7:sz1=p.2.size:=(beq_iff _ _).1 m1;have e8:lo1=0:=(beq_iff _ _).1 m2;have e9:n1=1:=(beq_iff _ _).1 m3;subst e1;subst e2;subst e3;subst e4;subst e5;subst e6;subst e7;subst e8;subst e9;have key:=akJ hc1 yg hc3 h2 k1 h3 k2 ha hn hb iY ((beq_iff _ _).1 m4) ((beq_iff _ _).1 m5) m6 (wP (by simpa using m7)) mv ql (hB.pn (by simpa using k7))
   rw[eQ,<-hn] at key;exact key
  ·cases h
 ·cases h
def Xy (E:Env) (bV:aI) (s:LS) (w:Bool) (Q P R Q':aT) (n n':Nat) (sr:Sr R) (op:Op) (d:da):Option jO:=
 au (ajv .append op) λq=>bE (qU E q.2.1) (E.ty.get q.2.2) λp i2=>au (asB s p.2.size (bM s.ts q.1.2) sr) λobs=>(match bM s.ts q.1.1 with
  | .ms K sz lo n0=>(match lk K s.bs with
   |some (.rows z e gZ Q0)=>ay (jc p.2&&(vY i2.desc&&(Nat.beq lo 0&&(Nat.beq sz p.2.size&&(Nat.beq gZ p.2.size&&(Nat.beq e p.1 && !Jm bV K)))))) (some ((s.fa K).set K (.rows (w&&z) e sz Q'),.ms K sz 0 n',some (K,false),oP Q0 Q::tQ n0 n::obs)) none
   |_=>none)
  | .cR=>au d λK=>(match lk K s.bs with
   |some (.rows true e gZ [])=>ay (jc p.2&&(vY i2.desc&&(Nat.beq gZ p.2.size&&(Nat.beq e p.1 && !Jm bV K)))) (some ((s.fa K).set K (.rows true e gZ Q'),.ms K gZ 0 n',some (K,false),oP [] Q::tQ 0 n::obs)) none
   |_=>none)
  |_=>none)
def abn {P R:aT} {sr:Sr R} {op:Op} {r:jO} (hB:od bV B) (hw:w=true->n=Q.length) (hP:Q.take n=P) (hn:n<=Q.length) (mv:n<=1000000) (hR:R.length<=1000000) (hQ':P++R=Q') (hl:Q'.length=n') (h:Xy E bV s w Q P R Q' n n' sr op d=some r):l5 E B op s r:=by
 subst hl;subst hQ';unfold Xy at h;let ⟨⟨⟨a,y⟩,t1,t2⟩,h1,h0⟩:=aj h;clear h;obtain ⟨c,rfl,hc1,yg,hc3⟩:=VJ h1;have h:=h0;clear h0;let ⟨p,i2,h2,h3,h⟩:=bc h;let ⟨obs,h4,h⟩:=aj h;split at h
 ·rename_i K sz lo n0 ha;split at h
  ·rename_i z e gZ Q0 hb;let ⟨h5,h⟩:=aJ h;cases h;intro ho;let ⟨o1,o2,o3⟩:=ho;have e1:=jt o1;have e2:=mh o2;simp only[aY] at h5;let ⟨k1,k2,k3,k4,k5,k6,k7⟩:=h5;have e3:lo=0:=(beq_iff _ _).1 k3;have e4:sz=p.2.size:=(beq_iff _ _).1 k4;have e5:gZ=p.2.size:=(beq_iff _ _).1 k5;have e6:e=p.1:=(beq_iff _ _).1 k6;subst e1;subst e2;subst e3;subst e4;subst e5;subst e6;refine apn hc1 yg hc3 h2 k1 h3 k2 ha rfl (ahH h4 o3) hP hn mv hR (λhz=> ?_) hb (hB.pn (by simpa using k7))
   rw[aY] at hz;exact ⟨hz.2,hw hz.1⟩
  ·cases h
 ·rename_i ha;let ⟨K,hd,h⟩:=aj h;split at h
  ·rename_i e gZ hb;let ⟨h5,h⟩:=aJ h;cases h;intro ho;let ⟨o1,o2,o3⟩:=ho;have e1:=jt o1;have e2:=mh o2;simp only[aY] at h5;let ⟨k1,k2,k5,k6,k7⟩:=h5;have e5:gZ=p.2.size:=(beq_iff _ _).1 k5;have e6:e=p.1:=(beq_iff _ _).1 k6;subst e1;subst e2;subst e5;subst e6;have hP':P= []:=by rw[<-hP];rfl
   subst hP';exact akK hc1 yg hc3 h2 k1 h3 k2 ha rfl (ahH h4 o3) hR hb (hB.pn (by simpa using k7))
  ·cases h
 ·cases h
def alh (s:LS) (b:ByteArray) (pos:Nat) (op:Op):Option jO:=
 match op with
 | .next it true=>(match bM s.ts it with
  | .it K=>(match lk K s.bs with
   |some (.iter b' pos')=>some (s.set K (.iter b (Nat.add pos (Utf8.decode b pos).2)),.cm [.bool true,.int .i64 (pos:Int),.int .i32 (Utf8.decode b pos).1],some (K,false),[obS b' b,tQ pos' pos])
   |_=>none)
  |_=>none)
 |_=>none
def atA {pos:Nat} {op:Op} {r:jO} (bD:pos<b.size) (h:alh s b pos op=some r):l5 E B op s r:=by
 unfold alh at h;split at h
 ·split at h
  ·rename_i ha;split at h
   ·rename_i hb;cases h;intro ho;let ⟨o1,o2,_⟩:=ho;have e1:=Jt o1;have e2:=mh o2;subst e1;subst e2;exact aAO ha hb bD
   ·cases h
  ·cases h
 ·cases h
def alo (s:LS) (b:ByteArray) (pos:Nat) (op:Op):Option jO:=
 match op with
 | .next it true=>(match bM s.ts it with
  | .it K=>(match lk K s.bs with
   |some (.iter b' pos')=>some (s,.cm [.bool false],none,[obS b' b,tQ pos' pos])
   |_=>none)
  |_=>none)
 |_=>none
def atI {pos:Nat} {op:Op} {r:jO} (bD:¬pos<b.size) (h:alo s b pos op=some r):l5 E B op s r:=by
 unfold alo at h;split at h
 ·split at h
  ·rename_i ha;split at h
   ·rename_i hb;cases h;intro ho;let ⟨o1,o2,_⟩:=ho;have e1:=Jt o1;have e2:=mh o2;subst e1;subst e2;exact akF ha hb bD
   ·cases h
  ·cases h
 ·cases h
def ali (E:Env) (s:LS) (es:List (AV×AV)) (k x z:AV) (ok:Bool) (op:Op):Option jO:=
 match op with
 | .lookup t a c ok'=>au (oq E t) λp=>(match bM s.ts a with
  | .mp K=>(match lk K s.bs with
   |some (.map Ac)=>ay (abk k p.1.desc&&(ok==ok'&&(dE x).isEmpty)) (au (mf p.2 (km p.2.zero) 0) λz'=>some (s,x,none,obM Ac es++ [(bM s.ts c,k),(z',z)])) none
   |_=>none)
  |_=>none)
 |_=>none
def atC {k:AV} {ok:Bool} {op:Op} {r:jO} (hf:∃f,pt k es=some f/\Ka ok (some z) f=some x) (h:ali E s es k x z ok op=some r):l5 E B op s r:=by
 obtain ⟨f,hf,hx⟩:=hf;unfold ali at h;split at h
 ·obtain ⟨p,h1,h⟩:=aj h;split at h
  ·rename_i ha;split at h
   ·rename_i hb;obtain ⟨h2,h⟩:=aJ h;obtain ⟨z',h3,h⟩:=aj h;cases h;intro ho;obtain ⟨e1,o2,o3,_⟩:=apr ho;have o2:bM s.ts _=k:=o2;have o3:z'=z:=o3;simp only[aY,wE] at h2;obtain ⟨k1,k2,k3⟩:=h2;subst e1;subst o3;subst k2;exact apk h1 ha o2 k1 hb hf (by rw[h3];exact hx) k3
   ·cases h
  ·cases h
 ·cases h
def alc (E:Env) (s:LS) (es Ac:List (AV×AV)) (k x:AV) (op:Op):Option jO:=
 match op with
 | .mapUpdate t a c d=>au (oq E t) λp=>(match bM s.ts a with
  | .mp K=>(match lk K s.bs with
   |some (.map es0)=>ay (abk k p.1.desc) (au (ndf (bM s.ts d)) λx'=>ay (dE x).isEmpty (some (s.set K (.map Ac),.cm [],some (K,false),obM es0 es++ [(bM s.ts c,k),(x',x)])) none) none
   |_=>none)
  |_=>none)
 |_=>none
def atu {k:AV} {op:Op} {r:jO} (hf:∃f,pt k es=some f/\Sz es k x f=Ac) (h:alc E s es Ac k x op=some r):l5 E B op s r:=by
 obtain ⟨f,hf,hx⟩:=hf;subst hx;unfold alc at h;split at h
 ·obtain ⟨p,h1,h⟩:=aj h;split at h
  ·rename_i ha;split at h
   ·rename_i hb;obtain ⟨h2,h⟩:=aJ h;obtain ⟨x',h3,h⟩:=aj h;obtain ⟨h5,h6⟩:=Cc h3;obtain ⟨h4,h⟩:=aJ h;cases h;intro ho;obtain ⟨e1,o2,o3,_⟩:=apr ho;have o2:bM s.ts _=k:=o2;have o3:x'=x:=o3;subst e1;subst o3;exact api (λ_ _ _=>rfl) h1 ha o2 h2 h5 (h5 ▸ h6) h4 hb hf
   ·cases h
  ·cases h
 ·cases h
end
end Go.bQ
end
