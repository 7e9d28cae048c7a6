/- Part. -/
import Derived.Test.YtbnkhmoelnfjoaaGreatP2
import Derived.RangeFuncRecord
import Derived.RangeFuncLeaves
import Derived.RecoverIn
import Derived.ProofKit
import Derived.OpenShut
set_option linter.all false
noncomputable section
namespace Go.bQ
open Go.RowKit
variable {ro:da} {nt i W base M m b nx A new:Nat} {all l:bS} {o:Oper} {T:Tf} {need:Nat->Prop} {H:Hf} {v fv x:SV} {prev:List Rc} {tm:cq} {h h':Hs} {r l1:List Oc} {out:Out} {us:eH} {aa xs fi svs cs:aM} {rec:j7->Out} {fo:dJ} {ao:Option aM} {k:FuncId} {e:Ex} {fn:Func} {w':World} {rv:ResultVar} {lg:aI} {cur:hY} {g':Gh} {t:TypeId}
section
variable {E:Env} {g:Gh} {f:Hf} {w:World}
def zh.aEa {all:fk} {frp newp:Nat->Prop} {H2 H':Hf} {D:Nat->Bool} (h:zh E ro nt all i o T need H frp newp v D H') (he:∀x,need x->H x=H2 x):
  zh E ro nt all i o T need H2 frp newp v D H':=
 λm g f T1 a w K Q hE dQ hr hT hn hf hk=>h m g f T1 a w K Q hE dQ hr hT (λx hx=>(hn x hx).trans (he x hx).symm) hf hk
def drop_cons {ops:fk} (h:ops.toList.drop i=o::l):ops[i]? =some o/\ops.toList.drop (i+1)=l/\i<ops.size:=by
 have hi:i<ops.toList.length:=by
  by_cases hl:i<ops.toList.length
  ·exact hl
  ·rw[qY (by omega)] at h;simp at h
 rw[se hi] at h;let ⟨h1,h2⟩:=OE h;have:ops.toList[i]? =some o:=by rw[dW hi,h1]
 exact ⟨by simpa using this,h2,by simpa using hi⟩
def NV {new x:Nat}:∀{us:cQ},x∈og new us↔(x∈us.map (·.1)/\x≠new)
 | []=>by simp[og]
 |u::us=>by
  unfold og;rw[bk,beq_eq];by_cases h:u.1=new
  ·simp only[h,aW,aF,fM,bB];rw[NV (us:=us)];constructor
   ·rintro ⟨h1,h2⟩;exact ⟨.inr h1,h2⟩
   ·rintro ⟨h1|h1,h2⟩
    ·exact absurd h1 h2
    ·exact ⟨h1,h2⟩
  ·simp only[h,bg,aK,aG,fM,bB];rw[NV (us:=us)];constructor
   ·rintro (h1|⟨h1,h2⟩)
    ·subst h1;exact ⟨.inl rfl,h⟩
    ·exact ⟨.inr h1,h2⟩
   ·rintro ⟨h1|h1,h2⟩
    ·exact .inl h1
    ·exact .inr ⟨h1,h2⟩
def oB {n x:Nat}:∀{l acc:aI},x∈below n l acc↔(x∈l/\x<n)\/x∈acc
 | [],acc=>by simp[below]
 |y::l,acc=>by
  unfold below;rw[bk,ble_eq];by_cases h:y+1<=n
  ·simp only[h,aW,aF];rw[oB (l:=l)];simp only[bB];constructor
   ·rintro (⟨h1,h2⟩|h1|h1)
    ·exact .inl ⟨.inr h1,h2⟩
    ·subst h1;exact .inl ⟨.inl rfl,h⟩
    ·exact .inr h1
   ·rintro (⟨h1|h1,h2⟩|h1)
    ·exact .inr (.inl h1)
    ·exact .inl ⟨h1,h2⟩
    ·exact .inr (.inr h1)
  ·simp only[show Nat.succ y<=n↔y+1<=n from Iff.rfl,h,bg,aK,aG];rw[oB (l:=l)];simp only[bB];constructor
   ·rintro (⟨h1,h2⟩|h1)
    ·exact .inl ⟨.inr h1,h2⟩
    ·exact .inr h1
   ·rintro (⟨h1|h1,h2⟩|h1)
    ·subst h1;omega
    ·exact .inl ⟨h1,h2⟩
    ·exact .inr h1
def Hid (m:Nat) (prev:List Rc) (x:Nat):Prop:=∃p∈prev,jQ m p.i=false/\p.lo=x
def jG {m:Nat}:∀(prev:List Rc) (hp:Hp) (x:Nat),(Hid m prev x->(qB m prev hp).get x=none)/\(¬Hid m prev x->(qB m prev hp).get x=hp.get x)
 | [],hp,x=>⟨λ⟨p,hp,_⟩=>by simp at hp,λ_=>rfl⟩
 |q::ps,hp,x=>by
  unfold qB;rw[bk];cases hb:jQ m q.i with
  |true=>
   rw[ax rfl];obtain ⟨h1,h2⟩:=jG ps hp x;have:Hid m (q::ps) x↔Hid m ps x:=by
    constructor
    ·rintro ⟨p,h,h3,h4⟩;rcases bB.1 h with rfl|h
     ·rw[hb] at h3;simp at h3
     ·exact ⟨p,h,h3,h4⟩
    ·rintro ⟨p,h,h3,h4⟩;exact ⟨p,by simp[h],h3,h4⟩
   exact ⟨λh=>h1 (this.1 h),λh=>h2 (λh'=>h (this.2 h'))⟩
  |false=>
   rw[aA (by simp)]
   obtain ⟨h1,h2⟩:=jG ps (hp.set q.lo none) x;refine ⟨λ⟨p,h,h3,h4⟩=> ?_,λh=> ?_⟩
   ·by_cases hh:Hid m ps x
    ·exact h1 hh
    ·rw[h2 hh,Tr.iU];rcases bB.1 h with rfl|h
     ·rw[ax h4.symm]
     ·exact absurd ⟨p,h,h3,h4⟩ hh
   ·rw[h2 (λ⟨p,h',h3,h4⟩=>h ⟨p,by simp[h'],h3,h4⟩),Tr.iU,aA (λe=>h ⟨q,by simp,hb,e.symm⟩)]
def me {m:Nat} {old:Hp}:∀(prev:List Rc) (hp:Hp) (x:Nat),(Hid m prev x->(jb m old prev hp).get x=old.get x)/\(¬Hid m prev x->(jb m old prev hp).get x=hp.get x)
 | [],hp,x=>⟨λ⟨p,hp,_⟩=>by simp at hp,λ_=>rfl⟩
 |q::ps,hp,x=>by
  unfold jb;rw[bk];cases hb:jQ m q.i with
  |true=>
   rw[ax rfl];obtain ⟨h1,h2⟩:=me (old:=old) ps hp x;have:Hid m (q::ps) x↔Hid m ps x:=by
    constructor
    ·rintro ⟨p,h,h3,h4⟩;rcases bB.1 h with rfl|h
     ·rw[hb] at h3;simp at h3
     ·exact ⟨p,h,h3,h4⟩
    ·rintro ⟨p,h,h3,h4⟩;exact ⟨p,by simp[h],h3,h4⟩
   exact ⟨λh=>h1 (this.1 h),λh=>h2 (λh'=>h (this.2 h'))⟩
  |false=>
   rw[aA (by simp)]
   obtain ⟨h1,h2⟩:=me (old:=old) ps (hp.set q.lo (old.get q.lo)) x;refine ⟨λ⟨p,h,h3,h4⟩=> ?_,λh=> ?_⟩
   ·by_cases hh:Hid m ps x
    ·exact h1 hh
    ·rw[h2 hh,Tr.iU];rcases bB.1 h with rfl|h
     ·rw[ax h4.symm,h4]
     ·exact absurd ⟨p,h,h3,h4⟩ hh
   ·rw[h2 (λ⟨p,h',h3,h4⟩=>h ⟨p,by simp[h'],h3,h4⟩),Tr.iU,aA (λe=>h ⟨q,by simp,hb,e.symm⟩)]
def Km {kR:cq} {h1:Hs} {r:Rc} (m:Nat) (hc:∀(ops:fk),ops.toList=all->W=ops.size->ops[i]? =some o->i<W->base+W<=h.nx->Bd h->(∀x,h.hp.get x≠none->¬(base+i<=x/\x<base+W))->(∀x,jQ m x=true->x∈rC ops (i+1) i)->(∀p∈prev,p.call=false->p.hi=p.lo+1/\p.lo<base+W)->
   ∀ps:List St,ps.map (·.rc)=prev->∃s:St,s.rc=r/\Cnd E nt W ops base i ps o tm.get h.hp.get h.nx s h1.nx/\kR.get=yF tm.get s.u.dst s.u.v/\h1.hp.get=oQ s.u.D s.u.H h.hp.get/\
    (∀x∈h.lg,x∈h1.lg)/\(∀x,x<h.nx->¬(base+i<=x/\x<base+W)->x∉h1.lg->h1.hp.get x=h.hp.get x)/\(∀x,x<h.nx->¬(base+i<=x/\x<base+W)->h.hp.get x=none->h1.hp.get x=none)/\Bd h1/\
    (∀x,h1.hp.get x≠none->¬(base+(i+1)<=x/\x<base+W))/\(r.call=false->r.hi=r.lo+1/\r.lo<base+W)) (hm:m=Nat.mod (mN W M (jv o)) (Nat.pow 2 W)) (ih:Sound E (.draw nt W all base (i+1) (Nat.lor M (Nat.shiftLeft m (Nat.mul i W))) (r::prev) l kR h1) out):Sound E (.draw nt W all base i M prev (o::l) tm h) out:=by
 cases out with
 |st tm' h'=>
  intro ops he hW hd hb hO fh hinv hpr ps pD;let ⟨hi,hd',bD⟩:=drop_cons hd;let ⟨m1,m2⟩:=VY hi hinv;let ⟨s,hr,abT,htm,hh,f1,f2,f3,f4,f5,f6⟩:=hc ops he hW hi (by omega) hb hO fh (λx hx=>(m1 x (by rw[<-hm];exact (acK _ _).1 hx)).2) hpr ps pD
  let ⟨k1,out,k2⟩:=ih ops he hW hd' (iL hb abT.Uz) f4 f5 (by rw[hm];exact m2) (λp hp=>by
   rcases bB.1 hp with rfl|hp
   ·exact f6
   ·exact hpr p hp) (s::ps) (by simp[hr,pD])
  refine ⟨⟨iL abT.Uz k1.nx,k1.bd,λx hx hn hl=> ?_,λx hx=>k1.sub x (f1 x hx),λx hx hn hl=> ?_⟩,out,?_⟩
  ·have AH:x<h1.nx:=mA hx abT.Uz;rw[k1.lg x AH (λhc=>hn ⟨by omega,hc.2⟩) hl]
   exact f2 x hx hn (λhc=>hl (k1.sub x hc))
  ·have AH:x<h1.nx:=mA hx abT.Uz;exact k1.dead x AH (λhc=>hn ⟨by omega,hc.2⟩) (f3 x hx hn hl)
  ·rw[htm,hh] at k2;exact .cons abT k2
 |_=>trivial
def abz {r:Rc} (h:gM m r prev=true) {ps:List St} (pD:ps.map (·.rc)=prev):∀p∈ps,jQ m p.rc.i=true\/QF p.rc r:=by
 intro p hp;have yR:p.rc∈prev:=by rw[<-pD];exact dS.2 ⟨p,hp,rfl⟩
 rcases vO h p.rc yR with h1|h1
 ·exact .inl h1
 ·exact .inr (No h1)
def auV {us:cQ} (m:Nat) (hm:m=Nat.mod (mN W M (jv o)) (Nat.pow 2 W)) (bD:nj i (jv o)=true) (hw:eD all o tm.get=some true) (hd:fS nt o.dst=true) (ho:oO E o.op tm.get h.hp.get (base+i)=some (v,us)) (yc:∀c,o.op≠ .defer c) (UR:gM m ⟨i,false,kL o.op tm.get,og (base+i) us,base+i,base+i+1⟩ prev=true) (ih:Sound E (.draw nt W all base (i+1) (Nat.lor M (Nat.shiftLeft m (Nat.mul i W))) (⟨i,false,kL o.op tm.get,og (base+i) us,base+i,base+i+1⟩::prev) l (cM tm o.dst v) (h.gY us)) out):
  Sound E (.draw nt W all base i M prev (o::l) tm h) out:=by
 refine Km m (λops he hW hi hiW hb hO fh abW hpr ps pD=> ?_) hm ih
 have iq:(h.gY us).nx=h.nx:=zq _ _;have hg:(h.gY us).hp.get=nQ h.hp.get us:=LF _ _;let ⟨l1,l2⟩:=YJ us h;have hk:=aaM ho;have tj:h.hp.get (base+i)=none:=by
  cases hx:h.hp.get (base+i) with
  |none=>rfl
  |some o'=>exact absurd ⟨cF _,by omega⟩ (fh (base+i) (by rw[hx];simp))
 have JG:∀x,x∈us.map (·.1)->x=base+i\/(h.hp.get x≠none/\x<h.nx):=by
  intro x hx;obtain ⟨u,hu,rfl⟩:=dS.1 hx;rcases hk u hu with h1|h1
  ·exact .inl h1
  ·refine .inr ⟨h1,?_⟩;by_cases hl:h.nx<=u.1
   ·exact absurd (hO _ hl) h1
   ·omega
 have UP:base+i<h.nx:=by omega
 refine ⟨⟨⟨o.dst,v,A9 us (base+i),nQ h.hp.get us⟩,⟨i,false,kL o.op tm.get,og (base+i) us,base+i,base+i+1⟩,m,λx=>x∈kL o.op tm.get,λx=>x=base+i,λx=>x=base+i/\us≠ []⟩,rfl,?_,tP _ _ _,?_,l1,λx hx hn hl=> ?_,λx hx hn hl=> ?_,λx hx=> ?_,λx hx=> ?_,λ_=>⟨rfl,by show base+i<base+W;omega⟩⟩
 ·refine ⟨rfl,λro=> ?_,D3 bD,abW,rfl,abz UR pD,λx=> ?_,λ_=>⟨rfl,rfl,by rw[iq],λx hx=>hx,λx hx=>hx,λx hx=>hx.1⟩,(λhc=>by cases hc),by rw[iq];exact cF _,fh,hb⟩
  ·subst he;exact Na hi hw hd ho tj (λx=>by simp[A9]) yc
  ·show A9 us (base+i) x=true↔(x∈og (base+i) us\/(base+i<=x/\x<base+i+1));rw[NV];simp only[A9,lI];constructor
   ·rintro (h1|h1)
    ·by_cases e:x=base+i
     ·exact .inr ⟨by omega,by omega⟩
     ·exact .inl ⟨h1,e⟩
    ·exact .inr ⟨by omega,by omega⟩
   ·rintro (⟨h1,_⟩|⟨h1,h2⟩)
    ·exact .inl h1
    ·exact .inr (by omega)
 ·rw[hg];funext x;show nQ h.hp.get us x=oQ (A9 us (base+i)) (nQ h.hp.get us) h.hp.get x;unfold oQ A9;by_cases h1:x∈us.map (·.1)
  ·rw[ax (by simp only[lI];exact .inl h1)]
  ·rw[pZ h1];split<;>rfl
 ·rw[hg,pZ (λhc=>by obtain ⟨u,hu,rfl⟩:=dS.1 hc;exact hl (l2 u hu))]
 ·rw[hg,pZ (λhc=>by
   rcases JG x hc with h1|h1
   ·exact hn ⟨by omega,by omega⟩
   ·exact h1.1 hl)]
  exact hl
 ·rw[iq] at hx;rw[hg,pZ (λhc=>by rcases JG x hc with h1|h1<;>omega)]
  exact hO x hx
 ·intro Aa;by_cases hc:x∈us.map (·.1)
  ·rcases JG x hc with h1|h1
   ·omega
   ·exact fh x h1.1 ⟨by omega,Aa.2⟩
  ·rw[hg,pZ hc] at hx;exact fh x hx ⟨by omega,Aa.2⟩
def arc (m:Nat) (hm:m=Nat.mod (mN W M (jv o)) (Nat.pow 2 W)) (bD:nj i (jv o)=true) (hw:eD all o tm.get=some false) (hd:fS nt o.dst=true) (UR:gM m ⟨i,false,[],[],base+i,base+i+1⟩ prev=true) (ih:Sound E (.draw nt W all base (i+1) (Nat.lor M (Nat.shiftLeft m (Nat.mul i W))) (⟨i,false,[],[],base+i,base+i+1⟩::prev) l (cM tm o.dst (.cm [])) h) out):
  Sound E (.draw nt W all base i M prev (o::l) tm h) out:=by
 refine Km m (λops he hW hi hiW hb hO fh abW hpr ps pD=> ?_) hm ih
 have tj:h.hp.get (base+i)=none:=by
  cases hx:h.hp.get (base+i) with
  |none=>rfl
  |some o'=>exact absurd ⟨cF _,by omega⟩ (fh (base+i) (by rw[hx];simp))
 refine ⟨⟨⟨o.dst,.cm [],λx=>decide (x=base+i),h.hp.get⟩,⟨i,false,[],[],base+i,base+i+1⟩,m,λ_=>False,λx=>x=base+i,λ_=>False⟩,rfl,?_,tP _ _ _,?_,λx hx=>hx,λx _ _ _=>rfl,λx _ _ hl=>hl,hO,λx hx Aa=>fh x hx ⟨by omega,Aa.2⟩,λ_=>⟨rfl,by show base+i<base+W;omega⟩⟩
 ·refine ⟨rfl,λro=> ?_,D3 bD,abW,rfl,abz UR pD,λx=> ?_,λ_=>⟨rfl,rfl,rfl,λx hx=>hx.elim,λx hx=>hx,λx hx=>hx.elim⟩,(λhc=>by cases hc),cF _,fh,hb⟩
  ·subst he;exact step_skip hi hw hd tj (λx=>by simp)
  ·show decide (x=base+i)=true↔(x∈([]:aI)\/(base+i<=x/\x<base+i+1));simp;omega
 ·funext x;unfold oQ;split<;>rfl
def ard {c:Call} {h2:Hs} (m:Nat) (hm:m=Nat.mod (mN W M (jv o)) (Nat.pow 2 W)) (bD:nj i (jv o)=true) (hw:eD all o tm.get=some true) (hd:fS nt o.dst=true) (dN:o.op= .call c) (hc:pR tm.get c.callee=some fv) (has:eI tm.get c.args.toList=some aa) (hs:Sound E (.call fv aa ⟨qB m prev h.hp,h.nx,[]⟩) (.res v h2)) (UR:gM m ⟨i,true,[],below h.nx h2.lg [],h.nx,h2.nx⟩ prev=true) (ih:Sound E (.draw nt W all base (i+1) (Nat.lor M (Nat.shiftLeft m (Nat.mul i W))) (⟨i,true,[],below h.nx h2.lg [],h.nx,h2.nx⟩::prev) l (cM tm o.dst v) ⟨jb m h.hp prev h2.hp,h2.nx,below h.nx h2.lg h.lg⟩) out):
  Sound E (.draw nt W all base i M prev (o::l) tm h) out:=by
 refine Km m (λops he hW hi hiW hb hO fh abW hpr ps pD=> ?_) hm ih
 have hbm:Bd ⟨qB m prev h.hp,h.nx,[]⟩:=by
  intro x hx;show (qB m prev h.hp).get x=none;by_cases hh:Hid m prev x
  ·exact (jG prev h.hp x).1 hh
  ·rw[(jG prev h.hp x).2 hh];exact hO x hx
 let ⟨_,fac,sem⟩:=(show Bd ⟨qB m prev h.hp,h.nx,[]⟩->_ from hs) hbm;have fac:qv ⟨qB m prev h.hp,h.nx,[]⟩ h2:=fac ⟨false,v,h2⟩ (by simp)
 have sem:=yY.one sem;have fnx:h.nx<=h2.nx:=fac.nx;have J1:∀x,Hid m prev x->x<base+W/\x∉h2.lg:=by
  rintro x ⟨p,hp,iY,rfl⟩;rcases vO UR p hp with h1|h1
  ·rw[iY] at h1;simp at h1
  ·have hI:=No h1;let ⟨c1,c2⟩:=hI.c2 rfl;let ⟨e1,e2⟩:=hpr p hp c1;refine ⟨e2,λhl=> ?_⟩
   have:=hI.a2 p.lo (oB.2 (.inl ⟨hl,by omega⟩))
   omega
 have P2:∀x,(jb m h.hp prev h2.hp).get x=if x∈h2.lg/\x<h.nx\/h.nx<=x/\x<h2.nx then h2.hp.get x else h.hp.get x:=by
  intro x;by_cases hh:Hid m prev x
  ·let ⟨q1,q2⟩:=J1 x hh;rw[(me prev h2.hp x).1 hh,aA (by rintro (⟨h1,_⟩|⟨h1,_⟩);exact q2 h1;omega)]
  ·rw[(me prev h2.hp x).2 hh];split
   ·rfl
   ·rename_i hn;by_cases hx:x<h.nx
    ·have:=fac.lg x hx (λhl=>hn (.inl ⟨hl,hx⟩))
     rw[this];exact (jG prev h.hp x).2 hh
    ·rw[fac.bd x (by
      by_cases cW:x<h2.nx
      ·exact absurd (.inr ⟨by omega,cW⟩) hn
      ·show h2.nx<=x;omega),hO x (by omega)]
 have axh:∀x,x<h.nx->h.hp.get x=none->h2.hp.get x=none:=by
  intro x hx hn;refine fac.dead x hx ?_;show (qB m prev h.hp).get x=none;by_cases hh:Hid m prev x
  ·exact (jG prev h.hp x).1 hh
  ·rw[(jG prev h.hp x).2 hh];exact hn
 refine ⟨⟨⟨o.dst,v,λx=>decide (x∈h2.lg/\x<h.nx\/h.nx<=x/\x<h2.nx),h2.hp.get⟩,⟨i,true,[],below h.nx h2.lg [],h.nx,h2.nx⟩,m,λx=>(qB m prev h.hp).get x≠none,λx=>h.nx<=x,λx=>h.nx<=x/\x<h2.nx⟩,rfl,?_,tP _ _ _,?_,λx hx=>oB.2 (.inr hx),λx hx hn hl=> ?_,λx hx hn hl=> ?_,λx hx=> ?_,λx hx=> ?_,λhc=>by cases hc⟩
 ·refine ⟨rfl,λro=> ?_,D3 bD,abW,rfl,abz UR pD,λx=> ?_,(λhc=>by cases hc),λ_=>⟨rfl,rfl,λx hx=>⟨?_,λp hp hbp hxe=> ?_⟩,λx hx=>hx,λx hx=>hx⟩,fnx,fh,hb⟩
  ·subst he;refine zh.aEa (aoc (D:=λx=>decide (x∈h2.lg/\x<h.nx\/h.nx<=x/\x<h2.nx)) hi hw hd dN hc has sem (λx hx hl=> ?_) (λx hx hl=> ?_)) (λx hx=> ?_)
   ·have hn:¬(x∈h2.lg/\x<h.nx\/h.nx<=x/\x<h2.nx):=by simpa using hx
    exact fac.lg x hl (λhc=>hn (.inl ⟨hc,hl⟩))
   ·have hn:¬(x∈h2.lg/\x<h.nx\/h.nx<=x/\x<h2.nx):=by simpa using hx
    refine fac.bd x ?_;by_cases cW:x<h2.nx
    ·exact absurd (.inr ⟨hl,cW⟩) hn
    ·omega
   ·by_cases hh:Hid m prev x
    ·exact absurd ((jG prev h.hp x).1 hh) hx
    ·exact (jG prev h.hp x).2 hh
  ·show decide (x∈h2.lg/\x<h.nx\/h.nx<=x/\x<h2.nx)=true↔(x∈below h.nx h2.lg []\/(h.nx<=x/\x<h2.nx));rw[oB];simp
  ·by_cases hh:Hid m prev x
   ·exact absurd ((jG prev h.hp x).1 hh) hx
   ·rw[<-(jG prev h.hp x).2 hh];exact hx
  ·have hh:Hid m prev x:=⟨p.rc,by rw[<-pD];exact dS.2 ⟨p,hp,rfl⟩,hbp,hxe.symm⟩
   exact hx ((jG prev h.hp x).1 hh)
 ·funext x;show (jb m h.hp prev h2.hp).get x=oQ _ h2.hp.get h.hp.get x;rw[P2];unfold oQ;simp only[lI]
 ·show (jb m h.hp prev h2.hp).get x=_;rw[P2,aA (by
   rintro (⟨h1,h3⟩|⟨h1,_⟩)
   ·exact hl (oB.2 (.inl ⟨h1,h3⟩))
   ·omega)]
 ·show (jb m h.hp prev h2.hp).get x=_;rw[P2];split
  ·exact axh x hx hl
  ·exact hl
 ·have hx:h2.nx<=x:=hx;show (jb m h.hp prev h2.hp).get x=_;rw[P2,aA (by omega)]
  exact hO x (by omega)
 ·intro Aa;have hx:(jb m h.hp prev h2.hp).get x≠none:=hx;rw[P2] at hx;have aup:x<h.nx:=by omega
  have Fy:h.hp.get x=none:=by
   cases hq:h.hp.get x with
   |none=>rfl
   |some o'=>exact absurd ⟨by omega,Aa.2⟩ (fh x (by rw[hq];simp))
  split at hx
  ·exact hx (axh x aup Fy)
  ·exact hx Fy
def auC {k kp:SV->Hs->Out} {Q:Out->Prop} (hf:∀s,Q (.fail s)) (ht:∀a b c,Q (.SD a b c)) (hr:∀fv aa v h2,fo=some fv->ao=some aa->rec (.call fv aa h)= .res v h2->Q (k v h2)) (hp:∀fv aa v h2,fo=some fv->ao=some aa->rec (.call fv aa h)= .fQ v h2->Q (kp v h2)):Q (alQ rec h fo ao k kp):=by
 unfold alQ;cases fo with
 |none=>exact hf _
 |some fv=>
  cases ao with
  |none=>exact hf _
  |some aa=>
   show Q (ata (rec (.call fv aa h)) k kp);cases hrc:rec (.call fv aa h) with
   |gg l=>
    cases l with
    |nil=>exact hf _
    |cons r l=>
     cases l with
     |nil=>
      let ⟨fQ,v,h2⟩:=r;cases fQ with
      |false=>exact hr fv aa v h2 rfl rfl hrc
      |true=>exact hp fv aa v h2 rfl rfl hrc
     |cons _ _=>exact hf _
   |fail s=>exact hf _
   |SD a b c=>exact ht _ _ _
   |_=>exact hf _
def OL (jF:∀j,Sound E j (rec j)) (nt W:Nat) (all:bS) (base i M:Nat) (prev:List Rc) (l:bS) (tm:cq) (h:Hs):
  Sound E (.draw nt W all base i M prev l tm h) (YQ E rec nt W all base i M prev l tm h):=by
 cases l with
 |nil=>
  intro ops he hW hd hb hO fh hinv hpr ps pD;exact ⟨⟨cF _,hO,λ_ _ _ _=>rfl,λ_ h=>h,λ_ _ _ h=>h⟩,ps,.nil⟩
 |cons o l=>
  show Sound E _ (ay (fS nt o.dst && nj i (jv o)) (force (Nat.mod (mN W M (jv o)) (Nat.pow 2 W)) λm=>Xf E rec nt W all base i M m prev l tm h o (eD all o tm.get)) (.fail ""))
  rw[bk];split;rotate_left
  ·trivial
  rename_i hd;rw[aY] at hd;let ⟨hd,bD⟩:=hd;rw[force_eq];generalize hm:Nat.mod (mN W M (jv o)) (Nat.pow 2 W)=m;unfold Xf;have next:∀(r:Rc) (v:SV) (h1:Hs) (out:Out),rO rec nt W all base i M m prev l tm o.dst r v h1=out->(∃s,out= .fail s)\/(gM m r prev=true/\out=rec (.draw nt W all base (i+1) (Nat.lor M (Nat.shiftLeft m (Nat.mul i W))) (r::prev) l (cM tm o.dst v) h1)):=by
   intro r v h1 out ho;unfold rO at ho;rw[bk,force_eq] at ho;split at ho
   ·rename_i hi;exact .inr ⟨hi,ho.symm⟩
   ·exact .inl ⟨_,ho.symm⟩
  cases hw:eD all o tm.get with
  |none=>trivial
  |some wb=>
   show Sound E _ (ay wb (doD E rec nt W all base i M m prev l tm h o (ir o.op)) (rO rec nt W all base i M m prev l tm o.dst ⟨i,false,[],[],Nat.add base i,Nat.add (Nat.add base i) 1⟩ (.cm []) h));cases wb with
   |false=>
    show Sound E _ (rO rec nt W all base i M m prev l tm o.dst ⟨i,false,[],[],Nat.add base i,Nat.add (Nat.add base i) 1⟩ (.cm []) h);rcases next ⟨i,false,[],[],Nat.add base i,Nat.add (Nat.add base i) 1⟩ (.cm []) h _ rfl with ⟨s,hs⟩|⟨hi,hs⟩
    ·rw[hs];trivial
    ·rw[hs];exact arc m hm.symm bD hw hd hi (jF _)
   |true=>
    show Sound E _ (doD E rec nt W all base i M m prev l tm h o (ir o.op));unfold doD;cases hc:ir o.op with
    |none=>
     show Sound E _ (ajs rec nt W all base i M m prev l tm h o (oO E o.op tm.get h.hp.get (Nat.add base i)));unfold ajs;cases ho:oO E o.op tm.get h.hp.get (Nat.add base i) with
     |none=>trivial
     |some r=>
      show Sound E _ (rO rec nt W all base i M m prev l tm o.dst ⟨i,false,kL o.op tm.get,og (Nat.add base i) r.2,Nat.add base i,Nat.add (Nat.add base i) 1⟩ r.1 (h.gY r.2));rcases next ⟨i,false,kL o.op tm.get,og (Nat.add base i) r.2,Nat.add base i,Nat.add (Nat.add base i) 1⟩ r.1 (h.gY r.2) _ rfl with ⟨s,hs⟩|⟨hi,hs⟩
      ·rw[hs];trivial
      ·rw[hs];exact auV m hm.symm bD hw hd ho (Qf ho) hi (jF _)
    |some c=>
     let ⟨dN,_⟩:=Ny hc;refine auC (Q:=Sound E _) (λ_=>trivial) (λ_ _ _=>trivial) (λfv aa v h2 h1 h3 h4=> ?_) (λfv aa v h2 h1 h3 h4=> ?_)
     ·have hs:=jF (.call fv aa ⟨qB m prev h.hp,h.nx,[]⟩);rw[h4] at hs;rcases next ⟨i,true,[],below h.nx h2.lg [],h.nx,h2.nx⟩ v ⟨jb m h.hp prev h2.hp,h2.nx,below h.nx h2.lg h.lg⟩ _ rfl with ⟨s,he⟩|⟨hi,he⟩
      ·rw[he];trivial
      ·rw[he];exact ard m hm.symm bD hw hd dN h1 h3 hs hi (jF _)
     ·trivial
end
section
section
variable {F:Fence} {n:Nat} {P:Program} {Q:Exit->Act->World->Prop} {a:Act} {w:World} {c:Code}
def W9 (h:c.wpIn F n P (Exit.then (Pz F n P c Q) Q) a w):Pz F n P c Q a w:=by
 intro b k cs iH hb hr;let ⟨e,a₁,w₁,hq,wm⟩:=h b (.inLoop c::k) cs iH hb hr;cases e with
 |normal=>
  let ⟨e₂,a₂,w₂,aIh,aBj⟩:=hq b k cs iH hb hr;exact ⟨e₂,a₂,w₂,aIh,.of_steps (StepsIn.trans wm (.one (fenced_calm hb hr rfl) stepR_inLoop)) aBj⟩
 |exit id=>exact ⟨_,a₁,w₁,hq,.pass (x:=.inLoop c) rfl (λ_ _=>.inl (by simp)) wm⟩
 |goto l=>exact ⟨_,a₁,w₁,hq,.pass (x:=.inLoop c) rfl (λ_ _=>.inl (by simp)) wm⟩
 |ret=>exact ⟨_,a₁,w₁,hq,.pass (x:=.inLoop c) rfl (λ_ _=>.inl (by simp)) wm⟩
 |panic ch=>exact ⟨_,a₁,w₁,hq,.pass (x:=.inLoop c) rfl (λ_ _=>.inl (by simp)) wm⟩
 |outgrown=>exact ⟨_,a₁,w₁,hq,.pass (x:=.inLoop c) rfl (λ_ _=>.inl (by simp)) wm⟩
def Sx (h:Pz F n P c Q a w):(Code.loop c).wpIn F n P Q a w:=λb k cs iH hb hr=>
 let ⟨e,a',w',hq,wm⟩:=h b k cs iH hb hr
 ⟨e,a',w',hq,.of_steps (.one (fenced_calm hb hr rfl) stepR_loop) wm⟩
def BM (h:wpX F n P c Q a w):c.wpIn F n P Q a w:=by
 cases c<;>first|exact h|exact Sx h
end
variable {E:Env} {g:Gh} {f:Hf} {w:World}
def okL {a b:Code} (h:codeOk (.seq a b)=true):codeOk a=true:=by
 have h:(codeOk a&&codeOk b)=true:=h;rw[aY] at h;exact h.1
def okR {a b:Code} (h:codeOk (.seq a b)=true):codeOk b=true:=by
 have h:(codeOk a&&codeOk b)=true:=h;rw[aY] at h;exact h.2
def kj.seq {nt:Nat} {a b:Code} {tm:cq} {mk:List Dm} {h:Hs} {l1 r:List Oc} (k1:kj E nt a tm mk h l1)
  (kin:∀o∈l1,(o.e= .normal/\∃r',kj E nt b o.tm o.dm o.h r'/\∀x∈r',x∈r)\/(o.e≠ .normal/\o∈r)) (atn:∀x∈r,∃o∈l1,(∃r',kj E nt b o.tm o.dm o.h r'/\x∈r')\/x=o):kj E nt (.seq a b) tm mk h r:=by
 let ⟨n1,f1,s1⟩:=k1;have bY:r≠ []:=by
  let ⟨o,ho⟩:=mQ _ n1;rcases kin o ho with ⟨_,r',⟨n2,_⟩,h2⟩|⟨_,h2⟩
  ·let ⟨x,hx⟩:=mQ _ n2;exact Bp (h2 x hx)
  ·exact Bp h2
 refine ⟨bY,λx hx=> ?_,λro m g ac w Q gN iH hE dQ hr hm iq hk=>wpIn_seq (BM ?_)⟩
 ·obtain ⟨o,ho,⟨r',⟨_,f2,_⟩,hx⟩|rfl⟩:=atn x hx
  ·exact ⟨(f1 o ho).1.trans (f2 x hx).1,pc.trans (f1 o ho).1.nx (f1 o ho).2 (f2 x hx).2⟩
  ·exact f1 x ho
 have hlen:∀o∈l1,ro=none\/o.dm.length=mk.length:=by
  intro o ho;rcases iH with iH|iH
  ·exact .inl iH
  ·refine .inr ?_;have h1:=(f1 o ho).2.1;rcases kin o ho with ⟨_,r',⟨n2,f2,_⟩,h2⟩|⟨_,h2⟩
   ·let ⟨x,hx⟩:=mQ _ n2;have h3:=(f2 x hx).2.1;have h4:=iH x (h2 x hx);omega
   ·exact iH o h2
 refine s1 ro m g ac w _ (okL gN) (by
  by_cases h:ro=none
  ·exact .inl h
  ·exact .inr λo ho=>(hlen o ho).resolve_left h) hE dQ hr hm iq (λo ho g1 a1 w1 x q0 q1 q2 q3 q4 q5 q6=> ?_)
 rcases kin o ho with ⟨he,r',⟨n2,f2,s2⟩,h2⟩|⟨he,h2⟩
 ·rw[he] at q0;cases q0;refine BM (s2 ro m g1 a1 w1 Q (okR gN) (iH.imp_right λiH z hz=> ?_) (hE.mono q3.le) q1 q2 q4 q5 (λz hz g2 a2 w2 x r0 r1 r2 r3 r4 r5 r6=>hk z (h2 z hz) g2 a2 w2 x r0 r1 r2 (q3.trans r3) r4 r5 (λy hy=>by rw[r6 y (mA hy (f1 o ho).1.nx),q6 y hy])))
  have h1:=(f1 o ho).2.1;have h3:=(f2 z hz).2.1;have h4:=iH z (h2 z hz);omega
 ·have:=hk o h2 g1 a1 w1 x q0 q1 q2 q3 q4 q5 q6;generalize o.e=e at q0 he;cases q0 with
  |normal=>exact absurd rfl he
  |exit id=>exact this
  |ret=>exact this
  |fQ hv=>exact this
def kj.loop {c:Code} {mk:List Dm} (k1:kj E nt c tm mk h l1) (kin:∀o∈l1,(o.e= .normal/\∃r',kj E nt (.loop c) o.tm o.dm o.h r'/\∀x∈r',x∈r)\/(o.e≠ .normal/\o∈r)) (atn:∀x∈r,∃o∈l1,(∃r',kj E nt (.loop c) o.tm o.dm o.h r'/\x∈r')\/x=o):kj E nt (.loop c) tm mk h r:=by
 let ⟨n1,f1,s1⟩:=k1;have bY:r≠ []:=by
  let ⟨o,ho⟩:=mQ _ n1;rcases kin o ho with ⟨_,r',⟨n2,_⟩,h2⟩|⟨_,h2⟩
  ·let ⟨x,hx⟩:=mQ _ n2;exact Bp (h2 x hx)
  ·exact Bp h2
 refine ⟨bY,λx hx=> ?_,λro m g ac w Q gN iH hE dQ hr hm iq hk=>W9 (BM ?_)⟩
 ·obtain ⟨o,ho,⟨r',⟨_,f2,_⟩,hx⟩|rfl⟩:=atn x hx
  ·exact ⟨(f1 o ho).1.trans (f2 x hx).1,pc.trans (f1 o ho).1.nx (f1 o ho).2 (f2 x hx).2⟩
  ·exact f1 x ho
 have hlen:∀o∈l1,ro=none\/o.dm.length=mk.length:=by
  intro o ho;rcases iH with iH|iH
  ·exact .inl iH
  ·refine .inr ?_;have h1:=(f1 o ho).2.1;rcases kin o ho with ⟨_,r',⟨n2,f2,_⟩,h2⟩|⟨_,h2⟩
   ·let ⟨x,hx⟩:=mQ _ n2;have h3:=(f2 x hx).2.1;have h4:=iH x (h2 x hx);omega
   ·exact iH o h2
 refine s1 ro m g ac w _ gN (by
  by_cases h:ro=none
  ·exact .inl h
  ·exact .inr λo ho=>(hlen o ho).resolve_left h) hE dQ hr hm iq (λo ho g1 a1 w1 x q0 q1 q2 q3 q4 q5 q6=> ?_)
 rcases kin o ho with ⟨he,r',⟨n2,f2,s2⟩,h2⟩|⟨he,h2⟩
 ·rw[he] at q0;cases q0;refine s2 ro m g1 a1 w1 Q gN (iH.imp_right λiH z hz=> ?_) (hE.mono q3.le) q1 q2 q4 q5 (λz hz g2 a2 w2 x r0 r1 r2 r3 r4 r5 r6=>hk z (h2 z hz) g2 a2 w2 x r0 r1 r2 (q3.trans r3) r4 r5 (λy hy=>by rw[r6 y (mA hy (f1 o ho).1.nx),q6 y hy]))
  have h1:=(f1 o ho).2.1;have h3:=(f2 z hz).2.1;have h4:=iH z (h2 z hz);omega
 ·have:=hk o h2 g1 a1 w1 x q0 q1 q2 q3 q4 q5 q6;generalize o.e=e at q0 he;cases q0 with
  |normal=>exact absurd rfl he
  |exit id=>exact this
  |ret=>exact this
  |fQ hv=>exact this
def akU (id i:Nat):leave id (.exit i)=if i=id then .normal else .exit i:=by
 show ay (Nat.beq i id) Ex.normal (.exit i)=_;rw[bk,beq_eq];by_cases h:i=id<;>simp[h]
def kj.block {id:Nat} {c:Code} {mk:List Dm} {l:List Oc} (k1:kj E nt c tm mk h l) (hr:∀x,x∈r↔∃o∈l,x=⟨leave id o.e,o.tm,o.dm,o.h⟩):kj E nt (.block id c) tm mk h r:=by
 let ⟨n1,f1,s1⟩:=k1;refine ⟨?_,λx hx=> ?_,λro m g a w Q gN iH hE dQ hrr hm iq hk=>wpIn_block (BM ?_)⟩
 ·let ⟨o,ho⟩:=mQ _ n1;exact Bp ((hr ⟨leave id o.e,o.tm,o.dm,o.h⟩).2 ⟨o,ho,rfl⟩)
 ·obtain ⟨o,ho,rfl⟩:=(hr x).1 hx;exact f1 o ho
 refine s1 ro m g a w _ gN (iH.imp_right λiH o ho=>iH ⟨leave id o.e,o.tm,o.dm,o.h⟩ ((hr _).2 ⟨o,ho,rfl⟩)) hE dQ hrr hm iq (λo ho g1 a1 w1 x q0 q1 q2 q3 q4 q5 q6=> ?_)
 have key:∀y,ExR g1 (leave id o.e) y->Q y a1 w1:=λy hy=>hk ⟨leave id o.e,o.tm,o.dm,o.h⟩ ((hr _).2 ⟨o,ho,rfl⟩) g1 a1 w1 y hy q1 q2 q3 q4 q5 q6
 generalize he:o.e=e at q0 key;cases q0 with
 |normal=>exact key _ .normal
 |ret=>exact key _ .ret
 |fQ hv=>exact key _ (.fQ hv)
 |exit i=>
  rw[akU] at key;show (if i=id then Q .normal a1 w1 else Q (.exit i) a1 w1)
  split
  ·rename_i hi;rw[ax hi] at key;exact key _ .normal
  ·rename_i hi;rw[aA hi] at key;exact key _ (.exit i)
def kj.calm {c:Code} {mk:List Dm} (x:Exit) (hx:∀g,ExR g e x) (hb:Bd h) (hw:∀(ro:da) (m:Nat) (Q:Exit->Act->World->Prop) (a:Act) (w:World),Q x a w->wpX (sw ro) m E.P c Q a w):kj E nt c tm mk h [⟨e,tm,mk,h⟩]:=
 ⟨by simp,λo ho=>by
  obtain rfl:=cB.1 ho;exact ⟨qv.refl hb,pc.refl _ _⟩,λro m g a w Q _ _ hE dQ hr hm iq hk=>hw ro m Q a w (hk ⟨e,tm,mk,h⟩ (by simp) g a w x (hx g) dQ hr (Fr.refl _ _ _) hm iq λ_ _=>rfl)⟩
def kj.ops {id:Nat} {ops:fk} {mk:List Dm} (k:OpsS E nt ops ops.toList tm mk h r):kj E nt (.region id ops false) tm mk h r:=by
 let ⟨n1,f1,s1⟩:=k;refine ⟨n1,f1,λro m g a w Q gN iH hE dQ hr hm iq hk=>wpIn_region ?_⟩
 have:=s1 ro m g a w Q iH hE dQ hr hm iq hk;simpa[Su] using this
def kj.draw {id:Nat} {ops:fk} {kR:cq} {mk:List Dm} {h1:Hs} {out:List St} (hf:FacD h.nx 0 ops.size ⟨h.hp,Nat.add h.nx ops.size,h.lg⟩ h1) (hd:DT E nt ops.size ops h.nx 0 [] ops.toList tm.get h.hp.get (Nat.add h.nx ops.size) kR.get h1.hp.get h1.nx out):kj E nt (.region id ops true) tm mk h [⟨.normal,kR,mk,h1⟩]:=by
 have hnx0:h.nx<=h1.nx:=iL (xa _ _) hf.nx;refine ⟨by simp,λo ho=> ?_,λro m g a w Q gN iH hE dQ hr hm iq hk=> ?_⟩
 ·obtain rfl:=cB.1 ho;exact ⟨⟨hnx0,hf.bd,λx hx hn=>hf.lg x (mA hx (xa _ _)) (by omega) hn,hf.sub,λx hx hn=>hf.dead x (mA hx (xa _ _)) (by omega) hn⟩,pc.refl _ _⟩
 exact afZ (show BA ops.size ops.toList ops.toList 0 0 []=true from gN) hE.mix (lF (cF _)) hd (xa _ _) hE dQ hr iq (.inl (by simp)) (λ_ g1 a1 w1 q1 q2 q3 q4 q5 q6=>hk ⟨.normal,kR,mk,h1⟩ (by simp) g1 a1 w1 _ .normal q1 q2 q3 (by rw[q4];exact hm.mono q3.le) q6 q5)
def KJ.zero (ops:fk) (W:Nat):KJ ops W 0 0:=λp hp=>by simp at hp
def Ul (h:Hs) (l:Nat) (o:SO):(h.put l o).hp.get=lJ h.hp.get (l,some o):=funext λx=>Tr.iU _ _ _ _
end
section
variable {E:Env} {g:Gh} {f:Hf} {w:World}
def J5 (h:UX E x=true):∃k fi ca fn,x= .fn (.func k) fi ca/\E.fn.get k=some fn/\fn.body.isSome=true:=by
 cases x with
 |fn f fi ca=>
  cases f with
  |func k=>
   have h: @Option.rec Func (λ_=>Bool) false (λfn=>fn.body.isSome) (E.fn.get k)=true:=h
   cases hf:E.fn.get k with
   |none=>rw[hf] at h;cases h
   |some fn=>rw[hf] at h;exact ⟨k,fi,ca,fn,rfl,hf,h⟩
  |_=>cases h
 |_=>cases h
def ta {P:Program} (hf:P.funcs[k]? =some fn) (hb:fn.body.isSome=true) (args:hY) (w:World):
  ((callFunc k args).run P w= .ok .numGoroutine w/\fn.name= "runtime.NumGoroutine")\/(callFunc k args).run P w= .ok (.enter k args) w:=by
 have h2:fn.body≠none:=by cases hfb:fn.body<;>simp_all
 by_cases h:fn.name= "runtime.NumGoroutine"
 ·left;exact ⟨by simp[callFunc,hf,h,Sem.run],h⟩
 ·right;simp[callFunc,hf,h,h2,Sem.run]
def Jq {P:Program} (k:FuncId) (fi ca us:hY) (w:World):(Deferred.ofValue (.func (.func k) fi ca) us).run P w= .ok {target:=.fn (.func k) ca,args:=fi++us} w:=rfl
def A0 {mk:List Dm} {k:cq->List Dm->Hs->Out} (hs:seqE e tm mk h k= .cU r):(e= .normal/\k tm mk h= .cU r)\/(e≠ .normal/\r= [⟨e,tm,mk,h⟩]):=by
 cases e with
 |normal=>exact .inl ⟨rfl,hs⟩
 |exit id=>cases hs;exact .inr ⟨λe=>(by cases e),rfl⟩
 |ret=>cases hs;exact .inr ⟨λe=>(by cases e),rfl⟩
 |fQ v=>cases hs;exact .inr ⟨λe=>(by cases e),rfl⟩
def OM (hS:wy E) (jF:∀j,Sound E j (rec j)) (nt:Nat) (c:Code) (tm:cq) (mk:List Dm) (h:Hs):Sound E (.code nt c tm mk h) (axX c E rec nt tm mk h):=by
 cases c with
 |skip=>exact λhb=>kj.calm .normal (λ_=>.normal) hb λro m Q a w hq=>wpIn_skip hq
 |ret=>exact λhb=>kj.calm .ret (λ_=>.ret) hb λro m Q a w hq=>wpIn_ret hq
 |exit id=>exact λhb=>kj.calm (.exit id) (λ_=>.exit id) hb λro m Q a w hq=>wpIn_exit hq
 |region id ops draw=>
  cases draw with
  |false=>
   show Sound E _ (rec (.ops nt ops.toList ops.toList tm mk h));have hs:=jF (.ops nt ops.toList ops.toList tm mk h);cases hr:rec (.ops nt ops.toList ops.toList tm mk h) with
   |cU r=>
    rw[hr] at hs;intro hb;exact kj.ops (hs ops rfl (by simp) hb)
   |_=>trivial
  |true=>
   show Sound E _ (stK (rec (.draw nt ops.size ops.toList h.nx 0 0 [] ops.toList tm ⟨h.hp,Nat.add h.nx ops.size,h.lg⟩)) λtm' h'=>.code .normal tm' mk h')
   have hs:=jF (.draw nt ops.size ops.toList h.nx 0 0 [] ops.toList tm ⟨h.hp,Nat.add h.nx ops.size,h.lg⟩);cases hr:rec (.draw nt ops.size ops.toList h.nx 0 0 [] ops.toList tm ⟨h.hp,Nat.add h.nx ops.size,h.lg⟩) with
   |st kR h1=>
    rw[hr] at hs;intro hb;let ⟨f1,out,hd⟩:=hs ops rfl rfl (by simp) (cF _) (λx hx=>hb x (iL (xa _ _) hx)) (λx hx hc=>hx (hb x (by omega))) (KJ.zero _ _) (λp hp=>by simp at hp) [] rfl
    exact kj.draw f1 hd
   |_=>trivial
 |seq a b=>
  show Sound E _ (Ei (rec (.code nt a tm mk h)) λtm' mk' h'=>rec (.code nt b tm' mk' h'))
  cases fh:Ei (rec (.code nt a tm mk h)) λtm' mk' h'=>rec (.code nt b tm' mk' h') with
  |cU r=>
   let ⟨l1,h1,h2⟩:=Ca fh;let ⟨_,q1,q2⟩:=uG h2;have hs:=jF (.code nt a tm mk h);rw[h1] at hs;intro hb;have k1:=hs hb;have sub:∀(o:Oc) r',o∈l1->rec (.code nt b o.tm o.dm o.h)= .cU r'->kj E nt b o.tm o.dm o.h r':=λo r' ho fY=>by
    have:=jF (.code nt b o.tm o.dm o.h);rw[fY] at this;exact this (k1.2.1 o ho).1.bd
   refine k1.seq (λo ho=> ?_) (λx hx=> ?_)
   ·let ⟨r',e1,e2⟩:=q1 o ho;rcases A0 e1 with ⟨he,fY⟩|⟨he,rfl⟩
    ·exact .inl ⟨he,r',sub o r' ho fY,e2⟩
    ·exact .inr ⟨he,e2 _ (by simp)⟩
   ·let ⟨o,ho,r',e1,e2⟩:=q2 x hx;rcases A0 e1 with ⟨he,fY⟩|⟨he,rfl⟩
    ·exact ⟨o,ho,.inl ⟨r',sub o r' ho fY,e2⟩⟩
    ·exact ⟨o,ho,.inr (cB.1 e2)⟩
  |_=>trivial
 |cond c a b=>
  show Sound E _ (Qj (bU tm.get c) (rec (.code nt a tm mk h)) (rec (.code nt b tm mk h)));unfold Qj;cases hv:au (bU tm.get c) pa with
  |none=>trivial
  |some t=>
   let ⟨x,h1,h2⟩:=aj hv;obtain rfl:=vz h2;have hev:∀(g:Gh) (ac:Act),FR g nt tm.get ac.tmps->ac.eval c= .bool t:=λg ac dQ=>by
    have:=pY dQ h1;generalize ac.eval c=u at this;cases this;rfl
   show Sound E _ (ay t (rec (.code nt a tm mk h)) (rec (.code nt b tm mk h)));cases t with
   |true=>
    show Sound E _ (rec (.code nt a tm mk h));have hs:=jF (.code nt a tm mk h);cases hr:rec (.code nt a tm mk h) with
    |cU r=>
     rw[hr] at hs;intro hb;let ⟨n1,f1,s1⟩:=hs hb;exact ⟨n1,f1,λro m g ac w Q gN iH hE dQ hrr hm iq hk=>wpIn_cond_true (hev g ac dQ) (BM (s1 ro m g ac w Q (okL gN) iH hE dQ hrr hm iq hk))⟩
    |_=>trivial
   |false=>
    show Sound E _ (rec (.code nt b tm mk h));have hs:=jF (.code nt b tm mk h);cases hr:rec (.code nt b tm mk h) with
    |cU r=>
     rw[hr] at hs;intro hb;let ⟨n1,f1,s1⟩:=hs hb;exact ⟨n1,f1,λro m g ac w Q gN iH hE dQ hrr hm iq hk=>wpIn_cond_false (hev g ac dQ) (BM (s1 ro m g ac w Q (okR gN) iH hE dQ hrr hm iq hk))⟩
    |_=>trivial
 |block id c=>
  show Sound E _ (Qr id (rec (.code nt c tm mk h)));cases fh:Qr id (rec (.code nt c tm mk h)) with
  |cU r=>
   let ⟨l1,h1,h2⟩:=Ca fh;let ⟨_,q1,q2⟩:=uG h2;have hs:=jF (.code nt c tm mk h);rw[h1] at hs;intro hb;refine (hs hb).block (λx=>⟨λhx=> ?_,λ⟨o,ho,hx⟩=> ?_⟩)
   ·let ⟨o,ho,r',e1,e2⟩:=q2 x hx;cases e1;exact ⟨o,ho,cB.1 e2⟩
   ·let ⟨r',e1,e2⟩:=q1 o ho;cases e1;subst hx;exact e2 _ (by simp)
  |_=>trivial
 |loop c=>
  show Sound E _ (Ei (rec (.code nt c tm mk h)) λtm' mk' h'=>rec (.code nt (.loop c) tm' mk' h'))
  cases fh:Ei (rec (.code nt c tm mk h)) λtm' mk' h'=>rec (.code nt (.loop c) tm' mk' h') with
  |cU r=>
   let ⟨l1,h1,h2⟩:=Ca fh;let ⟨_,q1,q2⟩:=uG h2;have hs:=jF (.code nt c tm mk h);rw[h1] at hs;intro hb;have k1:=hs hb;have sub:∀(o:Oc) r',o∈l1->rec (.code nt (.loop c) o.tm o.dm o.h)= .cU r'->kj E nt (.loop c) o.tm o.dm o.h r':=λo r' ho fY=>by
    have:=jF (.code nt (.loop c) o.tm o.dm o.h);rw[fY] at this;exact this (k1.2.1 o ho).1.bd
   refine k1.loop (λo ho=> ?_) (λx hx=> ?_)
   ·let ⟨r',e1,e2⟩:=q1 o ho;rcases A0 e1 with ⟨he,fY⟩|⟨he,rfl⟩
    ·exact .inl ⟨he,r',sub o r' ho fY,e2⟩
    ·exact .inr ⟨he,e2 _ (by simp)⟩
   ·let ⟨o,ho,r',e1,e2⟩:=q2 x hx;rcases A0 e1 with ⟨he,fY⟩|⟨he,rfl⟩
    ·exact ⟨o,ho,.inl ⟨r',sub o r' ho fY,e2⟩⟩
    ·exact ⟨o,ho,.inr (cB.1 e2)⟩
  |_=>trivial
 |_=>trivial
end
section
variable {E:Env} {g:Gh} {f:Hf} {w:World}
def HR.grow (h:HR g f w) (mD:w.heap.size<=w'.heap.size) (hs:∀b,b<w.heap.size->w'.heap[b]? =w.heap[b]?):HR g f w':=
 ⟨λid o ho=>let ⟨b,c,q1,q2,q3⟩:=h.ob id o ho;⟨b,c,q1,mA q2 mD,q3.mono (.refl _) q1 (hs b q2)⟩,h.inj⟩
def aah (a:Act):ResultVar->Go.Sem Value
 | .tmp t=>pure (a.tmps.getD t undef)
 | .cell k t=>do loadVar t (<-asAddr (a.tmps.getD k undef))
def afY (hE:dP E g) (h:HR g f w) {a:Act} (dQ:FR g nt T a.tmps) (hx:O7 E T f rv=some x):∃v,(aah a rv).run E.P w= .ok v w/\VR g v x:=by
 cases rv with
 |tmp t=>exact ⟨_,rfl,dQ.tm t x hx⟩
 |cell k t=>
  let ⟨y,hy,hl⟩:=aj (show au (T k) (nM E f t)=some x from hx);have hu:=dQ.tm k y hy;let ⟨v,hv,hvr⟩:=PA hE h hu hl;let ⟨q,h1,_⟩:=aj hl;obtain rfl:=om h1;refine ⟨v,?_,hvr⟩;generalize hz:a.tmps.getD k undef=z at hu hv;cases hu with
  |ptr hρ=>
   simp only[Instr.loadAt,Instr.sureAddr,Sem.run_bind,Sem.run_pure,Result.andThen_ok] at hv;simp only[aah,hz,asAddr,Sem.run_bind,Sem.run_pure,Result.andThen_ok];exact hv
def Jd (hE:dP E g) (h:HR g f w) {nt:Nat} {T:Tf} {a:Act} (dQ:FR g nt T a.tmps):∀{rvs:List ResultVar} {xs:aM},sM E T f rvs=some xs->∃vs,(rvs.mapM (aah a)).run E.P w= .ok vs w/\kH g vs xs
 | [],xs,hx=>by cases hx;exact ⟨[],by simp,.nil⟩
 |rv::rvs,xs,hx=>by
  let ⟨x,l,h1,h2,hx⟩:=bc (show bE (O7 E T f rv) (sM E T f rvs) (λv l=>some (v::l))=some xs from hx)
  cases hx;let ⟨v,zV,AI⟩:=afY hE h dQ h1;let ⟨vs,hs1,hs2⟩:=Jd hE h dQ h2;refine ⟨v::vs,?_,.cons AI hs2⟩;rw[Sv];simp only[Sem.run_bind];rw[zV];simp only[Result.andThen_ok];rw[hs1];simp
def aaf (hE:dP E g) (h:HR g f w) {a:Act} (dQ:FR g nt T a.tmps) (hx:sM E T f fn.results.toList=some xs):∃v,(results fn a.tmps).run E.P w= .ok v w/\VR g v (oneOf xs):=by
 let ⟨vs,h1,h2⟩:=Jd hE h dQ hx;refine ⟨if h:vs.toArray.size=1 then vs.toArray[0] else .tuple vs.toArray,?_,?_⟩
 ·have e:∀f:ResultVar->Go.Sem Value,(∀x,f x=aah a x)->fn.results.mapM f=fn.results.mapM (aah a):=λf hf=>by rw[funext hf]
  unfold results;rw[e _ (λx=>by cases x<;>rfl)]
  rw[<-Array.toArray_toList (xs:=fn.results),List.mapM_toArray];simp only[Sem.run_bind,Sem.run_map];rw[h1];simp
 ·cases h2 with
  |nil=>exact .cm (by simpa using .nil)
  | @cons v x zn xs' hv ht=>
   cases ht with
   |nil=>simpa[oneOf] using hv
   | @cons v2 x2 vs2 xs2 AI ht2=>
    have:¬(v::v2::vs2).toArray.size=1:=by simp
    rw[dif_neg this];exact .cm (by simpa using .cons hv (.cons AI ht2))
def Eh:∀(vs:aM) (i:Nat) (t:cq) (j:Nat),(setArgs vs i t).get j=if i<=j/\j<i+vs.length then vs[j-i]? else t.get j
 | [],i,t,j=>by
  have:¬(i<=j/\j<i+([]:aM).length):=by simp
  rw[aA this];rfl
 |v::vs,i,t,j=>by
  have e:setArgs (v::vs) i t=setArgs vs (i+1) (t.set i (some v)):=rfl;rw[e,Eh vs (i+1) _ j,Tr.iU];by_cases h1:j=i
  ·subst h1;rw[aA (by omega),ax rfl,ax (by simp)]
   simp
  ·by_cases h2:i+1<=j/\j<i+1+vs.length
   ·rw[ax h2,ax (by simp;omega)]
    have:j-i=(j-(i+1))+1:=by omega
    rw[this,sg]
   ·rw[aA h2,aA h1,aA (by simp;omega)]
def FR.args (h:kH g us aa) (hn:aa.length<=nt):FR g nt (setArgs aa 0 .nil).get (us.toArray++Array.replicate (nt-us.toArray.size) undef):=by
 have hl:=h.length;refine ⟨by simp;omega,λt x hx=> ?_⟩
 rw[Eh] at hx;split at hx
 ·rename_i hc;let ⟨v,h1,h2⟩:=h.get hx;have bD:t<us.length:=by omega
  have e:(us.toArray++Array.replicate (nt-us.toArray.size) undef).getD t undef=v:=by
   rw[qX,IL (by simpa using bD)]
   simp only[OA] at h1;simp[h1]
  rw[e];exact h2
 ·cases hx
def BF.calls {fQ:Bool} (h:BF E fQ fv aa H nx v h'.hp.get h'.nx):yY E fv aa H nx [⟨fQ,v,h'⟩]:=
 λm g w u us hE hr iq hu lQ=>(h m g w u us hE hr iq hu lQ).mono λe w' ⟨r,q1,g',q2,q3,q4,q5,q6⟩=>⟨_,cB.2 rfl,r,g',q1,q2,q3,q4,q5,q6⟩
def avm {r:Rs} (h1:Bd h->qv h r.h/\BF E r.fQ fv aa h.hp.get h.nx r.v r.h.hp.get r.h.nx):Sound E (.call fv aa h) (.gg [r]):=by
 intro hb;let ⟨q1,q2⟩:=h1 hb;refine ⟨by simp,λr' hr=> ?_,q2.calls⟩
 obtain rfl:=cB.1 hr;exact q1
def URel (g:Gh) (u:dJ) (um:FrameMode):Prop:=
 match u with
 |none=>um= .returning
 |some v=>∃x,um= .panicking [{v:=x,recovered:=false}]/\VR g x v
end
section
variable {E:Env} {g:Gh} {f:Hf} {w:World}
def JD (hS:wy E) (jF:∀j,Sound E j (rec j)):∀(mk:List Dm) (u:dJ) (h:Hs) (l:List Rs),zP E fn tm mk u h= .gg l->Bd h->l≠ []/\(∀r∈l,qv h r.h)/\
  ∀(m nt:Nat) (g:Gh) (w:World) (a:Act) (ds:List Deferred) (um:FrameMode) (R:Ending->World->Prop),dP E g->FR g nt tm.get a.tmps->HR g h.hp.get w->Marks g mk ds->URel g u um->(∀x,h.nx<=x->g.Z x=none)->
   (∀r∈l,∀e w',QB g h.hp.get w h.nx r e w'->R e w')->LeavesInM Fence.wide m E.P fn a.tmps R ds um w
 | [],u,h,l,fh,hb=>by
  have fh:auQ E fn tm u h= .gg l:=fh;unfold auQ at fh;cases u with
  |some v=>
   cases (show Out.gg [⟨true,v,h⟩]= .gg l from fh);refine ⟨by simp,λr hr=> ?_,λm nt g w a ds um R hE dQ hr wU hu iq hk=> ?_⟩
   ·obtain rfl:=cB.1 hr;exact qv.refl hb
   ·cases wU;obtain ⟨x,rfl,hx⟩:=hu;exact hk _ (cB.2 rfl) _ _ ⟨x,g,rfl,hx,hr,Fr.refl _ _ _,λ_ _=>rfl,iq⟩
  |none=>
   have fh: @Option.rec aM (λ_=>Out) (.fail fn.name) (λvs=>.res (oneOf vs) h) (sM E tm.get h.hp.get fn.results.toList)= .gg l:=fh
   cases hv:sM E tm.get h.hp.get fn.results.toList with
   |none=>rw[hv] at fh;cases fh
   |some vs=>
    rw[hv] at fh;cases (show Out.gg [⟨false,oneOf vs,h⟩]= .gg l from fh);refine ⟨by simp,λr hr=> ?_,λm nt g w a ds um R hE dQ hr wU hu iq hk=> ?_⟩
    ·obtain rfl:=cB.1 hr;exact qv.refl hb
    ·cases wU;have hu:um= .returning:=hu;subst hu;let ⟨v,zV,AI⟩:=aaf hE hr dQ hv;exact ⟨v,zV,hk _ (cB.2 rfl) _ _ ⟨v,g,rfl,AI,hr,Fr.refl _ _ _,λ_ _=>rfl,iq⟩⟩
 |_::_,_,_,_,fh,_=>by cases fh
end
section
variable {E:Env} {g:Gh} {f:Hf} {w:World}
structure Weak (a j:Rs):Prop where
 fQ:j.fQ=a.fQ
 v:j.v=a.v
 sub:∀x z,j.h.hp.get x=some z->a.h.hp.get x=some z
 nx:a.h.nx<=j.h.nx
def Weak.post {a j:Rs} (h:Weak a j) {e:Ending} (hp:QB g H w nx a e w'):QB g H w nx j e w':=by
 let ⟨u,g',h1,h2,h3,h4,h5,h6⟩:=hp;refine ⟨u,g',by rw[h.fQ];exact h1,by rw[h.v];exact h2,h3.sub h.sub,⟨h4.os,h4.tape,h4.output,h4.size,h4.le,h4.old,λb hb ⟨id,o,c,q1,q2⟩=>h4.own b hb ⟨id,o,c,h.sub id o q1,q2⟩⟩,h5,λx hx=>h6 x (iL h.nx hx)⟩
def Qg {r:Out} {l:List Rs} (h:Qh nx lg r= .gg l):∃l',r= .gg l'/\(l'≠ [])/\(∀x∈l',(⟨x.fQ,x.v,⟨x.h.hp,x.h.nx,below nx x.h.lg lg⟩⟩:Rs)∈l)/\∀y∈l,∃x∈l',y=⟨x.fQ,x.v,⟨x.h.hp,x.h.nx,below nx x.h.lg lg⟩⟩:=by
 let ⟨l',h1,h2⟩:=aoE h;let ⟨n1,q1,q2⟩:=Ks h2;have one:∀(x:Rs) r',ay x.fQ (Out.fQ x.v ⟨x.h.hp,x.h.nx,below nx x.h.lg lg⟩) (.res x.v ⟨x.h.hp,x.h.nx,below nx x.h.lg lg⟩)= .gg r'->r'= [⟨x.fQ,x.v,⟨x.h.hp,x.h.nx,below nx x.h.lg lg⟩⟩]:=by
  intro x r' hx;cases hp:x.fQ with
  |false=>rw[hp] at hx;cases hx;rfl
  |true=>rw[hp] at hx;cases hx;rfl
 refine ⟨l',h1,n1,λx hx=> ?_,λy hy=> ?_⟩
 ·let ⟨r',e1,e2⟩:=q1 x hx;rw[one x r' e1] at e2;exact e2 _ (by simp)
 ·let ⟨x,hx,r',e1,e2⟩:=q2 y hy;rw[one x r' e1] at e2;exact ⟨x,hx,cB.1 e2⟩
def aqS (hS:wy E) (jF:∀j,Sound E j (rec j)) {c:Code} {ca:aM} (wW:E.fn.get k=some fn) (rW:fn.body=some c) (abP:fn.name≠ "runtime.NumGoroutine") (hlen:(fi++aa++ca).length<=fn.ntmps):
  Sound E (.call (.fn (.func k) fi ca) aa h) (Jc E rec fn h.nx h.lg (rec (.code fn.ntmps c (setArgs (fi++aa++ca) 0 .nil) [] ⟨h.hp,h.nx,[]⟩))):=by
 cases fh:Jc E rec fn h.nx h.lg (rec (.code fn.ntmps c (setArgs (fi++aa++ca) 0 .nil) [] ⟨h.hp,h.nx,[]⟩)) with
 |gg l=>
  intro hb;unfold Jc at fh;let ⟨l1,h1,h2⟩:=agd fh;let ⟨_,q1,q2⟩:=Ks h2;have hs:=jF (.code fn.ntmps c (setArgs (fi++aa++ca) 0 .nil) [] ⟨h.hp,h.nx,[]⟩);rw[h1] at hs;let ⟨n1,f1,s1⟩:=hs hb;have way:∀o∈l1,∃u l2,XM o.e=some u/\zP E fn o.tm o.dm u o.h= .gg l2/\l2≠ []/\∀x∈l2,(⟨x.fQ,x.v,⟨x.h.hp,x.h.nx,below h.nx x.h.lg h.lg⟩⟩:Rs)∈l:=by
   intro o ho;let ⟨r',e1,e2⟩:=q1 o ho;cases hu:XM o.e with
   |none=>rw[hu] at e1;cases e1
   |some u=>
    rw[hu] at e1;let ⟨l2,e3,e4,e5,_⟩:=Qg (show Qh h.nx h.lg (zP E fn o.tm o.dm u o.h)= .gg r' from e1);exact ⟨u,l2,rfl,e3,e4,λx hx=>e2 _ (e5 x hx)⟩
  have back:∀y∈l,∃o∈l1,∃u l2,zP E fn o.tm o.dm u o.h= .gg l2/\∃x∈l2,y=⟨x.fQ,x.v,⟨x.h.hp,x.h.nx,below h.nx x.h.lg h.lg⟩⟩:=by
   intro y hy;let ⟨o,ho,r',e1,e2⟩:=q2 y hy;cases hu:XM o.e with
   |none=>rw[hu] at e1;cases e1
   |some u=>
    rw[hu] at e1;let ⟨l2,e3,e4,_,e5⟩:=Qg (show Qh h.nx h.lg (zP E fn o.tm o.dm u o.h)= .gg r' from e1);let ⟨x,hx,e6⟩:=e5 y e2;exact ⟨o,ho,u,l2,e3,x,hx,e6⟩
  refine ⟨?_,λy hy=> ?_,λm g w u us hE hr iq hu lQ=> ?_⟩
  ·let ⟨o,ho⟩:=mQ _ n1;let ⟨u,l2,_,_,e4,e5⟩:=way o ho;let ⟨x,hx⟩:=mQ _ e4;exact Bp (e5 x hx)
  ·obtain ⟨o,ho,u,l2,e3,x,hx,rfl⟩:=back y hy;let ⟨_,f2,_⟩:=JD hS jF _ _ _ _ e3 (f1 o ho).1.bd;have f3:=(f1 o ho).1.trans (f2 x hx);refine ⟨f3.nx,f3.bd,λz hz hn=>f3.lg z hz (λhc=>hn (oB.2 (.inl ⟨hc,hz⟩))),λz hz=>oB.2 (.inr hz),f3.dead⟩
  cases hu with
  | @fn _ first jk _ _ zV AI=>
  let ⟨hPf,gN⟩:=hS.fn k fn wW;have rX:kH g (first.toList++us++jk.toList) (fi++aa++ca):=(zV.append lQ).append AI
  have wm:first++us.toArray++jk=(first.toList++us++jk.toList).toArray:=by apply Bq;simp
  have hokc:codeOk c=true:=by
   have gN: @Option.rec Code (λ_=>Bool) true codeOk fn.body=true:=gN
   rw[rW] at gN;exact gN
  refine ⟨{target:=.fn (.func k) jk,args:=first++us.toArray},rfl,.inl ⟨k,first++us.toArray++jk,?_,?_⟩⟩
  ·show (callFunc k (first++us.toArray++jk)).run E.P w=_
   rcases ta hPf (by rw[rW];rfl) (first++us.toArray++jk) w with ⟨_,hc⟩|hc
   ·exact absurd hc abP
   ·exact hc
  rw[wm];refine callsIn_of_wp_marks (F:=Fence.wide) hPf rW trivial (BM (F:=sw none) ?_);refine s1 none m g {tmps:=_,defers:= []} w _ hokc (.inl rfl) hE (FR.args rX hlen) hr .nil iq (λo ho g1 a1 w1 x p0 p1 p2 p3 p4 p5 p6=> ?_)
  let ⟨uu,l2,Es,hlv,_,ju⟩:=way o ho;let ⟨_,f2,s2⟩:=JD hS jF _ _ _ _ hlv (f1 o ho).1.bd;have fin:∀um,URel g1 uu um->LeavesInM Fence.wide m E.P fn a1.tmps (λe w'=>∃r∈l,QB g h.hp.get w h.nx r e w') a1.defers um w1:=by
   intro um tW;refine s2 m _ g1 w1 a1 a1.defers um _ (hE.mono p3.le) p1 p2 p4 tW p5 (λr hr e w' ⟨z,g',t1,t2,t3,t4,t5,t6⟩=> ?_)
   exact ⟨_,ju r hr,z,g',t1,t2,t3,p3.trans t4,λy hy=>by rw[t5 y (mA hy (f1 o ho).1.nx),p6 y hy],t6⟩
  generalize hoe:o.e=e at p0 Es;cases p0 with
  |normal=>cases Es;exact fin .returning rfl
  |ret=>cases Es;exact fin .returning rfl
  |exit id=>cases Es
  | @fQ v z hv=>cases Es;exact fin _ ⟨z,rfl,hv⟩
 |_=>trivial
def Og (h1:Bd h->qv h h'/\BF E false fv aa h.hp.get h.nx v h'.hp.get h'.nx):Sound E (.call fv aa h) (.res v h'):=avm (r:=⟨false,v,h'⟩) h1
def ajE {g:Gh} {w:World} (hr:HR g h.hp.get w) (hs:CL w w'):HR g h.hp.get w'/\Fr g h.hp.get w g h.hp.get w':=
 ⟨hr.grow hs.size hs.heap,⟨hs.os,hs.tape,hs.output,hs.size,.refl _,λb hb _=>hs.heap b hb,λb hb hm=>hm⟩⟩
def aca {P:Program} (h:On P k) (args:hY) (w:World):(callFunc k args).run P w= .ok (.enter k args) w:=by
 let ⟨fn,h1,h2,h3⟩:=h;rcases ta h1 h2 args w with ⟨_,hc⟩|hc
 ·exact absurd hc h3
 ·exact hc
def avc {B C:Nat} (h1:A<=B) (h2:B<=C) (h3:C<=svs.length) (t:Nat):(CA A B C svs)[t]? =if t<A then svs[t]? else if t<A+(C-B) then svs[t+(B-A)]? else if t<C then some SV.undef else svs[t]? :=by
 have e:CA A B C svs=svs.take A++((svs.drop B).take (C-B)++(List.replicate (B-A) SV.undef++svs.drop C)):=rfl;rw[e,oI,dx,eg (by omega)]
 by_cases q1:t<A
 ·rw[ax q1,ax q1,eR,ax q1]
 ·rw[aA q1,aA q1,oI,dx,gJ,eg (by omega)]
  by_cases q2:t<A+(C-B)
  ·rw[ax (by omega),ax q2,eR,ax (by omega),fD]
   congr 1;omega
  ·rw[aA (by omega),aA q2,oI,Bu]
   by_cases q3:t<C
   ·rw[ax (by omega),ax q3,List.getElem?_replicate,ax (by omega)]
   ·rw[aA (by omega),aA q3,fD]
    congr 1;omega
def acx {B C:Nat} (h1:A<=B) (h2:B<=C) (h3:C<=svs.length):(CA A B C svs).length=svs.length:=by
 show (svs.take A++((svs.drop B).take (C-B)++(List.replicate (B-A) SV.undef++svs.drop C))).length=_;simp;omega
def kH.three {y z:SV} (h:kH g us [x,y,z]):∃a b c,us= [a,b,c]/\VR g a x/\VR g b y/\VR g c z:=by
 cases h with|cons h1 ht=>cases ht with|cons h2 ht=>cases ht with|cons h3 ht=>cases ht;exact ⟨_,_,_,rfl,h1,h2,h3⟩
def Cells.at {id o:Nat} {e:TypeId} (h:Cells g w id b o e cs):∃cur:hY,w.heap[b]? =some (.cells cur e (0,0))/\o+g.lim id<=cur.size/\o+cs.length<=cur.size/\∀(t:Nat) (x:SV),cs[t]? =some x->∃v,cur[o+t]? =some v/\v.oneCell'=true/\VR g v x:=by
 let ⟨⟨cur,m1,m0,vs,m2,m3⟩,m4⟩:=h;refine ⟨cur,m1,m0,?_,λt x hx=> ?_⟩
 ·have hl:=m2.length;rcases OF cs.length with q|q
  ·omega
  ·have:=m3 (cs.length-1) _ (dW (by omega))
   have:=(oK.1 this).1;omega
 ·let ⟨v,v1,v2,v3⟩:=m2.get hx;exact ⟨v,m3 t v v1,v2,v3⟩
def gF.apq {o:Nat} (h4:∀(t:Nat) (x:SV),cs[t]? =some x->∃v,cur[o+t]? =some v/\v.oneCell'=true/\VR g v x):∃vs,gF g vs cs/\∀(j:Nat) (v:Value),vs[j]? =some v->cur[o+j]? =some v:=by
 refine ⟨(cur.toList.drop o).take cs.length,gF.mk ?_ λj v x hv hx=> ?_,λj v hv=> ?_⟩
 ·rcases OF cs.length with q|q
  ·rw[q];simp
  ·let ⟨v,a,_,_⟩:=h4 (cs.length-1) _ (dW (by omega))
   have:=(oK.1 a).1;simp;omega
 ·let ⟨v',a,b,c⟩:=h4 j x hx;have hj:=(cg.1 hx).1;rw[eR,ax hj,fD,mL,a] at hv;cases hv;exact ⟨b,c⟩
 ·rw[eR] at hv;split at hv
  ·rw[fD,mL] at hv;exact hv
  ·cases hv
def Cells.mk' {id o:Nat} {e:TypeId} (h1:w.heap[b]? =some (.cells cur e (0,0))) (h2:o+g.lim id<=cur.size) (h3:g.et id=e) (h4:∀(t:Nat) (x:SV),cs[t]? =some x->∃v,cur[o+t]? =some v/\v.oneCell'=true/\VR g v x):Cells g w id b o e cs:=by
 let ⟨vs,a,b⟩:=gF.apq h4;exact ⟨⟨cur,h1,h2,vs,a,b⟩,h3⟩
def PQ:∀{l:aM} {xs:List Int},Mk l=some xs->l=mE xs
 | [],xs,h=>by cases h;rfl
 |v::l,xs,h=>by
  let ⟨x,r,h1,h2,h3⟩:=bc (show bE (akQ v) (Mk l) (λx r=>some (x::r))=some xs from h)
  cases h3;rw[PQ h2];unfold akQ at h1;split at h1
  ·cases h1;rfl
  ·cases h1
def Ko:∀xs:List Int,(ld xs).length<=xs.length
 | []=>cF _
 | [x]=>cF _
 |x::y::l=>by
  have:=Ko (y::l);show (if x=y then ld (y::l) else x::ld (y::l)).length<=_
  split
  ·exact Nat.le_succ_of_le this
  ·exact Nat.succ_le_succ this
def abw (x:Int):∀ys:List Int,(Av x ys).length=ys.length+1
 | []=>rfl
 |y::ys=>by
  unfold Av;split
  ·rfl
  ·rw[mM,abw x ys];rfl
def VM:∀xs:List Int,(lY xs).length=xs.length
 | []=>rfl
 |x::xs=>by rw[lY,abw,VM xs];rfl
def aqH (b:Bool) (xs:List Int):(zc b xs).length=xs.length:=by
 cases b
 ·have:=Ko xs;show (ld xs++List.replicate (xs.length-(ld xs).length) 0).length=_;rw[eQ,Bu];omega
 ·exact VM xs
def kH.one (h:kH g us [x]):∃a,us= [a]/\VR g a x:=by
 cases h with|cons h1 ht=>cases ht;exact ⟨_,rfl,h1⟩
def aqG {k:Nat} {z:Bool} (hP:QE E.P k z) (h:HR g f w) (lQ:kH g us aa) {gY:cQ} (ho:PN z f aa=some (v,gY)) (m:Nat):
  On E.P k/\CallsIn Fence.wide m E.P k us.toArray w λe w'=>∃r g',e= .returned r/\gS g f w v gY new r g' w':=by
 let ⟨uM,h0,h1⟩:=hP;refine ⟨uM,?_⟩;unfold PN at ho;split at ho
 ·cases ho;obtain ⟨a,rfl,q⟩:=lQ.one;cases q;refine CallsIn.mono (h0 m w none 0) ?_;rintro e w' ⟨rfl,e1,e2,e3,e4⟩;have hs:CL w w':=⟨e2,e3,e4,by rw[e1];exact cF _,λb _=>by rw[e1]⟩
  refine ⟨_,g,rfl,?_,h.grow hs.size hs.heap,⟨hs.os,hs.tape,hs.output,hs.size,.refl _,λb hb _=>hs.heap b hb,λb hb hm=>hm⟩,λ_ _=>rfl,λ_=>rfl⟩
  cases z
  ·exact .cR
  ·exact .cm .nil
 ·rename_i id off n cp;rw[bk] at ho;split at ho
  ·rename_i Fy;have Fy:n=0:=(beq_iff _ _).1 Fy;subst Fy;cases ho;obtain ⟨a,rfl,q⟩:=lQ.one;cases q with
   | @sl _ _ _ b o c _ hρ vu fG rq=>
   refine CallsIn.mono (h0 m w (some ⟨b,o+off,none⟩) c) ?_;rintro e w' ⟨rfl,e1,e2,e3,e4⟩;have hs:CL w w':=⟨e2,e3,e4,by rw[e1];exact cF _,λb _=>by rw[e1]⟩
   refine ⟨_,g,rfl,?_,h.grow hs.size hs.heap,⟨hs.os,hs.tape,hs.output,hs.size,.refl _,λb hb _=>hs.heap b hb,λb hb hm=>hm⟩,λ_ _=>rfl,λ_=>rfl⟩
   cases z
   ·exact .sl hρ (pU _) fG rq
   ·exact .cm .nil
  let ⟨p,hp,ho⟩:=aj ho;let ⟨xs,hx,ho⟩:=aj ho;let ⟨hc,ho⟩:=aJ ho;simp only[aY] at hc;let ⟨c0,c1,c2⟩:=hc;have c0:1<=n:=(cN _ _).1 c0;have c1:off+n<=p.2.length:=(cN _ _).1 c1;have c2:n<=4294967295:=(cN _ _).1 c2;cases ho;have hf:=lh hp;have hxs:=PQ hx;have hn:xs.length=n:=by
   have:=bA List.length hxs;simp[mE] at this;omega
  subst hn;obtain ⟨a,rfl,q⟩:=lQ.one;cases q with
  | @sl _ _ _ b o c _ hρ vu fG rq=>
  have pq:Cells g w id b o p.1 p.2:=(h.at hf hρ).2;let ⟨cur,m1,m0,ml,m2⟩:=pq.at;have j5:∀t x,xs[t]? =some x->p.2[off+t]? =some (.int .i64 (.lit x)):=λt x oT=>by
   have hl:=(cg.1 oT).1;have e:=bA (λl=>l[t]?) hxs
   rw[eR,ax hl,fD] at e;rw[e,mE,kK,oT];rfl
  refine CallsIn.mono (h1 m w b (o+off) c xs cur p.1 m1 (by omega) c2 vu λt x oT=> ?_) ?_
  ·let ⟨u,u1,_,u3⟩:=m2 _ _ (j5 t x oT);cases u3 with|int _ _ e=>
   have e:_=x:=e;subst e;rw[fV];exact u1
  rintro e w' ⟨rfl,w1,iZ,hw,hs,mD,r1,r2⟩;have hgl:=aqH z xs;have abU:Cells g w1 id b o p.1 (p.2.take off++(mE (zc z xs)++p.2.drop (off+xs.length))):=Cells.mk' hw.heap (by rw[mD];exact m0) pq.et λt x oT=>by
   rw[oI,dx,eg (by omega)] at oT
   split at oT
   ·rename_i ht;rw[eR,ax ht] at oT;rw[r1 (o+t) (.inl (by omega))];exact m2 t x oT
   ·rename_i ht;rw[oI,mE,iz,hgl] at oT;split at oT
    ·rename_i ht2;rw[kK] at oT;cases hy:(zc z xs)[t-off]? with
     |none=>rw[hy] at oT;cases oT
     |some y=>
      rw[hy] at oT;cases oT;have:=r2 _ _ hy;rw[show o+off+(t-off)=o+t by omega] at this
      exact ⟨_,this,rfl,.int _ _ rfl⟩
    ·rename_i ht2;rw[fD] at oT;rw[r1 (o+t) (.inr (by omega))]
     have:=m2 _ x oT;rw[show o+t=o+(off+xs.length+(t-off-xs.length)) by omega]
     exact this
  let ⟨t1,t2⟩:=h.write (o':=.cells p.1 _) hf hρ hw.size hw.Iq abU hw.os hw.tape hw.output;have t3:=t1.grow hs.size hs.heap;refine ⟨_,g,rfl,?_,t3,?_,λ_ _=>rfl,λ_=>rfl⟩
  ·cases z
   ·have:=Ko xs;exact .sl hρ (by show (ld xs).length<=c;omega) fG rq
   ·exact .cm .nil
  ·exact t2.trans ⟨hs.os,hs.tape,hs.output,hs.size,.refl _,λb hb _=>hs.heap b hb,λb hb hm=>hm⟩
 ·cases ho
def aoP (hE:dP E g) {k c:Nat} (hP:XT E k c) (h:HR g f w) (hn:g.Z new=none) (lQ:kH g us aa) {gY:cQ} (ho:oo E c f new aa=some (v,gY)) (m:Nat):
  On E.P k/\CallsIn Fence.wide m E.P k us.toArray w λe w'=>∃r g',e= .returned r/\gS g f w v gY new r g' w':=by
 unfold oo at ho;rw[bk] at ho;split at ho
 ·rename_i auv;exact aqG (hP.1 ((cN _ _).1 auv)) h lQ ho m
 rename_i auv;let ⟨ie,hie,ho⟩:=aj ho;let ⟨hd,hi⟩:=hP.2 (by
  by_cases hc:c<1048576
  ·exact hc
  ·exact absurd ((cN _ _).2 (by omega)) auv) ie hie
 rw[bk] at ho;split at ho
 ·rename_i h0;let ⟨uM,hd⟩:=hd ((beq_iff _ _).1 h0);refine ⟨uM,?_⟩;unfold U7 at ho;split at ho;rotate_left
  ·cases ho
  rename_i id off n cp a b _;let ⟨i,j,p,ha,hb,hp,ho⟩:=qs ho;let ⟨hc,ho⟩:=aJ ho;simp only[aY] at hc;let ⟨c1,c2,c3⟩:=hc;have c1:i<j:=(cN _ _).1 c1;have c2:j<=n:=(cN _ _).1 c2;have c3:off+n*ie.size<=p.2.length:=(cN _ _).1 c3;cases ho;obtain rfl:=Dp ha;obtain rfl:=Dp hb;obtain ⟨x,y,z,rfl,q1,q2,q3⟩:=lQ.three;have hf:=lh hp;cases q2 with|int _ _ e2=>cases q3 with|int _ _ e3=>
  have e2:_=(i:Int):=e2;have e3:_=(j:Int):=e3;subst e2;subst e3;cases q1 with
  | @sl _ _ _ b o c _ hρ vu fG rq=>
  have pq:Cells g w id b o p.1 p.2:=(h.at hf hρ).2;let ⟨cur,m1,m0,ml,m2⟩:=pq.at;have hA:i*ie.size<=j*ie.size:=gz _ (by omega)
  have hB:j*ie.size<=n*ie.size:=gz _ c2;refine CallsIn.mono (hd m w b (o+off) n c i j cur p.1 m1 (by omega) (λt ht u hu=> ?_) c1 c2 vu) ?_
  ·let ⟨u',u1,u2,_⟩:=m2 (off+t) _ (dW (by omega))
   rw[<-fV,hu] at u1;cases u1;exact u2
  rintro e w' ⟨rfl,iZ,hw,hs,r1,r2,r3⟩;have abU:Cells g w' id b o p.1 (CA (off+i*ie.size) (off+j*ie.size) (off+n*ie.size) p.2):=Cells.mk' hw.heap (by rw[hs];exact m0) pq.et λt x hx=>by
   rw[avc (by omega) (by omega) (by omega)] at hx
   split at hx
   ·rw[r1 (o+t) (.inl (by omega))];exact m2 t x hx
   ·split at hx
    ·have:=r2 (t-(off+i*ie.size)) (by omega)
     rw[show o+off+i*ie.size+(t-(off+i*ie.size))=o+t by omega,show o+off+j*ie.size+(t-(off+i*ie.size))=o+(t+(off+j*ie.size-(off+i*ie.size))) by omega] at this
     rw[this];exact m2 _ x hx
    ·split at hx
     ·cases hx;let ⟨u,u1,u2⟩:=r3 (t-(off+i*ie.size+(n*ie.size-j*ie.size))) (by omega)
      rw[show o+off+i*ie.size+(n*ie.size-j*ie.size)+(t-(off+i*ie.size+(n*ie.size-j*ie.size)))=o+t by omega] at u1
      exact ⟨u,u1,u2,.undef u⟩
     ·rw[r1 (o+t) (.inr (by omega))];exact m2 t x hx
  let ⟨t1,t2⟩:=h.write (o':=.cells p.1 _) hf hρ hw.size hw.Iq abU hw.os hw.tape hw.output;exact ⟨_,g,rfl,.sl hρ (by show n-(j-i)<=c;omega) fG rq,t1,t2,λ_ _=>rfl,λ_=>rfl⟩
 ·rename_i h0;let ⟨uM,hi⟩:=hi (λe=>h0 ((beq_iff _ _).2 e))
  refine ⟨uM,?_⟩;unfold abu at ho;split at ho;rotate_left
  ·cases ho
  rename_i id off n cp a Dw wa q c2 _;let ⟨i,p,p2,ha,hp,hp2,ho⟩:=qs ho;let ⟨hc,ho⟩:=aJ ho;simp only[aY] at hc;let ⟨c1,c3,c4,c5,c6,c7,c8,c9,c10⟩:=hc;have c1:i<=n:=(cN _ _).1 c1;have c3:1<=q:=(cN _ _).1 c3;have c4:n<=1000000:=(cN _ _).1 c4;have c5:q<=1000000:=(cN _ _).1 c5;have c6:id≠Dw:=λe=>by rw[(beq_iff _ _).2 e] at c6;cases c6
  have c7:p.1=Nat.div c 2:=(beq_iff _ _).1 c7;have c8:off+n*ie.size<=p.2.length:=(cN _ _).1 c8;have c9:wa+q*ie.size<=p2.2.length:=(cN _ _).1 c9;cases ho;obtain rfl:=Dp ha;obtain ⟨x,y,z,rfl,q1,q2,q3⟩:=lQ.three;have hf:=lh hp;have hf2:=lh hp2;cases q2 with|int _ _ e2=>
  have e2:_=(i:Int):=e2;subst e2;cases q1 with
  | @sl _ _ _ b o cc _ hρ vu fG rq=>
  cases q3 with
  | @sl _ _ _ b2 o2 cc2 _ hρ2 hnc2 axk hlim2=>
  have pq:Cells g w id b o p.1 p.2:=(h.at hf hρ).2;have aDT:Cells g w Dw b2 o2 p2.1 p2.2:=(h.at hf2 hρ2).2;let ⟨cur,m1,m0,ml,m2⟩:=pq.at;let ⟨amm,n1,n0,nl,n2⟩:=aDT.at;have hbb:b2≠b:=λe=>c6 (h.inj id Dw _ _ b o o2 hf hf2 hρ (by rw[<-e];exact hρ2))
  have kE:o+off+cc*ie.size<=cur.size:=by
   cases cp with
   |k c0=>
    have:=fG c0 rfl;subst this;have:off+cc*ie.size<=p.2.length:=(cN _ _).1 c10;omega
   |u e0=>
    let ⟨l1,l2⟩:=rq e0 rfl;have:g.sz e0=ie.size:=by rw[<-l1,pq.et,c7];exact hE.size hie
    rw[this] at l2;omega
  refine CallsIn.mono (hi m w b (o+off) n cc i b2 (o2+wa) q cc2 cur amm p2.1 (by rw[m1,c7];rfl) n1 hbb kE (by omega) (λt ht u hu=> ?_) (λt ht u hu=> ?_) vu c4 c3 c5 c1) ?_
  ·let ⟨u',u1,u2,_⟩:=m2 (off+t) _ (dW (by omega))
   rw[<-fV,hu] at u1;cases u1;exact u2
  ·let ⟨u',u1,u2,_⟩:=n2 (wa+t) _ (dW (by omega))
   rw[<-fV,hu] at u1;cases u1;exact u2
  rintro e w' ⟨b',o',c',iZ,rfl,hnc',hsz',j5,hw⟩;have hle:=Gh.Fp (g:=g) (p:=(b',o')) (l:=c'*ie.size) (e:=Nat.div c 2) hn;have hxl:((p.2.drop off).take (n*ie.size)).length=n*ie.size:=by simp;omega
  have hyl:((p2.2.drop wa).take (q*ie.size)).length=q*ie.size:=by simp;omega
  have hXl:((cur.toList.drop (o+off)).take (n*ie.size)).length=n*ie.size:=by simp;omega
  have hYl:((amm.toList.drop (o2+wa)).take (q*ie.size)).length=q*ie.size:=by simp;omega
  have ju:i*ie.size<=n*ie.size:=gz _ c1;have axi:∀(t:Nat) (x:SV),(uV ((p.2.drop off).take (n*ie.size)) (i*ie.size) ((p2.2.drop wa).take (q*ie.size)))[t]? =some x->∃v,iZ[o'+t]? =some v/\v.oneCell'=true/\VR g v x:=λt x hx=>by
   have hl:t<n*ie.size+q*ie.size:=by
    have:=(cg.1 hx).1;simp[uV] at this;omega
   rw[j5 t (by rw[eK];exact hl)]
   show ∃v,((((cur.toList.drop (o+off)).take (n*ie.size)).take (i*ie.size))++(((amm.toList.drop (o2+wa)).take (q*ie.size))++(((cur.toList.drop (o+off)).take (n*ie.size)).drop (i*ie.size))))[t]? =some v/\_;have hx:((((p.2.drop off).take (n*ie.size)).take (i*ie.size))++(((p2.2.drop wa).take (q*ie.size))++(((p.2.drop off).take (n*ie.size)).drop (i*ie.size))))[t]? =some x:=hx;have src:∀s,s<n*ie.size->∀x,((p.2.drop off).take (n*ie.size))[s]? =some x->∃v,((cur.toList.drop (o+off)).take (n*ie.size))[s]? =some v/\v.oneCell'=true/\VR g v x:=λs hs x hx=>by
    rw[eR,ax hs,fD] at hx;let ⟨v,a,b,c⟩:=m2 _ x hx;exact ⟨v,by rw[eR,ax hs,fD,mL,fV];exact a,b,c⟩
   have src2:∀s,s<q*ie.size->∀x,((p2.2.drop wa).take (q*ie.size))[s]? =some x->∃v,((amm.toList.drop (o2+wa)).take (q*ie.size))[s]? =some v/\v.oneCell'=true/\VR g v x:=λs hs x hx=>by
    rw[eR,ax hs,fD] at hx;let ⟨v,a,b,c⟩:=n2 _ x hx;exact ⟨v,by rw[eR,ax hs,fD,mL,fV];exact a,b,c⟩
   rw[oI] at hx ⊢;rw[dx,hxl,eg ju] at hx;rw[dx,hXl,eg ju];by_cases q1:t<i*ie.size
   ·rw[ax q1,eR,ax q1] at hx;rw[ax q1,eR,ax q1];exact src t (by omega) x hx
   ·rw[aA q1,oI,hyl] at hx;rw[aA q1,oI,hYl];by_cases q2:t-i*ie.size<q*ie.size
    ·rw[ax q2] at hx;rw[ax q2];exact src2 _ q2 x hx
    ·rw[aA q2,fD] at hx;rw[aA q2,fD];exact src _ (by omega) x hx
  have vt:∀{h3:w'.heap[b']? =some (.cells iZ (Nat.div c 2) (0,0))},OR (g.bind new (b',o') (c'*ie.size) (Nat.div c 2)) w' new b' o' (.cells (Nat.div c 2) (uV ((p.2.drop off).take (n*ie.size)) (i*ie.size) ((p2.2.drop wa).take (q*ie.size)))):=λ{h3}=>
   Cells.mk' h3 (by rw[Gh.yV];exact hsz') (Gh.BE _ _ _ _ _) λt x hx=>by
    let ⟨v,a,b,c⟩:=axi t x hx;exact ⟨v,a,b,c.mono hle⟩
  have N4:VR (g.bind new (b',o') (c'*ie.size) (Nat.div c 2)) (.slice (some ⟨b',o',none⟩) (n+q) c') (.sl new 0 (n+q) (.u (Nat.div c 2))):=
   .sl (id:=new) (off:=0) (o:=o') (b:=b') (cap:=.u (Nat.div c 2)) (Gh.je _ _ _ _ _) hnc' (λk hk=>by cases hk) (λe' he=>by
    cases he;refine ⟨Gh.BE _ _ _ _ _,?_⟩;rw[Gh.yV];show 0+c'*g.sz (Nat.div c 2)<=_;rw[hE.size hie];omega)
  rcases hw with ⟨rfl,rfl,hw⟩|⟨rfl,rfl,hw⟩
  ·let ⟨t1,t2⟩:=h.rename (o':=.cells (Nat.div c 2) (uV ((p.2.drop off).take (n*ie.size)) (i*ie.size) ((p2.2.drop wa).take (q*ie.size)))) hn hf hρ hw.size hw.Iq (vt (h3:=hw.heap)) hw.os hw.tape hw.output;exact ⟨_,_,rfl,N4,t1,t2,λk hk=>Gh.lV _ _ _ _ hk,λyQ=>by cases yQ⟩
  ·let ⟨k1,k2⟩:=h.kill id;let ⟨vs,a1,a2⟩:=gF.apq axi;have hw':w'=World.alloc {w' with heap:=w.heap} (.cells iZ (Nat.div c 2)):=by
    show w'={w' with heap:=w.heap.push (.cells iZ (c / 2) (0,0))}
    rw[<-hw.heap]
   exact ⟨_,_,rfl,(k1.row hn (w0:={w' with heap:=w.heap}) ⟨rfl,hw.os,hw.tape,hw.output⟩ hw' a1 (λj v hv=>by rw[<-cE j];exact a2 j v hv) (by omega) N4).kill h⟩
def akx {c:Nat} {gY:cQ} (ho:oo E c h.hp.get h.nx aa=some (v,gY)):uk h.hp.get h.nx gY:=by
 unfold oo at ho;rw[bk] at ho;split at ho
 ·unfold PN at ho;split at ho
  ·cases ho;exact keys_nil
  ·rw[bk] at ho;split at ho
   ·cases ho;exact keys_nil
   ·let ⟨p,hp,ho⟩:=aj ho;let ⟨xs,hx,ho⟩:=aj ho;let ⟨hc,ho⟩:=aJ ho;cases ho;exact yL (by rw[lh hp];simp)
  ·cases ho
 let ⟨ie,hie,ho⟩:=aj ho;rw[bk] at ho;split at ho
 ·unfold U7 at ho;split at ho;rotate_left
  ·cases ho
  let ⟨i,j,p,ha,hb,hp,ho⟩:=qs ho;let ⟨hc,ho⟩:=aJ ho;cases ho;exact yL (by rw[lh hp];simp)
 ·unfold abu at ho;split at ho;rotate_left
  ·cases ho
  let ⟨i,p,p2,ha,hp,hp2,ho⟩:=qs ho;let ⟨hc,ho⟩:=aJ ho;cases ho;intro u hu;rcases bB.1 hu with rfl|hu
  ·exact .inr (by rw[lh hp];simp)
  ·rw[cB.1 hu];exact .inl rfl
def auI {us:cQ} (hb:Bd h) (hk:uk h.hp.get h.nx us):qv h (ach h us):=by
 have f3:=ait (h:=⟨h.hp,h.nx,[]⟩) (us:=us) hb hk;exact ⟨f3.nx,f3.bd,λz hz hn=>f3.lg z hz (λhc=>hn (oB.2 (.inl ⟨hc,hz⟩))),λz hz=>oB.2 (.inr hz),f3.dead⟩
def acg (h:Hs) (us:cQ):(ach h us).hp.get=nQ h.hp.get us:=Mo ⟨h.hp,h.nx,[]⟩ us
def akw (hS:wy E) {ca:aM}:Sound E (.call (.fn (.func k) fi ca) aa h) (Dg E k (fi++aa++ca) h):=by
 unfold Dg;cases hc:rM k E.rK with
 |none=>trivial
 |some c=>
  show Sound E _ (aky h (oo E c h.hp.get h.nx (fi++aa++ca)));cases ho:oo E c h.hp.get h.nx (fi++aa++ca) with
  |none=>trivial
  |some p=>
   let ⟨v,gY⟩:=p;refine Og (λhb=>⟨auI hb (akx ho),λm g w u us hE hr iq hu lQ=> ?_⟩)
   cases hu with
   | @fn _ first jk _ _ zV AI=>
   have rX:kH g (first.toList++us++jk.toList) (fi++aa++ca):=(zV.append lQ).append AI
   have wm:first++us.toArray++jk=(first.toList++us++jk.toList).toArray:=by apply Bq;simp
   let ⟨uM,alM⟩:=aoP hE (hS.NO k c hc) hr (iq h.nx (cF _)) rX ho m;refine ⟨{target:=.fn (.func k) jk,args:=first++us.toArray},rfl,.inl ⟨k,first++us.toArray++jk,aca uM _ w,?_⟩⟩
   rw[wm];refine CallsIn.mono alM ?_;rintro e w' ⟨r,g',rfl,hp⟩;refine ⟨r,rfl,g',hp.val,by rw[acg];exact hp.hr,by rw[acg];exact hp.fr,λx hx=>hp.ro x (by omega),λx hx=> ?_⟩
   cases gY with
   |nil=>rw[hp.nil rfl];exact iq x hx
   |cons u gY=>
    have hx:h.nx+1<=x:=by
     have e:(ach h (u::gY)).nx=(Hs.gY ⟨h.hp,h.nx,[]⟩ (u::gY)).nx+1:=rfl;rw[e,zq] at hx;exact hx
    rw[hp.ro x (by omega)];exact iq x (by omega)
def acf {l:aM} (h:oX E k l=some v):l= []:=by
 cases l with
 |nil=>rfl
 |cons a l=>cases h
def aml (hS:wy E) {ca:aM} (hd:oX E k (fi++aa++ca)=some v):Sound E (.call (.fn (.func k) fi ca) aa h) (.res v h):=by
 refine Og (λhb=> ?_)
 have yQ:=acf hd;obtain ⟨hfa,rfl⟩:=YF.1 yQ;obtain ⟨rfl,rfl⟩:=YF.1 hfa;let ⟨uM,h4⟩:=hS.done k v hd;refine ⟨qv.refl hb,λm g w u us hE hr iq hu lQ=> ?_⟩
 cases hu with
 | @fn _ first jk _ _ zV AI=>
 have ef:first= #[]:=by
  generalize hz:first.toList=z at zV
  cases zV;simpa using hz
 have ec:jk= #[]:=by
  generalize hz:jk.toList=z at AI;cases AI;simpa using hz
 cases lQ;subst ef;subst ec;refine ⟨{target:=.fn (.func k) #[],args:= #[]},rfl,.inl ⟨k,#[],aca uM #[] w,?_⟩⟩;refine CallsIn.mono (h4 m w) ?_;rintro e w' ⟨r,rfl,hv,hs⟩;let ⟨s1,s2⟩:=ajE hr hs;exact ⟨r,rfl,g,hv g,s1,s2,λ_ _=>rfl,iq⟩
section
variable {τ:Nat->Nat} {D:Nat->Prop} [DecidablePred D] {S:aI}
end
structure acZ (τ:Nat->Nat) (g g':Gh):Prop where
 η:g'.η=g.η
 sz:g'.sz=g.sz
 Z:∀id p,g.Z id=some p->g'.Z (τ id)=some p
 lim:∀id p,g.Z id=some p->g'.lim (τ id)=g.lim id
 et:∀id p,g.Z id=some p->g'.et (τ id)=g.et id
section
variable {τ:Nat->Nat}
mutual
def VR.push {g g':Gh} (hp:acZ τ g g'):∀{v x},VR g v x->VR g' v (akh τ x)
 |_,_,.bool b=>.bool b
 |_,_,.int k e h=>.int k e (by rw[hp.η];exact h)
 |_,_,.str s=>.str s
 |_,_,.ptr h=>.ptr (hp.Z _ _ h)
 |_,_,.il=>.il
 |_,_,.sl h hn hc hl=>.sl (hp.Z _ _ h) hn hc (λe he=>by rw[hp.sz,hp.et _ _ h,hp.lim _ _ h];exact hl e he)
 |_,_,.sle=>.sle
 |_,_,.cR=>.cR
 |_,_,.mp h=>.mp (hp.Z _ _ h)
 |_,_,.gL=>.gL
 |_,_,.fn h1 h2=>.fn (h1.push hp) (h2.push hp)
 |_,_,.iS=>.iS
 |_,_,.agg h=>.agg (h.push hp)
 |_,_,.cm h=>.cm (h.push hp)
 |_,_,.undef v=>.undef v
def kH.push {g g':Gh} (hp:acZ τ g g'):∀{v x},kH g v x->kH g' v (De τ x)
 |_,_,.nil=>.nil
 |_,_,.cons h ht=>.cons (h.push hp) (ht.push hp)
def gF.push {g g':Gh} (hp:acZ τ g g'):∀{v x},gF g v x->gF g' v (De τ x)
 |_,_,.nil=>.nil
 |_,_,.cons h1 h ht=>.cons h1 (h.push hp) (ht.push hp)
end
def iC.push {g:Gh} (hp:acZ τ g g'):∀{ms:List MapEntry} {xs:jh},iC g ms xs->iC g' ms (aki τ xs)
 |_,_,.nil=>.nil
 |_,_,.cons h ht=>.cons ⟨h.1.push hp,h.2.1.push hp,h.2.2⟩ (ht.push hp)
def OR.push {g:Gh} (hp:acZ τ g g') {w:World} {id o:Nat} {x:SO} (hρ:g.Z id=some (b,o)) (h:OR g w id b o x) (hx:aDw x=true):OR g' w (τ id) b o (renO τ x):=by
 cases x with
 |cells e cs=>
  let ⟨⟨cur,h1,h0,vs,h2,h3⟩,h4⟩:=h;exact ⟨⟨cur,h1,by rw[hp.lim _ _ hρ];exact h0,vs,h2.push hp,h3⟩,(hp.et _ _ hρ).trans h4⟩
 |map es c=>let ⟨ms,h1,h2⟩:=h;exact ⟨ms,h1,h2.push hp⟩
 |pL s pos=>cases hx
 |mapIter mp since seen last=>cases hx
 |dfr=>cases hx
 |ro cs=>cases hx
end
def Wn (a b:ByteArray):Lib.compareBytes a.data.toList b.data.toList=CD a b:=by
 have key:∀(l m:List UInt8),Lib.compareBytes l m=if BD l m=true then -1 else if sC l m=true then 0 else 1:=by
  intro l;induction l with
  |nil=>intro m;cases m<;>simp[Lib.compareBytes,BD,sC]
  |cons x l ih=>
   intro m;cases m with
   |nil=>simp[Lib.compareBytes,BD,sC]
   |cons y m=>
    unfold Lib.compareBytes BD sC;rw[ih m,bk,bk,ble_eq,beq_eq];have h1:(x<y)↔x.toNat+1<=y.toNat:=by rw[UInt8.lt_iff_toNat_lt];omega
    have h2:(y<x)↔y.toNat<x.toNat:=UInt8.lt_iff_toNat_lt;by_cases hxy:x<y
    ·simp[hxy,h1.1 hxy]
    ·by_cases hyx:y<x
     ·have a1:¬(x.toNat+1<=y.toNat):=λh=>hxy (h1.2 h)
      have a2:¬(x.toNat=y.toNat):=λh=>by have:=h2.1 hyx;omega
      simp[hxy,hyx,a1,a2]
     ·have a1:¬(x.toNat+1<=y.toNat):=λh=>hxy (h1.2 h)
      have a3:¬(y.toNat<x.toNat):=λh=>hyx (h2.2 h)
      have a2:x.toNat=y.toNat:=by omega
      have a4:¬(y.toNat+1<=y.toNat):=by omega
      simp[hxy,hyx,a2,a4]
 rw[key];unfold CD;rw[bk,bk]
def aqX (hS:wy E) {ca:aM} (wW:E.fn.get k=some fn) (rW:fn.body=none):Sound E (.call (.fn (.func k) fi ca) aa h) (ack fn (fi++aa++ca) h):=by
 generalize hl:fi++aa++ca=l;unfold ack;split;rotate_left
 ·trivial
 rename_i x y;split;rotate_left
 ·trivial
 rename_i s1 hs1;split;rotate_left
 ·trivial
 rename_i s2 hs2;obtain rfl:=mZ hs1;obtain rfl:=mZ hs2;rw[bk];split;rotate_left
 ·trivial
 rename_i PZ;refine Og (λhb=>⟨qv.refl hb,λm g w u us hE hr iq hu lQ=> ?_⟩)
 cases hu with
 | @fn _ first jk _ _ zV AI=>
 have rX:kH g (first.toList++us++jk.toList) [.str s1,.str s2]:=by rw[<-hl];exact (zV.append lQ).append AI
 have wm:first++us.toArray++jk=(first.toList++us++jk.toList).toArray:=by apply Bq;simp
 let ⟨v1,v2,e,h1,h2⟩:=LC rX;rw[e] at wm;cases h1;cases h2;let ⟨e1,e2⟩:=hS.ext k fn wW rW PZ;refine ⟨{target:=.fn (.func k) jk,args:=first++us.toArray},rfl,.inr (.inr ⟨.int .i64 (Lib.compareBytes s1.data.toList s2.data.toList),w,?_,_,rfl,g,.int _ _ ?_,hr,Fr.refl _ _ _,λ_ _=>rfl,iq⟩)⟩
 ·show (callFunc k (first++us.toArray++jk)).run E.P w=_
  rw[wm,run_callFunc_extern (hS.fn k fn wW).1 (by
   have:fn.name= "internal/bytealg.abigen_runtime_cmpstring" :=by simpa using PZ
   rw[this];decide) (by rw[rW];rfl) e1 e2,Lib.run_compareString]
  rfl
 ·rw[Wn];rfl
def ON (hS:wy E) (jF:∀j,Sound E j (rec j)) (fv:SV) (aa:aM) (h:Hs):Sound E (.call fv aa h) (aya fv E rec aa h):=by
 cases fv with
 |fn f fi ca=>
  cases f with
  |func k=>
   show Sound E _ (@Option.rec SV (λ_=>Out) (Ht E rec k (E.fn.get k) (fi++aa++ca) h) (λv=>.res v h) (oX E k (fi++aa++ca)))
   cases hd:oX E k (fi++aa++ca) with
   |some v=>exact aml hS hd
   |none=>
    show Sound E _ (Ht E rec k (E.fn.get k) (fi++aa++ca) h);cases wW:E.fn.get k with
    |none=>exact akw hS
    |some fn=>
     show Sound E _ (acI E rec k fn (fi++aa++ca) h);unfold acI;cases rW:fn.body with
     |none=>exact aqX hS wW rW
     |some c=>
      show Sound E _ (ay (Nat.ble (fi++aa++ca).length fn.ntmps) (ay (zS fn.name) (.fail "") (Jc E rec fn h.nx h.lg (rec (.code fn.ntmps c (setArgs (fi++aa++ca) 0 .nil) [] ⟨h.hp,h.nx,[]⟩)))) (.fail ""));rw[bk,bk];split;rotate_left
      ·trivial
      rename_i hlen;split
      ·trivial
      rename_i abP;exact aqS hS jF wW rW (λhc=>abP (by rw[hc];decide)) ((cN _ _).1 hlen)
  |_=>trivial
 |_=>trivial
def I5 (hS:wy E):∀(n:Nat) (j:j7),Sound E j (run E n j)
 |0,j=>by cases j<;>trivial
 |n+1,j=>by
  have ih:=I5 hS n;show Sound E j (step E (run E n) j);cases j with
  |code nt c tm mk h=>exact OM hS ih nt c tm mk h
  |ops nt all l tm mk h=>exact SH ih nt all l tm mk h
  |draw nt W all base i M prev l tm h=>exact OL ih nt W all base i M prev l tm h
  |call fv aa h=>exact ON hS ih fv aa h
end
section
variable {E:Env} {g:Gh} {f:Hf} {w:World}
def auT (g:Gh) (w:World):HR g (Tr.nil:Hp).get w:=⟨λid o h=>(by cases h),λi j x y b c d h=>(by cases h)⟩
def ajU (hS:wy E) {n:Nat} {l:List Rs} (ky:run E n (.call (.fn (.func k) [] []) aa ⟨.nil,0,[]⟩)= .gg l) (uM:UX E (.fn (.func k) [] [])=true) (hE:dP E g) (hρ:∀x,g.Z x=none) (lQ:kH g us aa) (m:Nat) (w:World):CallsIn Fence.wide m E.P k us.toArray w λe w'=>∃r∈l,∃u g',e=XL r.fQ u/\VR g' u r.v/\HR g' r.h.hp.get w'/\Fr g (λ_=>none) w g' r.h.hp.get w':=by
 have hs:=I5 hS n (.call (.fn (.func k) [] []) aa ⟨.nil,0,[]⟩);rw[ky] at hs;have hb:Bd ⟨.nil,0,[]⟩:=λx _=>rfl
 let ⟨_,_,sem⟩:=(show Bd ⟨.nil,0,[]⟩->_ from hs) hb;let ⟨k',fi,ca,fn,e1,wW,rW⟩:=J5 uM;cases e1;let ⟨d,ye,hd2⟩:=sem m g w (.func (.func k) #[] #[]) us hE (auT g w) (λx _=>hρ x) (.fn .nil .nil) lQ
 have hd:d={target:=.fn (.func k) #[],args:= #[]++us.toArray}:=by
  rw[Jq] at ye;cases ye;rfl
 subst hd;have Bb:∀(args:hY) (w:World),(invoke (.fn (.func k) #[]) args).run E.P w=(callFunc k (args++ #[])).run E.P w:=λ_ _=>rfl
 rcases ta (hS.fn k fn wW).1 rW (#[]++us.toArray++ #[]) w with ⟨hc,_⟩|hc
 ·rcases hd2 with ⟨k',Kv,q1,q2⟩|⟨l,k',t',Kv,b',q1,_⟩|⟨r,w',q1,_⟩<;>(rw[Bb,hc] at q1;cases q1)
 ·rcases hd2 with ⟨k',Kv,q1,q2⟩|⟨l,k',t',Kv,b',q1,_⟩|⟨r,w',q1,_⟩
  ·rw[Bb,hc] at q1;cases q1;have e: #[]++us.toArray++ #[]=us.toArray:=by simp
   rw[e] at q2;refine CallsIn.mono q2 ?_;rintro e w' ⟨r,hr,u,g',rfl,h1,h2,h3,_,_⟩;exact ⟨r,hr,u,g',rfl,h1,h2,h3⟩
  ·rw[Bb,hc] at q1;cases q1
  ·rw[Bb,hc] at q1;cases q1
def gh0 (P:Program) (η:Nat->Int):Gh:=⟨η,P.cellsOf,λ_=>none,λ_=>0,λ_=>0,λ_=>none⟩
def Fr.old0 {g:Gh} {h':Hf} {w:World} (h:Fr g (λ_=>none) w g' h' w'):∀b,b<w.heap.size->w'.heap[b]? =w.heap[b]? :=
 λb hb=>h.old b hb (λ⟨id,o,c,h1,_⟩=>by cases h1)
def Fr.still {g:Gh} {h':Hf} {w:World} (h:Fr g (λ_=>none) w g' h' w'):CL w w':=⟨h.os,h.tape,h.output,h.size,h.old0⟩
def avs (o:Out):Bool:=match o with| .gg l=>l.all (λr=> !r.fQ&&(match r.v with| .bool b=>b|_=>false))|_=>false
def auZ (hS:wy E) (hE:dP E (gh0 E.P λ_=>0)) {n:Nat} (ky:avs (run E n (.call (.fn (.func k) [] []) [] ⟨.nil,0,[]⟩))=true) (uM:UX E (.fn (.func k) [] [])=true) (abP:∀fn,E.fn.get k=some fn->zS fn.name=false):QG E.P k (.bool true):=by
 unfold avs at ky;split at ky
 ·rename_i l hl;let ⟨k',fi,ca,fn,e1,wW,rW⟩:=J5 uM;cases e1;refine ⟨⟨fn,(hS.fn k fn wW).1,rW,λhc=>by have:=abP fn wW;rw[hc] at this;revert this;decide⟩,λm w=> ?_⟩
  refine CallsIn.mono (ajU hS hl uM hE (λ_=>rfl) .nil m w) ?_
  rintro e w' ⟨r,hr,u,g',rfl,h1,h2,h3⟩;have hb:=dV.1 ky r hr;rw[aY] at hb;let ⟨iY,nO⟩:=hb;have hp:r.fQ=false:=by simpa using iY
  have hv:r.v= .bool true:=by
   split at nO
   ·rename_i e;rw[e,nO]
   ·cases nO
  rw[hp];rw[hv] at h1;refine ⟨u,rfl,λg=> ?_,h3.still⟩
  cases h1;exact .bool true
 ·cases ky
def r9 {Y:Type} (Q:Nat->Y->Prop):Tr Y->(Nat->Nat)->Prop
 | .nil,_=>True
 | .node l v r,J=>(match v with|none=>True|some x=>Q (J 0) x)/\r9 Q l (λj=>J (2*j+1))/\r9 Q r (λj=>J (2*j+2))
def r9.get {Y:Type} {Q:Nat->Y->Prop}:∀{t:Tr Y} {J:Nat->Nat},r9 Q t J->∀i x,t.get i=some x->Q (J i) x
 | .nil,_,_,i,x,h=>by cases h
 | .node l v r,J,⟨h1,h2,h3⟩,i,x,h=>by
  rw[Tr.Co] at h;split at h
  ·rename_i e;subst e;subst h;exact h1
  ·split at h
   ·rename_i e1 e2;have:=r9.get h2 _ x h;have e:2*(i / 2)+1=i:=by omega
    simp only[e] at this;exact this
   ·rename_i e1 e2;have:=r9.get h3 _ x h;have e:2*(i / 2-1)+2=i:=by omega
    simp only[e] at this;exact this
def SC:TypeDesc->UD
 | .bool=>.bool
 | .int k=>.int k
 | .string=>.string
 | .pointer _=>.pointer
 | .slice e=>.slice e
 | .array n e=>.array n e
 | .map k e=>.map k e
 | .struct fs=>.struct (fs.toList.map λf=>FL.mk f.type f.offset (!(f.name== "_")))
 | .func _ _ _=>.func
 | .interface _=>.interface
 |_=>.other
def PR (P:Program):List Field->Bool
 | []=>true
 |f::fs=>(P.info? f.type).isSome&&PR P fs
def aJh (P:Program):TypeDesc->Bool
 | .struct fs=>PR P fs.toList
 | .bool| .int _| .string| .pointer _| .slice _| .array _ _| .map _ _| .func _ _ _| .interface _=>true
 |_=>false
def Qy:eH->Bool
 | []=>true
 |v::vs=>v.oneCell'&&Qy vs
def abp:Value->Bool
 | .agg _=>true
 |_=>false
def avY (agg:Bool) (size:Nat) (z:Value):Bool:=Qy z.cells.toList&&ay agg (abp z&&Nat.beq z.cells.toList.length size) z.oneCell'
def ajz (P:Program) (t:TypeId):Option TI:=
 bE (P.underlying t) (P.info? t) λd f=>au f.zero λz=>ay (aJh P d&&avY (kW (SC d)) f.size z) (some ⟨SC d,f.size,f.bytes,oZ z.cells.toList,f.comparable⟩) none
def Nn {P:Program}:∀{fs:List Field},PR P fs=true->∀f∈fs,(P.info? f.type).isSome=true
 | [],_,f,hf=>by simp at hf
 |x::fs,h,f,hf=>by
  unfold PR at h;rw[aY] at h;rcases bB.1 hf with rfl|hf
  ·exact h.1
  ·exact Nn h.2 f hf
def Qx (g:Gh):∀{vs:eH},Qy vs=true->gF g vs (oZ vs)
 | [],_=>.nil
 |v::vs,h=>by
  unfold Qy at h;rw[aY] at h;exact .cons h.1 (xF g v) (Qx g h.2)
def DM:∀(vs:eH),(oZ vs).length=vs.length
 | []=>rfl
 |v::vs=>by show (uF v::oZ vs).length=_;simp[DM vs]
def anZ {P:Program} {i:TI} (h:ajz P t=some i):CK P t i:=by
 let ⟨d,fi,hd,hf,h⟩:=bc h;let ⟨z,hz,h⟩:=aj h;let ⟨hc,h⟩:=aJ h;cases h;rw[aY] at hc;let ⟨hdb,AG⟩:=hc;unfold avY at AG;rw[aY] at AG;let ⟨ha,AG⟩:=AG;refine ⟨?_,fi,z,hf,rfl,rfl,rfl,hz,⟨λg=>Qx g ha,λCn=> ?_,λCn=> ?_⟩,λCn=> ?_⟩
 ·show KN P t (SC d);cases d<;>first
   |exact hd
   |exact ⟨_,hd⟩
   |exact ⟨_,_,_,hd⟩
   |(
    refine ⟨_,hd,?_,Nn hdb⟩
    refine Bv λf _=> ?_
    by_cases hn:f.name= "_" <;>simp[hn])
   |(cases hdb;done)
 ·have Cn:kW (SC d)=true:=Cn;rw[Cn] at AG;have AG:(abp z&&Nat.beq z.cells.toList.length fi.size)=true:=AG;rw[aY] at AG;cases z<;>first|exact ⟨_,rfl⟩|(cases AG.1;done)
 ·have Cn:kW (SC d)=false:=Cn;rw[Cn] at AG;exact AG
 ·have Cn:kW (SC d)=true:=Cn;rw[Cn] at AG;have AG:(abp z&&Nat.beq z.cells.toList.length fi.size)=true:=AG;rw[aY] at AG;show (oZ z.cells.toList).length=fi.size;rw[DM];exact (beq_iff _ _).1 AG.2
end
end Go.bQ
namespace Go.bQ
variable {rK:List (Nat×Nat)} {Eo stop:aI} {fn':Tr Func} {η:Nat->Int}
section
def Jj (fn:Func):Bool:=fn.body.isSome|| !(fn.name== "internal/bytealg.abigen_runtime_cmpstring")
def aKK (P:Program) (k:Nat) (fn:Func):Prop:=P.funcs[k]? =some fn/\alR fn=true/\(Jj fn=true\/(Extern.findNext fn=none/\Extern.find fn=some Extern.BytealgCompare.compare))
def aKJ (P:Program) (t:Nat) (i:TI):Prop:=ajz P t=some i
structure MA (P:Program) (ty:Tr TI) (fn:Tr Func):Prop where
 ty:r9 (aKJ P) ty id
 fn:r9 (aKK P) fn id
 mix:P.follows .mixedOrders=true
variable {P:Program} {ty:Tr TI} {fn:Tr Func}
def MA.envS (h:MA P ty fn) {lt eq:List (SI×SI×Bool)} {done:List (Nat×SV)} {join:aI} (hd:∀k v,Bg k done=some v->QG P k v) (hs:∀k f,fn'.get k=some f->fn.get k=some f) (hp:∀k c,rM k rK=some c->XT ⟨P,ty,fn',lt,eq,done,join,rK,Eo,stop⟩ k c):wy ⟨P,ty,fn',lt,eq,done,join,rK,Eo,stop⟩:=by
 refine ⟨λk fn hk=> ?_,λk fn hk hb hn=> ?_,h.mix,λk v hk=>hd k v hk,hp⟩
 ·let ⟨h1,h2,_⟩:=r9.get h.fn k fn (hs k fn hk);exact ⟨h1,h2⟩
 ·let ⟨_,_,h3⟩:=r9.get h.fn k fn (hs k fn hk);rcases h3 with h3|h3
  ·unfold Jj at h3;rw[hb,hn] at h3;cases h3
  ·exact h3
def MA.axT (h:MA P ty fn) {lt eq:List (SI×SI×Bool)} {done:List (Nat×SV)} {join:aI} (bD:∀a b r,(a,b,r)∈lt->decide (a.ev η<b.ev η)=r) (heq:∀a b r,(a,b,r)∈eq->decide (a.ev η=b.ev η)=r):
  dP ⟨P,ty,fn,lt,eq,done,join,rK,Eo,stop⟩ (gh0 P η):=
 ⟨λt i hi=>anZ (r9.get h.ty t i hi),λf x hx=>(r9.get h.fn f x hx).1,bD,heq,h.mix,λ_=>rfl⟩
def why (o:Out):String:=match o with| .gg [⟨false,.bool b,_⟩]=>(match b with|true=> "true" |false=> "false")| .gg [_]=> "res" | .gg _=> "ress" | .fail s=>s|_=> "other"
end
end Go.bQ
namespace Go.bQ
open Go.RowKit

end Go.bQ
namespace Go.bQ
variable {P:Program} {fe:Func} {j:j7} {a b:Code} {e:Ex} {c:Cp} {p:Oper} {v:SV} {us:cQ} {f:Nat->Nat} {aa svs:aM} {k off n K d i new:Nat} {fp fo ks:aI} {x:Bool} {Y γ:Type} {tm':Tf}
def alt {Y:Type} (l:List Y):Bool->List Y:= @List.rec Y (λ_=>Bool->List Y) (λ_=> []) (λx _ ih b=>ay b (x::ih false) (ih true)) l
def YM {Y:Type} (d:Nat):List (Option Y)->Tr Y:= @Nat.rec (λ_=>List (Option Y)->Tr Y) (λ_=>.nil) (λ_ ih l=> @List.rec (Option Y) (λ_=>Tr Y) .nil (λx xs _=>.node (ih (alt xs true)) x (ih (alt xs false))) l) d
def Mz {Y:Type}:∀(l:List Y) (j:Nat),(alt l true)[j]? =l[2*j]? /\(alt l false)[j]? =l[2*j+1]?
 | [],j=>⟨by simp[alt],by simp[alt]⟩
 |x::l,j=>by
  have h1:alt (x::l) true=x::alt l false:=rfl;have h2:alt (x::l) false=alt l true:=rfl;rw[h1,h2];constructor
  ·cases j with
   |zero=>rfl
   |succ j=>rw[sg,(Mz l j).2,show 2*(j+1)=(2*j+1)+1 by omega,sg]
  ·rw[(Mz l j).1,sg]
def GN {Y:Type} {Q:Nat->Y->Prop}:∀(d:Nat) (l:List (Option Y)) (J:Nat->Nat),(∀i x,l[i]? =some (some x)->Q (J i) x)->r9 Q (YM d l) J
 |0,_,_,_=>trivial
 |d+1,[],_,_=>trivial
 |d+1,x::xs,J,H=>by
  show r9 Q (.node (YM d (alt xs true)) x (YM d (alt xs false))) J;unfold r9;refine ⟨?_,GN d _ _ λi y h=> ?_,GN d _ _ λi y h=> ?_⟩
  ·cases x with
   |none=>trivial
   |some x=>exact H 0 x rfl
  ·rw[(Mz xs i).1] at h;exact H (2*i+1) y (by rw[sg];exact h)
  ·rw[(Mz xs i).2] at h;exact H (2*i+2) y (by rw[show 2*i+2=(2*i+1)+1 from rfl,sg];exact h)
def awc (P:Program) (n:Nat):Tr TI:=YM 10 ((List.range n).map (ajz P))
def axm (P:Program):Tr Func:=YM 10 (P.funcs.toList.map some)
def aHv (e:Nat) (l:List Bool):Bool:= @List.rec Bool (λ_=>Nat->Bool) (λ_=>true) (λb _ ih k=>ay (b||Nat.beq k e) (ih (k+1)) false) l 0
def Qz {e:Nat}:∀(l:List Bool) (k i:Nat),(@List.rec Bool (λ_=>Nat->Bool) (λ_=>true) (λb _ ih k=>ay (b||Nat.beq k e) (ih (k+1)) false) l k)=true->l[i]? =some false->k+i=e
 | [],k,i,_,h=>by simp at h
 |b::l,k,i,h,hi=>by
  have h:ay (b||Nat.beq k e) (@List.rec Bool (λ_=>Nat->Bool) (λ_=>true) (λb _ ih k=>ay (b||Nat.beq k e) (ih (k+1)) false) l (k+1)) false=true:=h
  cases i with
  |zero=>
   have:b=false:=by simpa using hi
   subst this;cases hk:Nat.beq k e with
   |true=>exact Nat.eq_of_beq_eq_true hk
   |false=>rw[hk] at h;cases h
  |succ i=>
   cases hb:(b||Nat.beq k e) with
   |false=>rw[hb] at h;cases h
   |true=>
    rw[hb] at h;have:=Qz l (k+1) i h (by simpa using hi)
    omega
def aCj (n e:Nat) (h0:(P.funcs.toList.all λf=>alR f)=true) (h1:aHv e (P.funcs.toList.map Jj)=true) (he:P.funcs[e]? =some fe) (h2:Extern.findNext fe=none) (h3:Extern.find fe=some Extern.BytealgCompare.compare) (hm:P.follows .mixedOrders=true):MA P (awc P n) (axm P):=by
 refine ⟨GN _ _ _ λi x h=> ?_,GN _ _ _ λi x h=> ?_,hm⟩
 ·rw[kK] at h;cases hr:(List.range n)[i]? with
  |none=>rw[hr] at h;cases h
  |some j=>
   rw[hr] at h;have hj:ajz P j=some x:=by simpa using h
   have:=cg.1 hr;let ⟨h1,h2⟩:=this;have e:i=j:=by simpa using h2
   subst e;exact hj
 ·rw[kK] at h;cases hr:P.funcs.toList[i]? with
  |none=>rw[hr] at h;cases h
  |some f=>
   rw[hr] at h;have hf:f=x:=by simpa using h
   subst hf;have hm:f∈P.funcs.toList:=cX hr;have hp:P.funcs[i]? =some f:=by simpa using hr
   refine ⟨hp,dV.1 h0 f hm,?_⟩;cases hb:Jj f with
   |true=>exact .inl rfl
   |false=>
    have:=Qz (e:=e) (P.funcs.toList.map Jj) 0 i h1 (by rw[kK,hr];simp[hb])
    have ei:i=e:=by omega
    subst ei;rw[hp] at he;cases he;exact .inr ⟨h2,h3⟩
section
def df (E:Env) (j:j7) (o:Out):Prop:=∃n0,∀n,n0<=n->run E n j=o
variable {E:Env} {nt:Nat} {tm kR tm2:cq} {h h1 h2:Hs} {o:Out}
def df.step (hs:∃n0,∀n,n0<=n->step E (run E n) j=o):df E j o:=by
 let ⟨n0,hs⟩:=hs;refine ⟨n0+1,λn hn=> ?_⟩
 obtain ⟨m,rfl⟩:∃m,n=m+1:=⟨n-1,by omega⟩
 exact hs m (by omega)
def df.skip:df E (.code nt .skip tm [] h) (.code .normal tm [] h):=.step ⟨0,λ_ _=>rfl⟩
def df.exit {id:Nat}:df E (.code nt (.exit id) tm [] h) (.code (.exit id) tm [] h):=.step ⟨0,λ_ _=>rfl⟩
def df.ret:df E (.code nt .ret tm [] h) (.code .ret tm [] h):=.step ⟨0,λ_ _=>rfl⟩
def df.seq {a b:Code} (ha:df E (.code nt a tm [] h) (.code .normal kR [] h1)) (hb:df E (.code nt b kR [] h1) o):df E (.code nt (.seq a b) tm [] h) o:=by
 let ⟨n1,e1⟩:=ha;let ⟨n2,e2⟩:=hb;refine .step ⟨n1+n2,λn hn=> ?_⟩
 show Ei (run E n (.code nt a tm [] h)) (λtm' mk' h'=>run E n (.code nt b tm' mk' h'))=o
 rw[e1 n (by omega)]
 exact e2 n (by omega)
def df.aDn (he:mT e=false) (ha:df E (.code nt a tm [] h) (.code e kR [] h1)):df E (.code nt (.seq a b) tm [] h) (.code e kR [] h1):=by
 let ⟨n1,e1⟩:=ha;refine .step ⟨n1,λn hn=> ?_⟩
 show Ei (run E n (.code nt a tm [] h)) (λtm' mk' h'=>run E n (.code nt b tm' mk' h'))=_
 rw[e1 n hn];cases e<;>first|rfl|(cases he;done)
def df.amo {c:Operand} (hc:bU tm.get c=some (.bool true)) (ha:df E (.code nt a tm [] h) o):df E (.code nt (.cond c a b) tm [] h) o:=by
 let ⟨n1,e1⟩:=ha;refine .step ⟨n1,λn hn=> ?_⟩
 show Qj (bU tm.get c) (run E n (.code nt a tm [] h)) (run E n (.code nt b tm [] h))=o;rw[hc];exact e1 n hn
def df.amp {c:Operand} (hc:bU tm.get c=some (.bool false)) (hb:df E (.code nt b tm [] h) o):df E (.code nt (.cond c a b) tm [] h) o:=by
 let ⟨n1,e1⟩:=hb;refine .step ⟨n1,λn hn=> ?_⟩
 show Qj (bU tm.get c) (run E n (.code nt a tm [] h)) (run E n (.code nt b tm [] h))=o;rw[hc];exact e1 n hn
def df.block {id:Nat} {c:Code} (ha:df E (.code nt c tm [] h) (.code e kR [] h1)):df E (.code nt (.block id c) tm [] h) (.code (leave id e) kR [] h1):=by
 let ⟨n1,e1⟩:=ha;refine .step ⟨n1,λn hn=> ?_⟩
 show Qr id (run E n (.code nt c tm [] h))=_;rw[e1 n hn];rfl
def df.loop {c:Code} (ha:df E (.code nt c tm [] h) (.code .normal kR [] h1)) (hb:df E (.code nt (.loop c) kR [] h1) o):df E (.code nt (.loop c) tm [] h) o:=by
 let ⟨n1,e1⟩:=ha;let ⟨n2,e2⟩:=hb;refine .step ⟨n1+n2,λn hn=> ?_⟩
 show Ei (run E n (.code nt c tm [] h)) (λtm' mk' h'=>run E n (.code nt (.loop c) tm' mk' h'))=o
 rw[e1 n (by omega)]
 exact e2 n (by omega)
def df.aAW {c:Code} (he:mT e=false) (ha:df E (.code nt c tm [] h) (.code e kR [] h1)):df E (.code nt (.loop c) tm [] h) (.code e kR [] h1):=by
 let ⟨n1,e1⟩:=ha;refine .step ⟨n1,λn hn=> ?_⟩
 show Ei (run E n (.code nt c tm [] h)) (λtm' mk' h'=>run E n (.code nt (.loop c) tm' mk' h'))=_
 rw[e1 n hn];cases e<;>first|rfl|(cases he;done)
def df.region {id:Nat} {ops:fk} (ha:df E (.ops nt ops.toList ops.toList tm [] h) o):df E (.code nt (.region id ops false) tm [] h) o:=by
 let ⟨n1,e1⟩:=ha;exact .step ⟨n1,λn hn=>e1 n hn⟩
def df.drawn {id:Nat} {ops:fk} (ha:df E (.draw nt ops.size ops.toList h.nx 0 0 [] ops.toList tm ⟨h.hp,Nat.add h.nx ops.size,h.lg⟩) (.st kR h1)):df E (.code nt (.region id ops true) tm [] h) (.code .normal kR [] h1):=by
 let ⟨n1,e1⟩:=ha;refine .step ⟨n1,λn hn=> ?_⟩
 show stK (run E n (.draw nt ops.size ops.toList h.nx 0 0 [] ops.toList tm ⟨h.hp,Nat.add h.nx ops.size,h.lg⟩)) (λtm' h'=>.code .normal tm' [] h')= .code .normal kR [] h1
 rw[e1 n hn];rfl
def df.aDz {all:bS}:df E (.ops nt all [] tm [] h) (.code .normal tm [] h):=.step ⟨0,λ_ _=>rfl⟩
def df.aDy {all l:bS} (hd:fS nt p.dst=true) (hw:eD all p tm.get=some true) (hc:ir p.op=none) (hdf:U9 p.op=none) (hp:Un p.op=none) (hn:zK p.op=none) (hv:oO E p.op tm.get h.hp.get h.nx=some (v,us)) (ha:df E (.ops nt all l (cM tm p.dst v) [] (h.fin us)) o):df E (.ops nt all (p::l) tm [] h) o:=by
 let ⟨n1,e1⟩:=ha;refine .step ⟨n1,λn gC=> ?_⟩
 show ay (fS nt p.dst) (LB E (run E n) nt all l tm [] h p (eD all p tm.get)) (.fail "")=o;rw[hd,hw];show doK E (run E n) nt all l tm [] h p (ir p.op)=o;rw[hc];show Xl E (run E n) nt all l tm [] h p (zK p.op)=o;rw[hn];show ajr (run E n) nt all l tm [] h p (oO E p.op tm.get h.hp.get h.nx)=o;rw[hv];exact e1 n gC
def df.aAL {all l:bS} (hd:fS nt p.dst=true) (hw:eD all p tm.get=some false) (ha:df E (.ops nt all l (cM tm p.dst (.cm [])) [] h) o):df E (.ops nt all (p::l) tm [] h) o:=by
 let ⟨n1,e1⟩:=ha;refine .step ⟨n1,λn gC=> ?_⟩
 show ay (fS nt p.dst) (LB E (run E n) nt all l tm [] h p (eD all p tm.get)) (.fail "")=o;rw[hd,hw];exact e1 n gC
def df.aAM {all l:bS} {c:Call} {f:SV} (hd:fS nt p.dst=true) (hw:eD all p tm.get=some true) (hc:ir p.op=some c) (hf:pR tm.get c.callee=some f) (has:eI tm.get c.args.toList=some aa) (hv:df E (.call f aa h) (.res v h1)) (ha:df E (.ops nt all l (cM tm p.dst v) [] h1) o):df E (.ops nt all (p::l) tm [] h) o:=by
 let ⟨n1,e1⟩:=ha;let ⟨n2,e2⟩:=hv;refine .step ⟨n1+n2,λn gC=> ?_⟩
 show ay (fS nt p.dst) (LB E (run E n) nt all l tm [] h p (eD all p tm.get)) (.fail "")=o;rw[hd,hw];show doK E (run E n) nt all l tm [] h p (ir p.op)=o;rw[hc];show goK (run E n) h (pR tm.get c.callee) (eI tm.get c.args.toList) (tf (run E n) nt all l tm [] p.dst) (λv h=>.code (.fQ v) tm [] h)=o
 rw[hf,has];show TZ (run E n (.call f aa h)) (tf (run E n) nt all l tm [] p.dst) (λv h=>.code (.fQ v) tm [] h)=o
 rw[e2 n (by omega)]
 exact e1 n (by omega)
def df.jk {fi ca:aM} (hc:df E (.call (.fn (.func k) [] []) (fi++aa++ca) h) o):df E (.call (.fn (.func k) fi ca) aa h) o:=by
 let ⟨n0,hn⟩:=hc;refine .step ⟨n0,λn gC=> ?_⟩
 show @Option.rec SV (λ_=>Out) (Ht E (run E n) k (E.fn.get k) (fi++aa++ca) h) (λv=>.res v h) (oX E k (fi++aa++ca))=o
 have q: @Option.rec SV (λ_=>Out) (Ht E (run E n) k (E.fn.get k) ([]++(fi++aa++ca)++ []) h) (λv=>.res v h) (oX E k ([]++(fi++aa++ca)++ []))=o:=hn (n+1) (by omega)
 rw[nr,pg] at q;exact q
structure MC (E:Env) (k:Nat) (fn:Func) (c:Code):Prop where
 get:E.fn.get k=some fn
 body:fn.body=some c
 num:zS fn.name=false
 done:Bg k E.done=none
def df.call {k:Nat} {fn:Func} {c:Code} (hk:MC E k fn c) {fi aa ca vs:aM} {e:Ex} (hl:Nat.ble (fi++aa++ca).length fn.ntmps=true) (he:PK e=true)
  (hb:df E (.code fn.ntmps c (setArgs (fi++aa++ca) 0 .nil) [] ⟨h.hp,h.nx,[]⟩) (.code e kR [] h1)) (hr:sM E kR.get h1.hp.get fn.results.toList=some vs):
  df E (.call (.fn (.func k) fi ca) aa h) (.res (oneOf vs) ⟨h1.hp,h1.nx,below h.nx h1.lg h.lg⟩):=by
 let ⟨n1,e1⟩:=hb;refine .step ⟨n1,λn gC=> ?_⟩
 show @Option.rec SV (λ_=>Out) (Ht E (run E n) k (E.fn.get k) (fi++aa++ca) h) (λv=>.res v h) (oX E k (fi++aa++ca))=_
 have ed:oX E k (fi++aa++ca)=none:=by
  generalize fi++aa++ca=l;cases l with
  |nil=>exact hk.done
  |cons _ _=>rfl
 rw[ed];show Ht E (run E n) k (E.fn.get k) (fi++aa++ca) h=_;rw[hk.get];show @Option.rec Code (λ_=>Out) (ack fn (fi++aa++ca) h) (λc=>ay (Nat.ble (fi++aa++ca).length fn.ntmps) (ay (zS fn.name) (.fail "") (Jc E (run E n) fn h.nx h.lg (run E n (.code fn.ntmps c (setArgs (fi++aa++ca) 0 .nil) [] ⟨h.hp,h.nx,[]⟩)))) (.fail "")) fn.body=_
 rw[hk.body];show ay (Nat.ble (fi++aa++ca).length fn.ntmps) (ay (zS fn.name) (.fail "") (Jc E (run E n) fn h.nx h.lg (run E n (.code fn.ntmps c (setArgs (fi++aa++ca) 0 .nil) [] ⟨h.hp,h.nx,[]⟩)))) (.fail "")=_;rw[hl,hk.num];show Jc E (run E n) fn h.nx h.lg (run E n (.code fn.ntmps c (setArgs (fi++aa++ca) 0 .nil) [] ⟨h.hp,h.nx,[]⟩))=_;rw[e1 n gC];have key:zP E fn kR [] none h1= .res (oneOf vs) h1:=by
  show @Option.rec aM (λ_=>Out) (.fail fn.name) (λvs=>.res (oneOf vs) h1) (sM E kR.get h1.hp.get fn.results.toList)=_
  rw[hr]
 cases e<;>first
  |(show Qh h.nx h.lg (zP E fn kR [] none h1)=_;rw[key];rfl)
  |(cases he;done)
def df.done (hd:Bg k E.done=some v):df E (.call (.fn (.func k) [] []) [] h) (.res v h):=by
 refine .step ⟨0,λn _=> ?_⟩
 show @Option.rec SV (λ_=>Out) _ (λv=>.res v h) (Bg k E.done)=_
 rw[hd]
def df.fuel (hg:df E j o):∃n,run E n j=o:=by
 let ⟨n,hn⟩:=hg;exact ⟨n,hn n (cF _)⟩
end
section
inductive AV where
 |bool (b:Bool)
 |int (k:IntKind) (n:Int)
 |str (s:ByteArray)
 |slice (e:TypeId) (s:Nat) (rows:List (List AV))
 |jW (e:TypeId) (s:Nat) (rows:List (List AV))
 |iW (e:TypeId) (s:Nat) (rows:List (List AV))
 |iw (cs:List AV)
 |cR
 |il
 |gL
 |iS
 |agg (cs:List AV)
 |cm (vs:List AV)
 |fn (f:FuncId) (first jk:List AV)
 |xu (t:TypeId) (x:AV)
 |loc (K off:Nat)
 |el (K s j f:Nat)
 |ms (K s lo n:Nat)
 |mp (K:Nat)
 |it (K:Nat)
 |undef
 deriving Inhabited
inductive Sh where
 |d
 |o (x:Bool) (l:List Sh)
inductive Bx where
 |flat (e:TypeId) (cs:List AV)
 |rows (z:Bool) (e:TypeId) (s:Nat) (Q:List (List AV))
 |map (es:List (AV×AV))
 |iter (s:ByteArray) (pos:Nat)
 |hole (e:TypeId) (s:Nat) (Q:List (List AV)) (i:Nat) (x:AV)
 |tree (e:TypeId) (s:Nat) (l:List Sh) (Q:List (List AV)) (o:List (Nat×AV))
 deriving Inhabited
abbrev aT:=List (List AV)
abbrev cS:=Nat->List Nat
abbrev bH:=List (Nat×Bx)
abbrev dd:=List (Nat×AV)
abbrev aB:=List AV
abbrev ew:=List Sh
structure Gb where
 Z:Nat->Nat
 κ:Nat->Cp
 O:Nat->Bool
def Gb.no:Gb:=⟨λ_=>0,λ_=>.k 0,λ_=>false⟩
def C7 (e:TypeId) (n:Nat):Cp->Prop
 | .u e'=>e'=e
 | .k m=>n<=m
mutual
inductive VA (F:Hf):Gb->SV->AV->Prop
 |bool {g:_} (b:_):VA F g (.bool b) (.bool b)
 |int {g:_} (k n:_):VA F g (.int k (.lit n)) (.int k n)
 |str {g:_} (s:_):VA F g (.str s) (.str s)
 |p8 {g:_} (e s:_):VA F g .cR (.slice e s [])
 |slice {g id off n c s rows e e' svs:_} (hF:gP (F id) off (n*s)=some (e',svs)) (hc:C7 e n c) (hn:n=rows.length) (hu:∀r∈rows,r.length=s) (hl:off+n*s<=svs.length) (h:bZ F .no ((svs.drop off).take (n*s)) rows.flatten):VA F g (.sl id off n c) (.slice e s rows)
 |xg {g:_} (e s:_):VA F g .cR (.iW e s [])
 |Eg {g:_} (e s:_):VA F g .sle (.iW e s [])
 |iW {g id off n c s rows e e' svs:_} (hF:gP (F id) off (n*s)=some (e',svs)) (hc:C7 e n c) (hn:n=rows.length) (hu:∀r∈rows,r.length=s) (hl:off+n*s<=svs.length) (h:bZ F .no ((svs.drop off).take (n*s)) rows.flatten):VA F g (.sl id off n c) (.iW e s rows)
 |Aq {g:_} (e s:_):VA F g .cR (.jW e s [])
 |jW {g id off n c s rows e e' svs:_} (hF:gP (F id) off (n*s)=some (e',svs)) (hc:C7 e n c) (hn:n=rows.length) (hz:rows≠ []) (hu:∀r∈rows,r.length=s) (hl:off+n*s<=svs.length) (h:bZ F .no ((svs.drop off).take (n*s)) rows.flatten):VA F g (.sl id off n c) (.jW e s rows)
 |iw {g id off cs e svs:_} (hF:gP (F id) off cs.length=some (e,svs)) (hl:off+cs.length<=svs.length) (h:bZ F .no ((svs.drop off).take cs.length) cs):VA F g (.ptr id off) (.iw cs)
 |cR {g:_}:VA F g .cR .cR
 |il {g:_}:VA F g .il .il
 |gL {g:_}:VA F g .gL .gL
 |iS {g:_}:VA F g .iS .iS
 |agg {g cs xs:_} (h:bZ F g cs xs):VA F g (.agg cs) (.agg xs)
 |cm {g cs xs:_} (h:bZ F g cs xs):VA F g (.cm cs) (.cm xs)
 |fn {g:_} (f:_) {a c xs ys:_} (h1:bZ F g a xs) (h2:bZ F g c ys):VA F g (.fn (.func f) a c) (.fn f xs ys)
 |loc {g:_} (K off:_):VA F g (.ptr (g.Z K) off) (.loc K off)
 |el {g K:_} (s j f:_) (hb:g.O K=true):VA F g (.ptr (g.Z K) (j*s+f)) (.el K s j f)
 |qI {g K:_} (s:_) (hb:g.O K=false):VA F g .cR (.ms K s 0 0)
 |ms {g K:_} (s lo n:_) (hb:g.O K=true):VA F g (.sl (g.Z K) (lo*s) n (uP (g.κ K) lo)) (.ms K s lo n)
 |rE {g K:_} (s lo:_) (hl:0<lo):VA F g .sle (.ms K s lo 0)
 |mp {g:_} (K:_):VA F g (.mp (g.Z K)) (.mp K)
 |it {g:_} (K:_):VA F g (.ptr (g.Z K) 0) (.it K)
 |undef {g:_} (v:_):VA F g v .undef
inductive bZ (F:Hf):Gb->aM->aB->Prop
 |nil {g:_}:bZ F g [] []
 |cons {g v x vs xs:_} (h:VA F g v x) (t:bZ F g vs xs):bZ F g (v::vs) (x::xs)
end
def gq (F F':Hf):Prop:=∀id o,F id=some o->F' id=some o
def gq.refl (F:Hf):gq F F:=λ_ _ h=>h
def gq.trans {a b c:Hf} (h:gq a b) (k:gq b c):gq a c:=λid o q=>k id o (h id o q)
def sP {F F':Hf} (hF:gq F F') {id:Nat} {p:TypeId×aM} (q:gP (F id) off n=some p):gP (F' id) off n=some p:=by
 cases hf:F id with
 |none=>rw[hf] at q;cases q
 |some o=>rw[hF id o hf,<-hf];exact q
def DN {F:Hf} {id:Nat} {p:TypeId×aM} (q:gP (F id) off n=some p):∃o,F id=some o:=by
 cases hf:F id with
 |none=>rw[hf] at q;cases q
 |some o=>exact ⟨o,rfl⟩
def jd {o:Option SO} {e:TypeId} (h:o=some (.cells e svs)):gP o off n=some (e,svs):=by rw[h];rfl
def Kn:∀{cs:aM},(∀(j:Nat) (x:SV),cs[j]? =some x->Iv x=false)->vy cs=true
 | [],_=>rfl
 |y::cs,h=>by
  show ay (Iv y) false (vy cs)=true;rw[bk,aA (by rw[h 0 y rfl];decide)]
  exact Kn λj x hx=>h (j+1) x hx
def xJ {o:Option SO} {NS n':Nat} {p:TypeId×aM} (h:gP o off n=some p) (h1:off<=NS) (h2:NS+n'<=off+n):gP o NS n'=some p:=by
 cases o with
 |none=>cases h
 |some x=>cases x with
  |ro cs=>
   let ⟨hd,hx⟩:=aJ (show ay (vy ((cs.drop off).take n)) (some (0,cs)) none=some p from h);show ay (vy ((cs.drop NS).take n')) (some (0,cs)) none=some p;rw[bk,ax (Kn λj x hj=> ?_)]
   ·exact hx
   ·rw[eR] at hj;split at hj
    ·rw[fD] at hj;refine HH hd (j:=NS-off+j) ?_;rw[eR,ax (by omega),fD,show off+(NS-off+j)=NS+j by omega]
     exact hj
    ·cases hj
  |_=>exact h
variable {F F':Hf} {g g':Gb}
mutual
def VA.mono (hF:gq F F'):∀{g v x},VA F g v x->VA F' g v x
 |_,_,_,.bool b=>.bool b
 |_,_,_,.int k n=>.int k n
 |_,_,_,.str s=>.str s
 |_,_,_,.p8 e s=>.p8 e s
 |_,_,_,.xg e s=>.xg e s
 |_,_,_,.Eg e s=>.Eg e s
 |_,_,_,.iW q hc hn hu hl h=>.iW (sP hF q) hc hn hu hl (h.mono hF)
 |_,_,_,.slice q hc hn hu hl h=>.slice (sP hF q) hc hn hu hl (h.mono hF)
 |_,_,_,.Aq e s=>.Aq e s
 |_,_,_,.jW q hc hn hz hu hl h=>.jW (sP hF q) hc hn hz hu hl (h.mono hF)
 |_,_,_,.iw q hl h=>.iw (sP hF q) hl (h.mono hF)
 |_,_,_,.cR=>.cR
 |_,_,_,.il=>.il
 |_,_,_,.gL=>.gL
 |_,_,_,.iS=>.iS
 |_,_,_,.agg h=>.agg (h.mono hF)
 |_,_,_,.cm h=>.cm (h.mono hF)
 |_,_,_,.fn f h1 h2=>.fn f (h1.mono hF) (h2.mono hF)
 |_,_,_,.loc K off=>.loc K off
 |_,_,_,.el s j f hb=>.el s j f hb
 |_,_,_,.qI s hb=>.qI s hb
 |_,_,_,.ms s lo n hb=>.ms s lo n hb
 |_,_,_,.rE s lo hl=>.rE s lo hl
 |_,_,_,.mp K=>.mp K
 |_,_,_,.it K=>.it K
 |_,_,_,.undef v=>.undef v
def bZ.mono (hF:gq F F'):∀{g v x},bZ F g v x->bZ F' g v x
 |_,_,_,.nil=>.nil
 |_,_,_,.cons h t=>.cons (h.mono hF) (t.mono hF)
end
mutual
def dE:AV->aI
 | .agg cs=>eW cs
 | .cm vs=>eW vs
 | .fn _ a c=>eW a++eW c
 | .xu _ x=>dE x
 | .loc K _=> [K]
 | .el K _ _ _=> [K]
 | .ms K _ _ _=> [K]
 | .mp K=> [K]
 | .it K=> [K]
 |_=> []
def eW:aB->aI
 | []=> []
 |x::l=>dE x++eW l
end
def bZ.length:∀{vs xs},bZ F g vs xs->vs.length=xs.length
 |_,_,.nil=>rfl
 |_,_,.cons _ t=>by simp[t.length]
def bZ.get:∀{vs xs},bZ F g vs xs->∀{j:Nat} {x:AV},xs[j]? =some x->∃v,vs[j]? =some v/\VA F g v x
 |_,_,.nil,_,_,h=>by simp at h
 |_,_,.cons h t,j,x,hx=>by
  cases j with
  |zero=>simp at hx;subst hx;exact ⟨_,rfl,h⟩
  |succ j=>simp at hx;let ⟨v,a,b⟩:=t.get hx;exact ⟨v,by simpa using a,b⟩
def bZ.append:∀{vs xs ws ys},bZ F g vs xs->bZ F g ws ys->bZ F g (vs++ws) (xs++ys)
 |_,_,_,_,.nil,k=>k
 |_,_,_,_,.cons h t,k=>.cons h (t.append k)
def bZ.drop:∀{vs xs} (n:Nat),bZ F g vs xs->bZ F g (vs.drop n) (xs.drop n)
 |_,_,0,h=>h
 |_,_,n+1,.nil=>by simpa using .nil
 |_,_,n+1,.cons _ t=>by simpa using t.drop n
def bZ.take:∀{vs xs} (n:Nat),bZ F g vs xs->bZ F g (vs.take n) (xs.take n)
 |_,_,0,_=>by simpa using .nil
 |_,_,n+1,.nil=>by simpa using .nil
 |_,_,n+1,.cons h t=>by simpa using .cons h (t.take n)
def bZ.dU {vs xs ws ys} (h:bZ F g vs xs) (k:bZ F g ws ys) (off:Nat):bZ F g (dU vs off ws) (xs.take off++ys++xs.drop (off+ys.length)):=by
 have:=((h.take off).append k).append (h.drop (off+ys.length));show bZ F g (vs.take off++ws++vs.drop (off+ws.length)) _;rw[k.length];exact this
def vS (e:TypeId) (s n:Nat) (len:Nat):Cp->Prop
 | .u e'=>e'=e/\n*s<=len
 | .k m=>n<=m/\len=m*s
def FM {e:TypeId} {s len:Nat} (hc:vS e s n len c):C7 e n c:=by
 cases c with
 |k m=>exact hc.1
 |u e'=>exact hc.1
def gE {e:TypeId} {s len:Nat} (hc:vS e s n len c):n*s<=len:=by
 cases c with
 |k m=>let ⟨c1,c2⟩:=hc;rw[c2];exact gz _ c1
 |u e'=>let ⟨_,c2⟩:=hc;omega
def tL (x:Bool) (e:TypeId) (s:Nat) (rows:aT):AV:=ay x (.iW e s rows) (.slice e s rows)
mutual
inductive TC (F h:Hf):Sh->SV->AV->aI->Prop
 |d {v x f:_} (q:VA F .no v x) (hf:∀i∈f,h i≠none):TC F h .d v x f
 |any {sh f:_} (v:_) (hf:∀i∈f,h i≠none):TC F h sh v .undef f
 |nil {b l e s y f:_} (hy:y=tL b e s []) (hf:∀i∈f,h i≠none):TC F h (.o b l) .cR y f
 |sl {b l id c svs e s rows fp y n:_} (hy:y=tL b e s rows) (hn:n=rows.length) (hh:h id=some (.cells e svs)) (hu:∀r∈rows,r.length=s) (hc:vS e s n svs.length c) (q:TR F h l (svs.take (n*s)) rows fp):TC F h (.o b l) (.sl id 0 n c) y (id::fp)
inductive jf (F h:Hf):ew->aM->aB->aI->Prop
 |nil {l:_}:jf F h l [] [] []
 |cons {sh l v vs x xs f fs:_} (q:TC F h sh v x f) (t:jf F h l vs xs fs):jf F h (sh::l) (v::vs) (x::xs) (f++fs)
inductive TR (F h:Hf):ew->aM->aT->aI->Prop
 |nil {l:_}:TR F h l [] [] []
 |cons {l vs ws r rows f fs:_} (q:jf F h l vs r f) (t:TR F h l ws rows fs):TR F h l (vs++ws) (r::rows) (f++fs)
end
variable {h h':Hf}
mutual
def TC.keep (hF:gq F F'):∀{sh v x f},TC F h sh v x f->(∀i,i∈f->h' i=h i)->TC F' h' sh v x f
 |_,_,_,_,.d q hf,hk=>.d (q.mono hF) λi hi=>by rw[hk i hi];exact hf i hi
 |_,_,_,_,.any v hf,hk=>.any v λi hi=>by rw[hk i hi];exact hf i hi
 |_,_,_,_,.nil hy hf,hk=>.nil hy λi hi=>by rw[hk i hi];exact hf i hi
 |_,_,_,_,.sl hy hn hh hu hc q,hk=>.sl hy hn ((hk _ (by simp)).trans hh) hu hc (q.keep hF λi hi=>hk i (dR _ hi))
def jf.keep (hF:gq F F'):∀{l vs xs f},jf F h l vs xs f->(∀i,i∈f->h' i=h i)->jf F' h' l vs xs f
 |_,_,_,_,.nil,_=>.nil
 |_,_,_,_,.cons q t,hk=>.cons (q.keep hF λi hi=>hk i (eJ _ hi)) (t.keep hF λi hi=>hk i (ez _ hi))
def TR.keep (hF:gq F F'):∀{l vs rows f},TR F h l vs rows f->(∀i,i∈f->h' i=h i)->TR F' h' l vs rows f
 |_,_,_,_,.nil,_=>.nil
 |_,_,_,_,.cons q t,hk=>.cons (q.keep hF λi hi=>hk i (eJ _ hi)) (t.keep hF λi hi=>hk i (ez _ hi))
end
mutual
def TC.there:∀{sh v x f},TC F h sh v x f->∀i∈f,h i≠none
 |_,_,_,_,.d q hf,i,hi=>hf i hi
 |_,_,_,_,.any v hf,i,hi=>hf i hi
 |_,_,_,_,.nil hy hf,i,hi=>hf i hi
 |_,_,_,_,.sl hy hn hh hu hc q,i,hi=>by
  rcases bB.1 hi with rfl|hi
  ·rw[hh];simp
  ·exact q.there i hi
def jf.there:∀{l vs xs f},jf F h l vs xs f->∀i∈f,h i≠none
 |_,_,_,_,.nil,i,hi=>by cases hi
 |_,_,_,_,.cons q t,i,hi=>by
  rcases ee.1 hi with hi|hi
  ·exact q.there i hi
  ·exact t.there i hi
def TR.there:∀{l vs rows f},TR F h l vs rows f->∀i∈f,h i≠none
 |_,_,_,_,.nil,i,hi=>by cases hi
 |_,_,_,_,.cons q t,i,hi=>by
  rcases ee.1 hi with hi|hi
  ·exact q.there i hi
  ·exact t.there i hi
end
def jf.length:∀{l vs xs f},jf F h l vs xs f->vs.length=xs.length
 |_,_,_,_,.nil=>rfl
 |_,_,_,_,.cons _ t=>by simp[t.length]
def TR.length {s:Nat}:∀{l vs rows f},TR F h l vs rows f->(∀r∈rows,r.length=s)->vs.length=rows.length*s
 |_,_,_,_,.nil,_=>by simp
 |_,_,_,_,.cons q t,hu=>by
  rw[eQ,q.length,hu _ (by simp),t.length λr hr=>hu r (dR _ hr),mM,Nat.succ_mul]
  omega
mutual
def TC.data (hF:gq F F'):∀{sh v x f},TC F h sh v x f->(∀i,i∈f->F' i=h i)->VA F' .no v x
 |_,_,_,_,.d q hf,_=>q.mono hF
 |_,_,_,_,.any v hf,_=>.undef v
 |_,_,_,_,@TC.nil _ _ b l e s y f0 hy hf,_=>by
  subst hy;cases b
  ·exact .p8 e s
  ·exact .xg e s
 |_,_,_,_,@TC.sl _ _ b l id c svs e s rows fp y n hy hn hh hu hc q,hk=>by
  subst hy;subst hn;have hl:0+rows.length*s<=svs.length:=by rw[cE];exact gE hc
  have hv:=q.data hF λi hi=>hk i (dR _ hi)
  have e1:gP (F' id) 0 (rows.length*s)=some (e,svs):=jd ((hk id (by simp)).trans hh)
  have hd:bZ F' .no ((svs.drop 0).take (rows.length*s)) rows.flatten:=by simpa using hv
  cases b
  ·exact .slice e1 (FM hc) rfl hu hl hd
  ·exact .iW e1 (FM hc) rfl hu hl hd
def jf.data (hF:gq F F'):∀{l vs xs f},jf F h l vs xs f->(∀i,i∈f->F' i=h i)->bZ F' .no vs xs
 |_,_,_,_,.nil,_=>.nil
 |_,_,_,_,.cons q t,hk=>.cons (q.data hF λi hi=>hk i (eJ _ hi)) (t.data hF λi hi=>hk i (ez _ hi))
def TR.data (hF:gq F F'):∀{l vs rows f},TR F h l vs rows f->(∀i,i∈f->F' i=h i)->bZ F' .no vs rows.flatten
 |_,_,_,_,.nil,_=>.nil
 |_,_,_,_,.cons q t,hk=>by
  rw[nn];exact (q.data hF λi hi=>hk i (eJ _ hi)).append (t.data hF λi hi=>hk i (ez _ hi))
end
def TR.app:∀{l vs rows f ws A2 f'},TR F h l vs rows f->TR F h l ws A2 f'->TR F h l (vs++ws) (rows++A2) (f++f')
 |_,_,_,_,_,_,_,.nil,k=>k
 |_,_,_,_,_,_,_,.cons q t,k=>by
  rw[kN,kN];exact .cons q (t.app k)
def TR.one {l vs r f} (q:jf F h l vs r f):TR F h l vs [r] f:=by
 have:=TR.cons q (.nil (F:=F) (h:=h) (l:=l));simpa using this
def TR.at:∀{l vs rows f} {j:Nat} {r:aB},TR F h l vs rows f->rows[j]? =some r->∃a v b f1 f0 f2,vs=a++(v++b)/\f=f1++(f0++f2)/\TR F h l a (rows.take j) f1/\jf F h l v r f0/\TR F h l b (rows.drop (j+1)) f2
 |_,_,_,_,j,r,.nil,h=>by simp at h
 |l,_,_,_,0,r,@TR.cons _ _ _ vs ws r0 rows f fs q t,hr=>by
  simp at hr;subst hr;exact ⟨[],vs,ws,[],f,fs,by simp,by simp,.nil,q,by simpa using t⟩
 |l,_,_,_,j+1,r,@TR.cons _ _ _ vs ws r0 rows f fs q t,hr=>by
  simp at hr;let ⟨a,v,b,f1,f0,f2,e1,e2,h1,h2,h3⟩:=t.at hr;refine ⟨vs++a,v,b,f++f1,f0,f2,by rw[e1];simp,by rw[e2];simp,?_,h2,by simpa using h3⟩
  simpa using TR.cons q h1
def TR.cut:∀{l vs rows f} (j:Nat),TR F h l vs rows f->∃a b f1 f2,vs=a++b/\f=f1++f2/\TR F h l a (rows.take j) f1/\TR F h l b (rows.drop j) f2
 |_,vs,rows,f,0,t=>⟨[],vs,[],f,by simp,by simp,by simpa using .nil,by simpa using t⟩
 |_,_,_,_,j+1,.nil=>⟨[],[],[],[],by simp,by simp,by simpa using .nil,by simpa using .nil⟩
 |l,_,_,_,j+1,@TR.cons _ _ _ vs ws r0 rows f fs q t=>by
  let ⟨a,b,f1,f2,e1,e2,h1,h2⟩:=t.cut j;exact ⟨vs++a,b,f++f1,f2,by rw[e1];simp,by rw[e2];simp,by simpa using TR.cons q h1,by simpa using h2⟩
def jf.at:∀{l vs xs f} {k:Nat} {sh:Sh} {x:AV},jf F h l vs xs f->l[k]? =some sh->xs[k]? =some x->∃a v b f1 f0 f2,vs=a++(v::b)/\a.length=k/\f=f1++(f0++f2)/\jf F h (l.take k) a (xs.take k) f1/\TC F h sh v x f0/\jf F h (l.drop (k+1)) b (xs.drop (k+1)) f2
 |_,_,_,_,k,_,_,.nil,_,h=>by simp at h
 |_,_,_,_,0,_,_,@jf.cons _ _ sh l v vs x xs f fs q t,hl,hx=>by
  simp at hl hx;subst hl;subst hx;exact ⟨[],v,vs,[],f,fs,by simp,rfl,by simp,.nil,q,by simpa using t⟩
 |_,_,_,_,k+1,_,_,@jf.cons _ _ sh l v vs x xs f fs q t,hl,hx=>by
  simp at hl hx;let ⟨a,w,b,f1,f0,f2,e1,e0,e2,h1,h2,h3⟩:=t.at hl hx;exact ⟨v::a,w,b,f++f1,f0,f2,by rw[e1];simp,by simp[e0],by rw[e2];simp,by simpa using jf.cons q h1,h2,by simpa using h3⟩
def jf.app:∀{l vs xs f l' ws ys f'},l.length=xs.length->jf F h l vs xs f->jf F h l' ws ys f'->jf F h (l++l') (vs++ws) (xs++ys) (f++f')
 |l,_,_,_,_,_,_,_,e,.nil,k=>by
  obtain rfl:l= []:=by simpa using e
  exact k
 |_,_,_,_,_,_,_,_,e,.cons q t,k=>by
  rw[kN];exact .cons q (t.app (by simpa using e) k)
def C1 (F:Hf) (g:Gb) (svs:aM):dd->Prop
 | []=>True
 |p::l=>(∃v,svs[p.1]? =some v/\VA F g v p.2)/\C1 F g svs l
def l4 (f:AV->AV):dd->dd
 | []=> []
 |p::l=>(p.1,f p.2)::l4 f l
def vN:dd->aI
 | []=> []
 |p::l=>dE p.2++vN l
def C1.map {svs:aM} {f:AV->AV}:∀{o:dd},C1 F g svs o->(∀p∈o,∀v,VA F g v p.2->VA F' g' v (f p.2))->C1 F' g' svs (l4 f o)
 | [],_,_=>trivial
 |p::l,⟨⟨v,h1,h2⟩,h3⟩,k=>⟨⟨v,h1,k p (by simp) v h2⟩,C1.map h3 λq hq=>k q (dR _ hq)⟩
def G6:∀o:dd,l4 (λx=>x) o=o
 | []=>rfl
 |p::l=>by show (p.1,p.2)::l4 _ l=_;rw[G6 l]
def C1.mono {o:dd} (hF:gq F F') (q:C1 F g svs o):C1 F' g svs o:=by
 have:=q.map (g':=g) (f:=λx=>x) λp _ v hv=>hv.mono hF
 rwa[G6] at this
def Dr:∀{o:dd} {p:Nat×AV},p∈o->∀k∈dE p.2,k∈vN o
 |q::l,p,hp,k,hk=>by
  rcases bB.1 hp with rfl|hp
  ·exact eJ _ hk
  ·exact ez _ (Dr hp k hk)
inductive fC (F:Hf) (g:Gb) (h:Hf) (K:Nat):Bx->aI->Prop
 |flat {e cs svs:_} (hh:h (g.Z K)=some (.cells e svs)) (q:bZ F g svs cs):fC F g h K (.flat e cs) [g.Z K]
 |dD {z e s:_} (hb:g.O K=false):fC F g h K (.rows z e s []) []
 |rows {z e s Q svs:_} (hb:g.O K=true) (hh:h (g.Z K)=some (.cells e svs)) (hz:z=true->Q≠ []) (hu:∀r∈Q,r.length=s) (hc:vS e s Q.length svs.length (g.κ K)) (q:bZ F .no (svs.take (Q.length*s)) Q.flatten):fC F g h K (.rows z e s Q) [g.Z K]
 |map {es ms c:_} (hh:h (g.Z K)=some (.map ms c)) (hk:bZ F .no (ms.map (·.1)) (es.map (·.1))) (hv:bZ F .no (ms.map (·.2.1)) (es.map (·.2))):fC F g h K (.map es) [g.Z K]
 |iter {s pos:_} (hh:h (g.Z K)=some (.pL s pos)):fC F g h K (.iter s pos) [g.Z K]
 |hole {e s Q i x svs v:_} (hb:g.O K=true) (hh:h (g.Z K)=some (.cells e svs)) (hu:∀r∈Q,r.length=s) (hc:vS e s Q.length svs.length (g.κ K)) (q:bZ F .no (svs.take (Q.length*s)) Q.flatten) (hi:i<Q.length*s) (hv:svs[i]? =some v) (hx:VA F g v x):fC F g h K (.hole e s Q i x) [g.Z K]
 |tree {e s l Q o svs fs:_} (hb:g.O K=true) (hh:h (g.Z K)=some (.cells e svs)) (hu:∀r∈Q,r.length=s) (hc:vS e s Q.length svs.length (g.κ K)) (q:TR F h l (svs.take (Q.length*s)) Q fs) (nd:(g.Z K::fs).Nodup) (ho:C1 F g svs o):fC F g h K (.tree e s l Q o) (g.Z K::fs)
 |iA {e s l:_} (hb:g.O K=false):fC F g h K (.tree e s l [] []) []
def fC.keep {h h':Hf} {b:Bx} (hF:gq F F') (q:fC F g h K b fp) (hk:∀i,i∈fp->h' i=h i):fC F' g h' K b fp:=by
 cases q with
 |flat hh q=>exact .flat ((hk _ (by simp)).trans hh) (q.mono hF)
 |dD hb=>exact .dD hb
 |rows hb hh hz hu hc q=>exact .rows hb ((hk _ (by simp)).trans hh) hz hu hc (q.mono hF)
 |map hh q1 q2=>exact .map ((hk _ (by simp)).trans hh) (q1.mono hF) (q2.mono hF)
 |iter hh=>exact .iter ((hk _ (by simp)).trans hh)
 |hole hb hh hu hc q hi hv hx=>exact .hole hb ((hk _ (by simp)).trans hh) hu hc (q.mono hF) hi hv (hx.mono hF)
 |iA hb=>exact .iA hb
 |tree hb hh hu hc q nd ho=>exact .tree hb ((hk _ (by simp)).trans hh) hu hc (q.keep hF λi hi=>hk i (dR _ hi)) nd (ho.mono hF)
def fC.there {h:Hf} {b:Bx} (q:fC F g h K b fp):∀i∈fp,h i≠none:=by
 intro i hi;have key:∀{o:SO},h (g.Z K)=some o->i∈ [g.Z K]->h i≠none:=λhh hi=>by rw[cB.1 hi,hh];simp
 cases q with
 |dD hb=>cases hi
 |flat hh q=>exact key hh hi
 |rows hb hh hz hu hc q=>exact key hh hi
 |map hh q1 q2=>exact key hh hi
 |iter hh=>exact key hh hi
 |hole hb hh hu hc q mw hv hx=>exact key hh hi
 |iA hb=>cases hi
 |tree hb hh hu hc q nd ho=>
  rcases bB.1 hi with e|hi
  ·exact key hh (by simp[e])
  ·exact q.there i hi
def kg (g g':Gb) (ks:aI):Prop:=∀k∈ks,g'.Z k=g.Z k/\g'.κ k=g.κ k/\g'.O k=g.O k
def qF (g g':Gb) (f:Nat->Nat) (ks:aI):Prop:=∀k∈ks,g'.Z (f k)=g.Z k/\g'.κ (f k)=g.κ k/\g'.O (f k)=g.O k
def qF.left {a b:aI} (h:qF g g' f (a++b)):qF g g' f a:=λk hk=>h k (eJ _ hk)
def qF.right {a b:aI} (h:qF g g' f (a++b)):qF g g' f b:=λk hk=>h k (ez _ hk)
mutual
def nw (f:Nat->Nat):AV->AV
 | .agg cs=>.agg (l3 f cs)
 | .cm vs=>.cm (l3 f vs)
 | .fn i a c=>.fn i (l3 f a) (l3 f c)
 | .xu t x=>.xu t (nw f x)
 | .loc K off=>.loc (f K) off
 | .el K s j i=>.el (f K) s j i
 | .ms K s lo n=>.ms (f K) s lo n
 | .mp K=>.mp (f K)
 | .it K=>.it (f K)
 |x=>x
def l3 (f:Nat->Nat):aB->aB
 | []=> []
 |x::l=>nw f x::l3 f l
end
mutual
def VA.fO {f:Nat->Nat}:∀{v x},VA F g v x->qF g g' f (dE x)->VA F g' v (nw f x)
 |_,_,.bool b,_=>.bool b
 |_,_,.int k n,_=>.int k n
 |_,_,.str s,_=>.str s
 |_,_,.p8 e s,_=>.p8 e s
 |_,_,.xg e s,_=>.xg e s
 |_,_,.Eg e s,_=>.Eg e s
 |_,_,.iW q hc hn hu hl h,_=>.iW q hc hn hu hl h
 |_,_,.slice q hc hn hu hl h,_=>.slice q hc hn hu hl h
 |_,_,.Aq e s,_=>.Aq e s
 |_,_,.jW q hc hn hz hu hl h,_=>.jW q hc hn hz hu hl h
 |_,_,.iw q hl h,_=>.iw q hl h
 |_,_,.cR,_=>.cR
 |_,_,.il,_=>.il
 |_,_,.gL,_=>.gL
 |_,_,.iS,_=>.iS
 |_,_,.agg h,k=>.agg (h.fO k)
 |_,_,.cm h,k=>.cm (h.fO k)
 |_,_,.fn i h1 h2,k=>.fn i (h1.fO (qF.left k)) (h2.fO (qF.right k))
 |_,_,.loc K off,k=>by
  have:=(k K (by simp[dE])).1
  rw[<-this];exact .loc (f K) off
 |_,_,.el (K:=K) s j i hb,k=>by
  let ⟨k1,_,k3⟩:=k K (by simp[dE])
  rw[<-k1];exact .el s j i (k3.trans hb)
 |_,_,.qI (K:=K) s hb,k=>.qI s ((k K (by simp[dE])).2.2.trans hb)
 |_,_,.ms (K:=K) s lo n hb,k=>by
  let ⟨k1,k2,k3⟩:=k K (by simp[dE])
  rw[<-k1,<-k2];exact .ms s lo n (k3.trans hb)
 |_,_,.rE s lo hl,_=>.rE s lo hl
 |_,_,.mp K,k=>by
  have:=(k K (by simp[dE])).1
  rw[<-this];exact .mp (f K)
 |_,_,.it K,k=>by
  have:=(k K (by simp[dE])).1
  rw[<-this];exact .it (f K)
 |_,_,.undef v,_=>.undef v
def bZ.fO {f:Nat->Nat}:∀{v x},bZ F g v x->qF g g' f (eW x)->bZ F g' v (l3 f x)
 |_,_,.nil,_=>.nil
 |_,_,.cons h t,k=>.cons (h.fO (qF.left k)) (t.fO (qF.right k))
end
mutual
def Fc:∀x,nw (λk=>k) x=x
 | .agg cs=>bA AV.agg (vZ cs)
 | .cm cs=>bA AV.cm (vZ cs)
 | .fn i a c=>by show AV.fn i (l3 _ a) (l3 _ c)=_;rw[vZ a,vZ c]
 | .xu t x=>bA (AV.xu t) (Fc x)
 | .bool _| .int _ _| .str _| .slice _ _ _| .jW _ _ _| .iW _ _ _| .iw _| .cR| .il| .gL| .iS| .loc _ _| .el _ _ _ _| .ms _ _ _ _| .mp _| .it _| .undef=>rfl
def vZ:∀x,l3 (λk=>k) x=x
 | []=>rfl
 |x::l=>by show nw _ x::l3 _ l=_;rw[Fc x,vZ l]
end
def VA.gb {v x} (h:VA F g v x) (k:kg g g' (dE x)):VA F g' v x:=by
 have:=h.fO (g':=g') (f:=λk=>k) k
 rwa[Fc] at this
def bZ.gb {v x} (h:bZ F g v x) (k:kg g g' (eW x)):bZ F g' v x:=by
 have:=h.fO (g':=g') (f:=λk=>k) k
 rwa[vZ] at this
def Bx.keys:Bx->aI
 | .flat _ cs=>eW cs
 | .hole _ _ _ _ x=>dE x
 | .tree _ _ _ _ o=>vN o
 |_=> []
def Bx.fO (f:Nat->Nat):Bx->Bx
 | .flat e cs=>.flat e (l3 f cs)
 | .hole e s Q i x=>.hole e s Q i (nw f x)
 | .tree e s l Q o=>.tree e s l Q (l4 (nw f) o)
 |b=>b
def fC.fO {h:Hf} {b:Bx} (q:fC F g h K b fp) (hK:qF g g' f [K]) (hk:qF g g' f b.keys):fC F g' h (f K) (b.fO f) fp:=by
 let ⟨k1,k2,k3⟩:=hK K (by simp)
 cases q with
 |flat hh q=>rw[<-k1] at hh ⊢;exact .flat hh (q.fO hk)
 |dD hb=>exact .dD (k3.trans hb)
 |rows hb hh hz hu hc q=>rw[<-k1] at hh ⊢;rw[<-k2] at hc;exact .rows (k3.trans hb) hh hz hu hc q
 |map hh q1 q2=>rw[<-k1] at hh ⊢;exact .map hh q1 q2
 |iter hh=>rw[<-k1] at hh ⊢;exact .iter hh
 |hole hb hh hu hc q hi hv hx=>rw[<-k1] at hh ⊢;rw[<-k2] at hc;exact .hole (k3.trans hb) hh hu hc q hi hv (hx.fO hk)
 |iA hb=>exact .iA (k3.trans hb)
 |tree hb hh hu hc q nd ho=>
  rw[<-k1] at hh nd ⊢;rw[<-k2] at hc;exact .tree (k3.trans hb) hh hu hc q nd (ho.map λp hp v hv=>hv.fO λk gO=>hk k (Dr hp k gO))
def Bx.aDu:∀b:Bx,b.fO (λk=>k)=b
 | .flat e cs=>bA (Bx.flat e) (vZ cs)
 | .hole e s Q i x=>bA (Bx.hole e s Q i) (Fc x)
 | .tree e s l Q o=>by
  have e1:∀o:dd,l4 (nw λk=>k) o=o:=λo=>by
   induction o with
   |nil=>rfl
   |cons p l ih=>show (p.1,nw _ p.2)::l4 _ l=_;rw[Fc,ih]
  show Bx.tree e s l Q (l4 _ o)=_;rw[e1]
 | .rows _ _ _ _| .map _| .iter _ _=>rfl
def fC.gb {h:Hf} {b:Bx} (q:fC F g h K b fp) (hK:kg g g' [K]) (hk:kg g g' b.keys):fC F g' h K b fp:=by
 have:=q.fO (g':=g') (f:=λk=>k) hK hk
 rwa[Bx.aDu] at this
end
section
variable {F F' h h':Hf}
def jf.sh:∀{l vs xs f} {k:Nat},jf F h l vs xs f->k<xs.length->∃sh,l[k]? =some sh
 |_,_,_,_,k,.nil,hk=>by cases hk
 |_,_,_,_,0,@jf.cons _ _ sh l v vs x xs f fs q t,hk=>⟨sh,rfl⟩
 |_,_,_,_,k+1,@jf.cons _ _ sh l v vs x xs f fs q t,hk=>by
  let ⟨s,hs⟩:=t.sh (k:=k) (by simpa using hk)
  exact ⟨s,by simpa using hs⟩
def jf.focus {l vs xs f} {x:AV} (q:jf F h l vs xs f) (hx:xs[k]? =some x):∃sh v f1 f0 f2,l[k]? =some sh/\vs[k]? =some v/\f=f1++(f0++f2)/\TC F h sh v x f0/\∀w y IB,TC F h sh w y IB->jf F h l (vs.set k w) (xs.set k y) (f1++(IB++f2)):=by
 let ⟨sh,hl⟩:=q.sh (cg.1 hx).1;let ⟨a,v,b,f1,f0,f2,e1,e0,e2,h1,h2,h3⟩:=q.at hl hx;have rG:=(cg.1 hx).1;have hkl:=(cg.1 hl).1;refine ⟨sh,v,f1,f0,f2,hl,by rw[e1,qW (by omega),e0,oJ];rfl,e2,h2,λw y IB h4=> ?_⟩
 have e3:vs.set k w=a++(w::b):=by rw[e1,uv _ _ (by omega),e0,oJ];rfl
 have e4:xs.set k y=xs.take k++(y::xs.drop (k+1)):=by rw[II,ax rG]
 have e5:l=l.take k++(sh::l.drop (k+1)):=by
  have:=cg.1 hl;let ⟨p,hp⟩:=this;rw[<-hp,List.getElem_cons_drop,wD]
 have:=h1.app (by rw[dx,dx];omega) (jf.cons h4 h3)
 rw[e3,e4];rw[<-e5] at this;exact this
def TR.focus {s:Nat} {l vs rows f} {j:Nat} {r:aB} (q:TR F h l vs rows f) (hu:∀r∈rows,r.length=s) (hr:rows[j]? =some r):∃a v b f1 f0 f2,vs=a++(v++b)/\a.length=j*s/\v.length=s/\f=f1++(f0++f2)/\jf F h l v r f0/\∀w y IB,jf F h l w y IB->TR F h l (a++(w++b)) (rows.set j y) (f1++(IB++f2)):=by
 let ⟨a,v,b,f1,f0,f2,e1,e2,h1,h2,h3⟩:=q.at hr;have hj:=(cg.1 hr).1;refine ⟨a,v,b,f1,f0,f2,e1,?_,?_,e2,h2,λw y IB h4=> ?_⟩
 ·rw[h1.length λr fY=>hu r (oH fY),dx,eg (by omega)]
 ·rw[h2.length];exact hu r (cX hr)
 ·rw[II,ax hj];exact h1.app (.cons h4 h3)
def TR.cell {s:Nat} {l vs rows f} {j:Nat} {r:aB} {x:AV} (q:TR F h l vs rows f) (hu:∀r∈rows,r.length=s) (hr:rows[j]? =some r) (hx:r[k]? =some x):∃sh v f1 f0 f2,l[k]? =some sh/\vs[j*s+k]? =some v/\f=f1++(f0++f2)/\TC F h sh v x f0/\∀w y IB,TC F h sh w y IB->TR F h l (vs.set (j*s+k) w) (rows.set j (r.set k y)) (f1++(IB++f2)):=by
 let ⟨a,v,b,f1,f0,f2,e1,e2,e3,e4,h1,h2⟩:=q.focus hu hr;let ⟨sh,w0,g1,g0,g2,k1,k2,k3,k4,k5⟩:=h1.focus hx;have hk:k<v.length:=(cg.1 k2).1;refine ⟨sh,w0,f1++g1,g0,g2++f2,k1,?_,by rw[e4,k3];simp,k4,λw y IB h4=> ?_⟩
 ·rw[e1,qW (by omega),e2,EN,yn hk]
  exact k2
 ·have e5:vs.set (j*s+k) w=a++(v.set k w++b):=by
   rw[e1,uv _ _ (by omega),e2,EN,List.set_append_left _ _ hk]
  have:=h2 _ _ _ (k5 w y IB h4);rw[e5];simpa using this
end
section
variable {F F':Hf} {g g':Gb}
structure LS where
 ts:dd
 bs:bH
def lk {Y:Type} (t:Nat) (l:List (Nat×Y)):Option Y:=List.rec none (λp _ ih=>ay (Nat.beq t p.1) (some p.2) ih) l
def cr (t k:Nat) (x:Y) (l:List (Nat×Y)):lk t ((k,x)::l)=if t=k then some x else lk t l:=by
 show ay (Nat.beq t k) (some x) (lk t l)=_;rw[bk];by_cases h:t=k
 ·rw[ax h,ax ((beq_iff _ _).2 h)]
 ·rw[aA h,aA (λe=>h ((beq_iff _ _).1 e))]
def mm {Y O:Type} (f:Y->O) (t:Nat):∀l:List (Nat×Y),lk t (l.map λp=>(p.1,f p.2))=(lk t l).map f
 | []=>rfl
 |(k,x)::l=>by
  rw[fM,cr,cr,mm f t l];split<;>rfl
def nX {Y:Type} {t:Nat} {x:Y}:∀{l:List (Nat×Y)},lk t l=some x->(t,x)∈l
 | [],h=>by cases h
 |(k,y)::l,h=>by
  rw[cr] at h;split at h
  ·rename_i e;cases h;rw[e];exact gw
  ·exact dR _ (nX h)
structure Bs where
 hp:Hf
 F:Hf
 g:Gb
 nx:Nat
 pk:Nat->Bool
 J:cS
def fN (k:Nat):Nat:=Nat.mod k 4294967296
def iu (k:Nat):Bool:=Nat.ble 1152921504606846976 k
def lA (k:Nat):Bool:=Nat.beq (Nat.mod (Nat.div k 4294967296) 2) 0
def Bs.ps (B:Bs) (k i:Nat):Prop:=B.pk k=true/\∃k',fN k'=fN k/\i∈B.J k'
def Bs.pn (B:Bs) (k:Nat):Bool:=ay (B.pk k) (lA k) false
def Bs.Pe {B:Bs} (h:B.pk k=false):B.pn k=false:=by
 show ay (B.pk k) (lA k) false=false;rw[h]
def Bs.akz {B:Bs} (h:B.pn k=true):B.pk k=true:=by
 cases hk:B.pk k with
 |true=>rfl
 |false=>rw[Bs.Pe hk] at h;cases h
structure Rel (B:Bs) (F:Hf) (g:Gb) (J:cS) (s:LS) (tm:Tf) (h:Hs):Prop where
 tm:∀t x,lk t s.ts=some x->x≠ .undef->∃v,tm t=some v/\VA F g v x
 bx:∀k b,lk k s.bs=some b->fC F g h.hp.get k b (J k)
 dj:∀k k' b b',lk k s.bs=some b->lk k' s.bs=some b'->k≠k'->∀i∈J k,i∉J k'
 nf:∀k b,lk k s.bs=some b->∀i∈J k,F i=none
 sub:gq F h.hp.get
 bd:∀x,h.nx<=x->h.hp.get x=none
 nx:B.nx<=h.nx
 old:∀x,x<B.nx->(∀k,¬B.ps k x)->h.hp.get x=B.hp x
 f0:gq B.F F
 fn:∀id o,F id=some o->B.F id=some o\/B.nx<=id
 l6:∀k b,lk k s.bs=some b->∀i∈J k,B.ps k i\/B.nx<=i
 lg:∀x∈h.lg,(∃k,B.ps k x)\/B.nx<=x
 Ip:∀k,B.pn k=true->kg B.g g [k]
variable {B:Bs} {J:cS} {s s':LS} {tm:Tf} {h:Hs}
def LS.put (s:LS) (d:Nat) (x:AV):LS:=⟨(d,x)::s.ts,s.bs⟩
def Rel.put (r:Rel B F g J s tm h) {x:AV} (ht:∀t,tm' t=if t=d then some v else tm t) (hv:x≠ .undef->VA F g v x):Rel B F g J (s.put d x) tm' h:=by
 refine {r with tm:=λt y hy hn=> ?_}
 rw[show (s.put d x).ts=(d,x)::s.ts from rfl,cr] at hy;rw[ht];split at hy
 ·rename_i e;cases hy;exact ⟨v,by rw[ax e],hv hn⟩
 ·rename_i e;rw[aA e];exact r.tm t y hy hn
def Rel.bD (r:Rel B F g J s tm h) (hi:h.hp.get i≠none):i<h.nx:=by
 by_cases hx:i<h.nx
 ·exact hx
 ·exact absurd (r.bd i (by omega)) hi
def Rel.lt (r:Rel B F g J s tm h) {b:Bx} (hb:lk k s.bs=some b):∀i∈J k,i<h.nx:=λi hi=>r.bD ((r.bx k b hb).there i hi)
def Rel.flt (r:Rel B F g J s tm h) {o:SO} (hf:F i=some o):i<h.nx:=r.bD (by rw[r.sub i o hf];simp)
def WV (x y:AV):Prop:=y= .undef\/∀(F:Hf) (g:Gb) (v:SV),VA F g v x->VA F g v y
def WV.refl (x:AV):WV x x:=.inr λ_ _ _ h=>h
def WB (b b':Bx):Prop:=∀(F:Hf) (g:Gb) (h:Hf) (K:Nat) (fp:aI),fC F g h K b fp->fC F g h K b' fp
def WB.refl (b:Bx):WB b b:=λ_ _ _ _ _ h=>h
def vd (s s':LS):Prop:=(∀t y,lk t s'.ts=some y->y= .undef\/∃x,lk t s.ts=some x/\WV x y)/\∀k b',lk k s'.bs=some b'->∃b,lk k s.bs=some b/\WB b b'
def Rel.less (r:Rel B F g J s tm h) (hw:vd s s'):Rel B F g J s' tm h:=by
 let ⟨h1,h2⟩:=hw;refine {r with tm:=λt y hy hn=> ?_,bx:=λk b hb=> ?_,dj:=λk k' b b' hb cn=> ?_,nf:=λk b hb=> ?_,l6:=λk b hb=> ?_}
 ·rcases h1 t y hy with e|⟨x,hx,e|hw⟩
  ·exact absurd e hn
  ·exact absurd e hn
  ·by_cases hu:x= .undef
   ·subst hu;exact absurd (hw F .no (.bool true) (.undef _)) (by
     intro h4;have h1:=hw F g .cR (.undef _);cases y<;>first|exact hn rfl|(cases h1;done)|(cases h4;done))
   ·let ⟨v,v1,v2⟩:=r.tm t x hx hu;exact ⟨v,v1,hw F g v v2⟩
 ·let ⟨b0,fT,w⟩:=h2 k b hb;exact w _ _ _ _ _ (r.bx k b0 fT)
 ·let ⟨c,hc,_⟩:=h2 k b hb;let ⟨c',wX,_⟩:=h2 k' b' cn;exact r.dj k k' c c' hc wX
 ·let ⟨b0,fT,_⟩:=h2 k b hb;exact r.nf k b0 fT
 ·let ⟨b0,fT,_⟩:=h2 k b hb;exact r.l6 k b0 fT
def LS.free (s:LS) (K:Nat):Prop:=(∀t x,lk t s.ts=some x->K∉dE x)/\∀k b,k≠K->lk k s.bs=some b->K∉b.keys
def LS.set (s:LS) (K:Nat) (b:Bx):LS:=⟨s.ts,(K,b)::s.bs⟩
def Rel.chg (r:Rel B F g J s tm h) {b':Bx} {h':Hs} (hfo:∀i∈fo,∃b,lk K s.bs=some b/\i∈J K) (AM:∀i∈fp,i∈fo\/(h.hp.get i=none/\B.nx<=i)) (hh:∀x,x∉fo->x∉fp->h'.hp.get x=h.hp.get x) (iq:h.nx<=h'.nx) (hO:∀x,h'.nx<=x->h'.hp.get x=none) (hlg:∀x∈h'.lg,x∈h.lg\/x∈fo\/x∈fp) (cn:fC F g' h'.hp.get K b' fp) (hg:g'=g\/(s.free K/\B.pn K=false/\∀k,k≠K->kg g g' [k])):Rel B F g' (λk=>if k=K then fp else J k) (s.set K b') tm h':=by
 have nfo:∀i∈fo,F i=none:=λi hi=>by let ⟨b,hb,hi⟩:=hfo i hi;exact r.nf K b hb i hi
 have nfp:∀i∈fp,F i=none:=λi hi=>(AM i hi).elim (nfo i) λhx=>by
  cases hf:F i with
  |none=>rfl
  |some o=>rw[r.sub i o hf] at hx;cases hx.1
 have mfo:∀i∈fo,B.ps K i\/B.nx<=i:=λi hi=>by let ⟨b,hb,hi⟩:=hfo i hi;exact r.l6 K b hb i hi
 have mfp:∀i∈fp,B.ps K i\/B.nx<=i:=λi hi=>(AM i hi).elim (mfo i) λhx=>.inr hx.2
 have dfo:∀k b,k≠K->lk k s.bs=some b->∀i∈J k,i∉fo:=λk b bY hb i hi hc=>by
  let ⟨b2,nO,tZ⟩:=hfo i hc;exact r.dj k K b b2 hb nO bY i hi tZ
 have dfp:∀k b,k≠K->lk k s.bs=some b->∀i∈J k,i∉fp:=λk b bY hb i hi hc=>(AM i hc).elim (dfo k b bY hb i hi) λhx=>(r.bx k b hb).there i hi hx.1
 have Iu:∀{k b1},lk k (s.set K b').bs=some b1->(k=K/\b1=b')\/(k≠K/\lk k s.bs=some b1):=λ{k b1} hk=>by
  rw[show (s.set K b').bs=(K,b')::s.bs from rfl,cr] at hk;split at hk
  ·cases hk;exact .inl ⟨by assumption,rfl⟩
  ·exact .inr ⟨by assumption,hk⟩
 have gs:∀ks:aI,(s.free K->K∉ks)->kg g g' ks:=λks hk k oC=>by
  rcases hg with rfl|⟨h1,_,h2⟩
  ·exact ⟨rfl,rfl,rfl⟩
  ·exact h2 k (λe=>hk h1 (e ▸ oC)) k (by simp)
 refine ⟨λt x hx hn=> ?_,λk b hb=> ?_,λk k' b b2 hb nO bY i hi=> ?_,λk b hb i hi=> ?_,λi o ho=> ?_,hO,iL r.nx iq,λx hx hp=> ?_,r.f0,r.fn,λk b hb i hi=> ?_,λx hx=> ?_,λk hk=> ?_⟩
 ·let ⟨v,v1,v2⟩:=r.tm t x hx hn;exact ⟨v,v1,v2.gb (gs _ λhf=>hf.1 t x hx)⟩
 ·rcases Iu hb with ⟨rfl,rfl⟩|⟨bY,hb⟩
  ·rw[ax rfl];exact cn
  ·rw[aA bY];refine fC.keep (gq.refl F) ((r.bx k b hb).gb (gs _ λ_=>by simpa using zl bY) (gs _ λhf=>hf.2 k b bY hb)) λi hi=>hh i (dfo k b bY hb i hi) (dfp k b bY hb i hi)
 ·rcases Iu hb with ⟨e1,_⟩|⟨n1,c1⟩<;>rcases Iu nO with ⟨e2,_⟩|⟨n2,c2⟩
  ·exact absurd (e1.trans e2.symm) bY
  ·rw[ax e1] at hi;rw[aA n2];exact λhc=>dfp k' b2 n2 c2 i hc hi
  ·rw[aA n1] at hi;rw[ax e2];exact dfp k b n1 c1 i hi
  ·rw[aA n1] at hi;rw[aA n2];exact r.dj k k' b b2 c1 c2 bY i hi
 ·rcases Iu hb with ⟨rfl,rfl⟩|⟨n1,hb⟩
  ·rw[ax rfl] at hi;exact nfp i hi
  ·rw[aA n1] at hi;exact r.nf k b hb i hi
 ·rw[hh i (λhc=>by rw[nfo i hc] at ho;cases ho) (λhc=>by rw[nfp i hc] at ho;cases ho)]
  exact r.sub i o ho
 ·rw[hh x (λhc=>(mfo x hc).elim (hp K) (by omega)) (λhc=>(mfp x hc).elim (hp K) (by omega))]
  exact r.old x hx hp
 ·rcases Iu hb with ⟨rfl,rfl⟩|⟨n1,hb⟩
  ·rw[ax rfl] at hi;exact mfp i hi
  ·rw[aA n1] at hi;exact r.l6 k b hb i hi
 ·rcases hlg x hx with hx|hx|hx
  ·exact r.lg x hx
  ·exact (mfo x hx).elim (λhp=>.inl ⟨K,hp⟩) .inr
  ·exact (mfp x hx).elim (λhp=>.inl ⟨K,hp⟩) .inr
 ·rcases hg with rfl|⟨_,h1,h2⟩
  ·exact r.Ip k hk
  ·have bY:k≠K:=λe=>by rw[e,h1] at hk;cases hk
   intro j hj;let ⟨a1,a2,a3⟩:=r.Ip k hk j hj;have ej:j=k:=by simpa using hj
   let ⟨c1,c2,c3⟩:=h2 k bY j hj;exact ⟨c1.trans a1,c2.trans a2,c3.trans a3⟩
end
section
variable {F F':Hf} {g g':Gb} {B:Bs} {J:cS} {s s':LS} {tm:Tf} {h:Hs} {hp:Hf}
mutual
def Hv (K:Nat) (D:AV) (L:Nat->AV):AV->AV
 | .ms k s lo n=>ay (Nat.beq k K) (ay (Nat.beq lo 0) D .undef) (.ms k s lo n)
 | .loc k off=>ay (Nat.beq k K) (L off) (.loc k off)
 | .el k s j f=>ay (Nat.beq k K) .undef (.el k s j f)
 | .mp k=>ay (Nat.beq k K) .undef (.mp k)
 | .it k=>ay (Nat.beq k K) .undef (.it k)
 | .agg cs=>.agg (ze K D L cs)
 | .cm cs=>.cm (ze K D L cs)
 | .fn i a c=>.fn i (ze K D L a) (ze K D L c)
 | .xu t x=>.xu t (Hv K D L x)
 |x=>x
def ze (K:Nat) (D:AV) (L:Nat->AV):aB->aB
 | []=> []
 |x::l=>Hv K D L x::ze K D L l
end
mutual
def Js (K:Nat):AV->List (Nat×Nat)
 | .ms k s lo n=>ay (Nat.beq k K) (ay (Nat.beq lo 0) [(s,n)] []) []
 | .agg cs=>A6 K cs
 | .cm cs=>A6 K cs
 | .fn _ a c=>A6 K a++A6 K c
 | .xu _ x=>Js K x
 |_=> []
def A6 (K:Nat):aB->List (Nat×Nat)
 | []=> []
 |x::l=>Js K x++A6 K l
end
structure adC (F F':Hf) (g:Gb) (K:Nat) (D:AV) (L:Nat->AV) (s m:Nat):Prop where
 le:gq F F'
 ms:∀v,VA F g v (.ms K s 0 m)->VA F' g v D
 loc:∀v off,VA F g v (.loc K off)->VA F' g v (L off)
mutual
def VA.gx {K:Nat} {D:AV} {L:Nat->AV} {s m:Nat} (z:adC F F' g K D L s m):∀{x:AV} {v:SV},VA F g v x->(∀q∈Js K x,q=(s,m))->VA F' g v (Hv K D L x)
 | .ms k s' lo n,v,hv,ho=>by
  show VA F' g v (ay (Nat.beq k K) (ay (Nat.beq lo 0) D .undef) (.ms k s' lo n));rw[bk,bk];split
  ·rename_i e;obtain rfl:=(beq_iff _ _).1 e;split
   ·rename_i e;obtain rfl:=(beq_iff _ _).1 e;have:=ho (s',n) (by
     show (s',n)∈ay (Nat.beq k k) (ay (Nat.beq 0 0) [(s',n)] []) [];rw[show Nat.beq k k=true from (beq_iff _ _).2 rfl];exact cB.2 rfl)
    cases this;exact z.ms v hv
   ·exact .undef v
  ·exact hv.mono z.le
 | .loc k off,v,hv,_=>by
  show VA F' g v (ay (Nat.beq k K) (L off) (.loc k off));rw[bk];split
  ·rename_i e;obtain rfl:=(beq_iff _ _).1 e;exact z.loc v off hv
  ·exact hv.mono z.le
 | .el k _ _ _,v,hv,_=>by
  show VA F' g v (ay (Nat.beq k K) .undef (.el k _ _ _));rw[bk];split
  ·exact .undef v
  ·exact hv.mono z.le
 | .mp k,v,hv,_=>by
  show VA F' g v (ay (Nat.beq k K) .undef (.mp k));rw[bk];split
  ·exact .undef v
  ·exact hv.mono z.le
 | .it k,v,hv,_=>by
  show VA F' g v (ay (Nat.beq k K) .undef (.it k));rw[bk];split
  ·exact .undef v
  ·exact hv.mono z.le
 | .agg cs,_,hv,ho=>by cases hv with|agg h=>exact .agg (bZ.gx z h ho)
 | .cm cs,_,hv,ho=>by cases hv with|cm h=>exact .cm (bZ.gx z h ho)
 | .fn i a c,_,hv,ho=>by
  cases hv with|fn _ h1 h2=>
   exact .fn i (bZ.gx z h1 λq hq=>ho q (eJ _ hq)) (bZ.gx z h2 λq hq=>ho q (ez _ hq))
 | .xu _ _,_,hv,_=>by cases hv
 | .bool _,_,hv,_| .int _ _,_,hv,_| .str _,_,hv,_| .slice _ _ _,_,hv,_| .jW _ _ _,_,hv,_| .iW _ _ _,_,hv,_| .iw _,_,hv,_| .cR,_,hv,_| .il,_,hv,_| .gL,_,hv,_| .iS,_,hv,_| .undef,_,hv,_=>hv.mono z.le
def bZ.gx {K:Nat} {D:AV} {L:Nat->AV} {s m:Nat} (z:adC F F' g K D L s m):∀{xs:aB} {vs:aM},bZ F g vs xs->(∀q∈A6 K xs,q=(s,m))->bZ F' g vs (ze K D L xs)
 | [],_,hv,_=>by cases hv;exact .nil
 |x::l,_,hv,ho=>by
  cases hv with|cons h t=>
   exact .cons (VA.gx z h λq hq=>ho q (eJ _ hq)) (bZ.gx z t λq hq=>ho q (ez _ hq))
end
def ea {Y:Type} (K:Nat):List (Nat×Y)->List (Nat×Y)
 | []=> []
 |p::l=>ay (Nat.beq p.1 K) (ea K l) (p::ea K l)
def ib {Y:Type} (K k:Nat):∀l:List (Nat×Y),lk k (ea K l)=if k=K then none else lk k l
 | []=>by split<;>rfl
 |(j,x)::l=>by
  show lk k (ay (Nat.beq j K) (ea K l) ((j,x)::ea K l))=_;rw[bk];split
  ·rename_i e;obtain rfl:=(beq_iff _ _).1 e;rw[ib j k l,cr];split<;>rfl
  ·rename_i e;have hj:j≠K:=λc=>e ((beq_iff _ _).2 c)
   rw[cr,cr,ib K k l];by_cases hk:k=j
   ·rw[ax hk,ax hk,aA (λc=>hj (hk ▸ c))]
   ·rw[aA hk,aA hk]
def Bx.gx (K:Nat) (D:AV) (L:Nat->AV):Bx->Bx
 | .flat e cs=>.flat e (ze K D L cs)
 | .hole e s Q i x=>.hole e s Q i (Hv K D L x)
 | .tree e s l Q o=>.tree e s l Q (l4 (Hv K D L) o)
 |b=>b
def akL (K:Nat):dd->List (Nat×Nat)
 | []=> []
 |p::l=>Js K p.2++akL K l
def VU {K:Nat}:∀{o:dd} {p:Nat×AV},p∈o->∀q∈Js K p.2,q∈akL K o
 |a::l,p,hp,q,hq=>by
  rcases bB.1 hp with rfl|hp
  ·exact eJ _ hq
  ·exact ez _ (VU hp q hq)
def Bx.occ (K:Nat):Bx->List (Nat×Nat)
 | .flat _ cs=>A6 K cs
 | .hole _ _ _ _ x=>Js K x
 | .tree _ _ _ _ o=>akL K o
 |_=> []
def LS.gx (s:LS) (K:Nat) (D:AV) (L:Nat->AV):LS:=⟨s.ts.map λp=>(p.1,Hv K D L p.2),(ea K s.bs).map λp=>(p.1,Bx.gx K D L p.2)⟩
def Uv (K:Nat):dd->List (Nat×Nat)
 | []=> []
 |p::l=>Js K p.2++Uv K l
def G3 (K:Nat):bH->List (Nat×Nat)
 | []=> []
 |p::l=>p.2.occ K++G3 K l
def aaV {K t:Nat} {x:AV}:∀{l:dd},(t,x)∈l->∀q∈Js K x,q∈Uv K l
 |p::l,h,q,hq=>by
  rcases bB.1 h with rfl|h
  ·exact eJ _ hq
  ·exact ez _ (aaV h q hq)
def aaW {K t:Nat} {x:Bx}:∀{l:bH},(t,x)∈l->∀q∈x.occ K,q∈G3 K l
 |p::l,h,q,hq=>by
  rcases bB.1 h with rfl|h
  ·exact eJ _ hq
  ·exact ez _ (aaW h q hq)
def Rel.gx (r:Rel B F g J s tm h) {K:Nat} {b:Bx} {D:AV} {L:Nat->AV} {sz m:Nat} (hb:lk K s.bs=some b) (hp:B.pk K=false) (ho:∀q∈Uv K s.ts++G3 K s.bs,q=(sz,m))
  (hz:∀F',gq F F'->(∀i∈J K,F' i=h.hp.get i)->fC F g h.hp.get K b (J K)->adC F F' g K D L sz m):∃F',gq F F'/\Rel B F' g J (s.gx K D L) tm h:=by
 let F':Hf:=λi=>if i∈J K then h.hp.get i else F i
 have hF:gq F F':=λid o ho=>by
  show (if id∈J K then h.hp.get id else F id)=some o
  split
  ·exact r.sub id o ho
  ·exact ho
 have z:=hz F' hF (λi hi=>ax hi) (r.bx K b hb)
 have hm:∀i∈J K,B.nx<=i:=λi hi=>(r.l6 K b hb i hi).elim (λc=>by have:=c.1;rw[hp] at this;cases this) λc=>c
 have back:∀{k b'},lk k (s.gx K D L).bs=some b'->k≠K/\∃b0,lk k s.bs=some b0/\b'=Bx.gx K D L b0:=λ{k b'} hk=>by
  rw[show (s.gx K D L).bs=(ea K s.bs).map λp=>(p.1,Bx.gx K D L p.2) from rfl,mm,ib] at hk
  split at hk
  ·cases hk
  ·rename_i bY;obtain ⟨b0,h0,rfl⟩:=kP.1 hk;exact ⟨bY,b0,h0,rfl⟩
 refine ⟨F',hF,λt y hy hn=> ?_,λk b' hk=> ?_,λk k' b1 b2 h1 h2 bY=> ?_,λk b' hk i hi=> ?_,λi o hi=> ?_,r.bd,r.nx,r.old,r.f0.trans hF,λi o hi=> ?_,λk b' hk=> ?_,r.lg,r.Ip⟩
 ·rw[show (s.gx K D L).ts=s.ts.map λp=>(p.1,Hv K D L p.2) from rfl,mm] at hy
  obtain ⟨x,hx,rfl⟩:=kP.1 hy;by_cases hu:x= .undef
  ·subst hu;exact absurd rfl hn
  ·let ⟨v,v1,v2⟩:=r.tm t x hx hu;exact ⟨v,v1,v2.gx z λq hq=>ho q (eJ _ (aaV (nX hx) q hq))⟩
 ·obtain ⟨bY,b0,h0,rfl⟩:=back hk;have hq:=r.bx k b0 h0;have hoc:∀q∈b0.occ K,q=(sz,m):=λq hq=>ho q (ez _ (aaW (nX h0) q hq))
  generalize J k=fp at hq ⊢;cases hq with
  |flat hh q=>exact .flat hh (q.gx z hoc)
  |dD hb=>exact .dD hb
  |rows hb hh hz hu hc q=>exact .rows hb hh hz hu hc (q.mono hF)
  |map hh q1 q2=>exact .map hh (q1.mono hF) (q2.mono hF)
  |iter hh=>exact .iter hh
  |hole hb hh hu hc q hi hv hx=>exact .hole hb hh hu hc (q.mono hF) hi hv (hx.gx z hoc)
  |iA hb=>exact .iA hb
  |tree hb hh hu hc q nd ho=>
   exact .tree hb hh hu hc (q.keep hF λ_ _=>rfl) nd (ho.map λp hp v hv=>hv.gx z λq hq=>hoc q (VU hp q hq))
 ·let ⟨_,c1,d1,_⟩:=back h1;let ⟨_,c2,d2,_⟩:=back h2;exact r.dj k k' c1 c2 d1 d2 bY
 ·obtain ⟨bY,b0,h0,rfl⟩:=back hk;show (if i∈J K then h.hp.get i else F i)=none
  rw[aA (r.dj k K b0 b h0 hb bY i hi)];exact r.nf k b0 h0 i hi
 ·have hi:(if i∈J K then h.hp.get i else F i)=some o:=hi
  split at hi
  ·exact hi
  ·exact r.sub i o hi
 ·have hi:(if i∈J K then h.hp.get i else F i)=some o:=hi
  split at hi
  ·rename_i hc;exact .inr (hm i hc)
  ·exact r.fn i o hi
 ·let ⟨_,b0,h0,_⟩:=back hk;exact r.l6 k b0 h0
def UZ (x:Bool):Bx->AV
 | .rows true e s Q=>.jW e s Q
 | .rows false e s Q=>.slice e s Q
 | .tree e s _ Q _=>tL x e s Q
 |_=>.undef
def Hu (b:Bx):AV:=UZ false b
def frzL:Bx->Nat->AV
 | .flat _ cs,off=>ay (Nat.ble off cs.length) (.iw (cs.drop off)) .undef
 |_,_=>.undef
def J8:Bx->Nat×Nat
 | .rows _ _ s Q=>(s,Q.length)
 | .tree _ s _ Q _=>(s,Q.length)
 |_=>(0,0)
def jI:Bx->Bool
 | .flat _ cs=>(eW cs).isEmpty
 |_=>true
def FH {b:Bx} (hF:gq F F') (hk:jI b=true) (hi:∀i∈fp,F' i=hp i) (q:fC F g hp K b fp):adC F F' g K (UZ x b) (frzL b) (J8 b).1 (J8 b).2:=by
 refine ⟨hF,λv hv=> ?_,λv off hv=> ?_⟩
 ·cases q with
  |flat|map|iter|hole=>exact .undef v
  | @iA e s l hb=>
   have hv:VA F g v (.ms K s 0 0):=hv;cases hv with
   |qI=>cases x;exact .p8 e s;exact .xg e s
   |rE _ _ h0=>cases h0
   |ms _ _ _ cn=>rw[hb] at cn;cases cn
  | @tree e s l Q o svs fs hb hh hu hc q nd ho=>
   have hv:VA F g v (.ms K s 0 Q.length):=hv;generalize hm:Q.length=m at hv;cases hv with
   |qI s cn=>rw[hb] at cn;cases cn
   |rE _ _ h0=>cases h0
   |ms _ _ _ cn=>
    subst hm;have hF0:=(hi (g.Z K) (by simp)).trans hh
    have hl:=gE hc;have hd:=q.data hF λi h=>hi i (dR _ h)
    have Iz:C7 e Q.length (uP (g.κ K) 0):=by have:=FM hc;cases hκ:g.κ K<;>rw[hκ] at this<;>exact this
    rw[nV];cases x
    ·exact .slice (jd hF0) Iz rfl hu (by omega) (by rw[pJ];exact hd)
    ·exact .iW (jd hF0) Iz rfl hu (by omega) (by rw[pJ];exact hd)
  | @dD z e s hb=>
   have hv:VA F g v (.ms K s 0 0):=hv;cases hv with
   |qI=>cases z;exact .p8 e s;exact .Aq e s
   |rE _ _ h0=>cases h0
   |ms _ _ _ cn=>rw[hb] at cn;cases cn
  | @rows z e s Q svs hb hh hz hu hc q=>
   have hv:VA F g v (.ms K s 0 Q.length):=hv;have hl:=gE hc;generalize hm:Q.length=m at hv;cases hv with
   |qI s cn=>rw[hb] at cn;cases cn
   |rE _ _ h0=>cases h0
   |ms _ _ _ cn=>
    subst hm;have hF0:=(hi (g.Z K) (by simp)).trans hh
    have Iz:C7 e Q.length (uP (g.κ K) 0):=by have:=FM hc;cases hκ:g.κ K<;>rw[hκ] at this<;>exact this
    rw[nV];cases z
    ·exact .slice (jd hF0) Iz rfl hu (by omega) (by rw[pJ];exact q.mono hF)
    ·exact .jW (jd hF0) Iz rfl (hz rfl) hu (by omega) (by rw[pJ];exact q.mono hF)
 ·cases q with
  |dD|rows|map|iter|hole|tree|iA=>exact .undef v
  | @flat e cs svs hh q=>
   show VA F' g v (ay (Nat.ble off cs.length) (.iw (cs.drop off)) .undef);rw[bk];split
   ·rename_i hle;have hle:off<=cs.length:=fU hle;cases hv;have hk:(eW cs).isEmpty=true:=hk;have q0:bZ F .no svs cs:=q.gb (λk gO=>by rw[ER.1 hk] at gO;cases gO)
    refine .iw (jd ((hi (g.Z K) (by simp)).trans hh)) (by rw[gJ,q.length];omega) ?_
    have:=(q0.mono hF).drop off;rw[<-this.length,vf];exact this
   ·exact .undef v
end
section
variable {F F':Hf} {g g':Gb} {B:Bs} {J:cS} {s s' s1:LS} {tm:Tf} {h:Hs} {hp:Hf} {E:Env} {nt:Nat} {all l:bS}
def ou (E:Env) (nt:Nat) (B:Bs) (all l:bS) (s s':LS):Prop:=
 ∀(F:Hf) (g:Gb) (J:cS) (tm:cq) (h:Hs),Rel B F g J s tm.get h->∃F' g' φ' tm' h',Rel B F' g' φ' s' (Tr.get tm') h'/\df E (.ops nt all l tm [] h) (.code .normal tm' [] h')
def LS.cM (s:LS) (d:da) (x:AV):LS:= @Option.rec Nat (λ_=>LS) s (λd=>s.put d x) d
def Rel.cM {tm:cq} (r:Rel B F g J s tm.get h) {d:da} {x:AV} (hv:x≠ .undef->VA F g v x):Rel B F g J (s.cM d x) (cM tm d v).get h:=by
 cases d with
 |none=>exact r
 |some d=>exact r.put (λt=>Tr.iU _ _ _ _) hv
def ou.nil:ou E nt B all [] s s:=λF g J tm h r=>⟨F,g,J,tm,h,r,.aDz⟩
mutual
def Vc:Value->AV
 | .bool b=>.bool b
 | .int k n=>.int k n
 | .string s=>.str s
 | .pointer none=>.il
 | .slice none 0 0=>.cR
 | .map none=>.gL
 | .nilFunc=>.iS
 | .agg ⟨cs⟩=>ay (cs.all Value.oneCell') (.agg (CC cs)) .undef
 | .tuple ⟨cs⟩=>.cm (CC cs)
 |_=>.undef
def CC:eH->aB
 | []=> []
 |v::vs=>Vc v::CC vs
end
mutual
def acA:∀(v:Value),VA F g (uF v) (Vc v)
 | .bool b=>.bool b
 | .int k n=>.int k n
 | .string s=>.str s
 | .pointer none=>.il
 | .slice none 0 0=>.cR
 | .map none=>.gL
 | .nilFunc=>.iS
 | .agg ⟨cs⟩=>by
  show VA F g (ay (cs.all Value.oneCell') (.agg (oZ cs)) .undef) (ay (cs.all Value.oneCell') (.agg (CC cs)) .undef);rw[bk,bk];split
  ·exact .agg (Kq cs)
  ·exact .undef _
 | .tuple ⟨cs⟩=>.cm (Kq cs)
 | .pointer (some _)=>.undef _
 | .slice (some _) _ _=>.undef _
 | .slice none 0 (_+1)=>.undef _
 | .slice none (_+1) _=>.undef _
 | .map (some _)=>.undef _
 | .func _ _ _=>.undef _
 | .iface _ _| .nilIface=>.undef _
 | .float _ _=>.undef _
 | .complex _ _ _=>.undef _
 | .chan _=>.undef _
def Kq:∀(vs:eH),bZ F g (oZ vs) (CC vs)
 | []=>.nil
 |v::vs=>.cons (acA v) (Kq vs)
end
def Dj (o:Option AV):AV:= @Option.rec AV (λ_=>AV) .undef (λx=>x) o
def bM (ts:dd):Operand->AV
 | .tmp t=>Dj (lk t ts)
 | .const v=>Vc v
 | .global _=>.undef
 | .func f=>.fn f [] []
def Rel.val (r:Rel B F g J s tm h) {x:Operand} {y:AV} (he:bM s.ts x=y) (hx:y≠ .undef):∃v,bU tm x=some v/\VA F g v y:=by
 subst he;cases x with
 |tmp t=>
  have hx:Dj (lk t s.ts)≠ .undef:=hx;show ∃v,tm t=some v/\VA F g v (Dj (lk t s.ts));cases hl:lk t s.ts with
  |none=>rw[hl] at hx;exact absurd rfl hx
  |some y=>rw[hl] at hx;exact r.tm t y hl hx
 |const v=>exact ⟨_,rfl,acA v⟩
 |global n=>exact absurd rfl hx
 |func f=>exact ⟨_,rfl,.fn f .nil .nil⟩
def jw (ts:dd):List Operand->aB
 | []=> []
 |x::l=>bM ts x::jw ts l
def BC:AV->Bool
 | .undef=>true
 |_=>false
def PJ {x:AV} (h:BC x=false):x≠ .undef:=λe=>by subst e;cases h
def jS:aB->Bool
 | []=>true
 |x::l=>ay (BC x) false (jS l)
def Jw {x:AV} {l:aB} (h:jS (x::l)=true):x≠ .undef/\jS l=true:=by
 have h:ay (BC x) false (jS l)=true:=h;cases hx:BC x with
 |true=>rw[hx] at h;cases h
 |false=>rw[hx] at h;exact ⟨PJ hx,h⟩
def Rel.eI (r:Rel B F g J s tm h):∀{xs:List Operand},jS (jw s.ts xs)=true->∃vs,eI tm xs=some vs/\bZ F g vs (jw s.ts xs)
 | [],_=>⟨[],rfl,.nil⟩
 |x::l,hu=>by
  let ⟨u1,u2⟩:=Jw (x:=bM s.ts x) (l:=jw s.ts l) hu;let ⟨v,h1,h2⟩:=r.val rfl u1;let ⟨vs,h3,h4⟩:=r.eI (xs:=l) u2;refine ⟨v::vs,?_,.cons h2 h4⟩;show bE (bU tm x) (Go.bQ.eI tm l) (λv l=>some (v::l))=_
  rw[h1,h3];rfl
def OH (want:Bool):AV->Option Bool
 | .bool b=>some (b==want)
 | .cm _=>some false
 |_=>none
def qL (all:bS) (p:Oper) (ts:dd):Option Bool:= @Option.rec (Nat×Bool) (λ_=>Option Bool) (some true) (λq=> @Option.rec Nat (λ_=>Option Bool) (some false) (λt=>OH q.2 (Dj (lk t ts))) (Cb all q.1)) p.guard
def yr {tm:cq} (r:Rel B F g J s tm.get h) {b:Bool} (hw:qL all p s.ts=some b):eD all p tm.get=some b:=by
 unfold qL at hw;unfold eD;cases hg:p.guard with
 |none=>rw[hg] at hw;exact hw
 |some q=>
  rw[hg] at hw;show wG all tm.get q.1 q.2=some b;unfold wG;have hw: @Option.rec Nat (λ_=>Option Bool) (some false) (λt=>OH q.2 (Dj (lk t s.ts))) (Cb all q.1)=some b:=hw
  cases hd:Cb all q.1 with
  |none=>rw[hd] at hw;exact hw
  |some t=>
   rw[hd] at hw;have hw:OH q.2 (Dj (lk t s.ts))=some b:=hw;show au (tm.get t) (ajq q.2)=some b;cases hl:lk t s.ts with
   |none=>rw[hl] at hw;cases hw
   |some y=>
    rw[hl] at hw;have hw:OH q.2 y=some b:=hw;let ⟨v,v1,v2⟩:=r.tm t y hl (λe=>by rw[e] at hw;cases hw)
    rw[v1];cases y<;>first|(cases hw;done)|skip
    ·cases v2;exact hw
    ·cases v2;exact hw
def Upd (h:Hs) (us:cQ) (new:Nat) (h':Hs):Prop:=(∀y,h'.hp.get y=(h.gY us).hp.get y)/\h.nx<=h'.nx/\new<h'.nx/\∀y∈h'.lg,y∈(h.gY us).lg
def Gb.at (g:Gb) (K id:Nat) (c:Cp):Gb:=⟨λk=>if k=K then id else g.Z k,λk=>if k=K then c else g.κ k,λk=>if k=K then true else g.O k⟩
def Vd:SV->Cp
 | .sl _ _ _ c=>c
 |_=>.k 0
def iD (new:Nat) (us:cQ):Bool:=us.any λu=>Nat.beq u.1 new
abbrev WK:=Option (Nat×Bool)
def wu (g:Gb) (W:WK) (new:Nat) (us:cQ) (v:SV):Gb:=
 match W with
 |none=>g
 |some q=>if iD new us=true then g.at q.1 new (Vd v) else g
def tz (J:cS) (W:WK) (new:Nat) (us:cQ):cS:=
 match W with
 |none=>J
 |some q=>if iD new us=true then λk=>if k=q.1 then new::ay q.2 [] (J k).tail else J k else J
structure bX (E:Env) (B:Bs) (op:Op) (s s1:LS) (x:AV) (W:WK):Prop where
 go:∀{F:Hf} {g:Gb} {J:cS} {tm:Tf} {h:Hs} {new:Nat},Rel B F g J s tm h->h.hp.get new=none->B.nx<=new->∃v us,oO E op tm h.hp.get new=some (v,us)/\VA F (wu g W new us v) v x/\(∀h',Upd h us new h'\/(us= []/\h'=h)->Rel B F (wu g W new us v) (tz J W new us) s1 tm h')/\
  (∀u∈us,u.1=new\/∃K b,W=some (K,false)/\lk K s.bs=some b/\u.1∈J K)/\(∀k b',lk k s1.bs=some b'->(∃b,lk k s.bs=some b)\/(iD new us=true/\W=some (k,true)))/\∀k,((∃b,lk k s.bs=some b)\/∃l,W=some (k,l))->∃b',lk k s1.bs=some b'
def Fe (op:Op):Bool:=
 match ir op,U9 op,Un op,zK op with
 |none,none,none,none=>true
 |_,_,_,_=>false
def akA {op:Op} (h:Fe op=true):ir op=none/\U9 op=none/\Un op=none/\zK op=none:=by
 unfold Fe at h;split at h
 ·rename_i h1 h2 h3 h4;exact ⟨h1,h2,h3,h4⟩
 ·cases h
def aCe:Upd h us h.nx (h.fin us)\/(us= []/\h.fin us=h):=by
 cases us with
 |nil=>exact .inr ⟨rfl,rfl⟩
 |cons u us=>
  have hn:∀(us:cQ) (h:Hs),(h.gY us).nx=h.nx:=λus=>by
   induction us with
   |nil=>exact λ_=>rfl
   |cons u us ih=>exact λh=>ih (h.up u)
  refine .inl ⟨λy=>rfl,?_,?_,λy hy=>hy⟩
  ·show h.nx<=(h.gY (u::us)).nx+1;rw[hn];omega
  ·show h.nx<(h.gY (u::us)).nx+1;rw[hn];omega
def ou.op {x:AV} {W:WK} (hd:fS nt p.dst=true) (hw:qL all p s.ts=some true) (hp:Fe p.op=true) (hy:bX E B p.op s s1 x W) (hl:ou E nt B all l (s1.cM p.dst x) s'):ou E nt B all (p::l) s s':=λF g J tm h r=>by
 let ⟨h1,h2,h3,h4⟩:=akA hp;let ⟨v,us,v1,v2,r1,_⟩:=hy.go (new:=h.nx) r (r.bd _ (cF _)) r.nx;let ⟨F',g',φ',tm',h',r',q⟩:=hl F _ _ _ _ ((r1 _ aCe).cM (d:=p.dst) λ_=>v2)
 exact ⟨F',g',φ',tm',h',r',.aDy hd (yr r hw) h1 h2 h3 h4 v1 q⟩
def ou.skip (hd:fS nt p.dst=true) (hw:qL all p s.ts=some false) (hl:ou E nt B all l (s.cM p.dst (.cm [])) s'):ou E nt B all (p::l) s s':=λF g J tm h r=>by
 let ⟨F',g',φ',tm',h',r',q⟩:=hl F g J _ h (r.cM (d:=p.dst) λ_=>.cm .nil)
 exact ⟨F',g',φ',tm',h',r',.aAL hd (yr r hw) q⟩
structure ic (B:Bs) (s s1:LS):Prop where
 go:∀{F:Hf} {g:Gb} {J:cS} {tm:Tf} {h:Hs},Rel B F g J s tm h->∃F' g' φ',Rel B F' g' φ' s1 tm h
def ou.ghost (hg:ic B s s1) (hl:ou E nt B all l s1 s'):ou E nt B all l s s':=λF g J tm h r=>by
 let ⟨F',g',φ',r'⟩:=hg.go r;exact hl F' g' φ' tm h r'
def ic.less (hw:vd s s1):ic B s s1:=.mk λ{F g J _ _} r=>⟨F,g,J,r.less hw⟩
def ic.refl:ic B s s:=.mk λ{F g J _ _} r=>⟨F,g,J,r⟩
def ic.trans {s2:LS} (a:ic B s s1) (b:ic B s1 s2):ic B s s2:=.mk λr=>by
 let ⟨_,_,_,r1⟩:=a.go r;exact b.go r1
def lX {o:Option SO} (x:Nat):(h.gY [(i,o)]).hp.get x=if x=i then o else h.hp.get x:=by
 show (h.hp.set i o).get x=_;rw[Tr.iU]
def GM {o:Option SO}:(h.gY [(i,o)]).lg=i::h.lg:=rfl
def bX.pure {op:Op} {x:AV} (hy:∀{F:Hf} {g:Gb} {J:cS} {tm:Tf} {h:Hs} {new:Nat},Rel B F g J s tm h->∃v,oO E op tm h.hp.get new=some (v,[])/\VA F g v x):bX E B op s s x none:=bX.mk λ{F g J tm h new} r h1 h2=>by
 let ⟨v,v1,v2⟩:=hy (new:=new) r;refine ⟨v,[],v1,v2,λh' hu=> ?_,λu hu=>(by cases hu),λk b' hb=>.inl ⟨b',hb⟩,λk hk=>hk.elim (λx=>x) λ⟨l,hl⟩=>by cases hl⟩
 show Rel B F g J s tm h';rcases hu with ⟨u1,u2,u3,u4⟩|⟨_,rfl⟩
 ·exact {r with bx:=λk b hb=>(r.bx k b hb).keep (gq.refl F) λi _=>u1 i,sub:=λid o ho=>(u1 id).trans (r.sub id o ho),bd:=λx hx=>(u1 x).trans (r.bd x (iL u2 hx)),nx:=iL r.nx u2,old:=λx hx hp=>(u1 x).trans (r.old x hx hp),lg:=λx hx=>r.lg x (u4 x hx)}
 ·exact r
def at_ρ {id:Nat}:(g.at K id c).Z K=id:=by simp[Gb.at]
def at_κ {id:Nat}:(g.at K id c).κ K=c:=by simp[Gb.at]
def at_β {id:Nat}:(g.at K id c).O K=true:=by simp[Gb.at]
def at_ne {id:Nat} (hk:k≠K):kg g (g.at K id c) [k]:=λj hj=>by
 have:j≠K:=by rw[cB.1 hj];exact hk
 simp[Gb.at,this]
def at_same {id:Nat} (h:K∉ks):kg g (g.at K id c) ks:=λk hk=>by
 have:k≠K:=λe=>h (e ▸ hk)
 simp[Gb.at,this]
def yA {b:Bx} (hk:(∃b,lk k s.bs=some b)\/k=K):∃b',lk k (s.set K b).bs=some b':=by
 rw[show (s.set K b).bs=(K,b)::s.bs from rfl,cr];split
 ·exact ⟨_,rfl⟩
 ·rename_i e;exact hk.elim (λx=>x) λe'=>absurd e' e
def ua {o:Option SO} (h:(new,o)∈us):iD new us=true:=LA.2 ⟨_,h,(beq_iff _ _).2 rfl⟩
def DE (h:∀u∈us,u.1≠new):iD new us=false:=by
 cases hn:iD new us with
 |false=>rfl
 |true=>
  let ⟨u,hu,he⟩:=LA.1 hn;exact absurd ((beq_iff _ _).1 he) (h u hu)
def HN {l:Bool} (h:iD new us=true):wu g (some (K,l)) new us v=g.at K new (Vd v):=ax h
def ari (h:iD new us=true):tz J (some (K,true)) new us=λk=>if k=K then [new] else J k:=ax h
def Qm (h:iD new us=true):tz J (some (K,false)) new us=λk=>if k=K then new::(J k).tail else J k:=ax h
def uf {W:WK} (h:iD new us=false):wu g W new us v=g:=by
 cases W with
 |none=>rfl
 |some q=>show (if iD new us=true then _ else g)=g;rw[h];rfl
def DO {W:WK} (h:iD new us=false):tz J W new us=J:=by
 cases W with
 |none=>rfl
 |some q=>show (if iD new us=true then _ else J)=J;rw[h];rfl
def bX.lay {op:Op} {x:AV} {b:Bx} (hk:s.free K) (hp:B.pk K=false) (hy:∀{F:Hf} {g:Gb} {J:cS} {tm:Tf} {h:Hs} {new:Nat},Rel B F g J s tm h->∃v o,oO E op tm h.hp.get new=some (v,[(new,some o)])/\VA F (g.at K new (Vd v)) v x/\∀gy:Hf,gy new=some o->fC F (g.at K new (Vd v)) gy K b [new]):bX E B op s (s.set K b) x (some (K,true)):=bX.mk λ{F g J tm h new} r h1 h2=>by
 let ⟨v,o,v1,v2,v3⟩:=hy (new:=new) r;have hn:iD new [(new,some o)]=true:=ua gw;refine ⟨v,_,v1,by rw[HN hn];exact v2,λh' hu=> ?_,λu hu=>.inl (by rw[cB.1 hu]),λk b' hb=> ?_,λk hk=>yA (hk.elim .inl λ⟨l,hl⟩=>.inr (by cases hl;rfl))⟩
 rotate_left
 ·by_cases e:k=K
  ·subst e;exact .inr ⟨hn,rfl⟩
  ·rw[show (s.set K b).bs=(K,b)::s.bs from rfl,cr,aA e] at hb;exact .inl ⟨b',hb⟩
 rw[HN hn,ari hn];rcases hu with ⟨u1,u2,u3,u4⟩|⟨hc,_⟩
 ·exact r.chg (K:=K) (b':=b) (fo:= []) (fp:= [new]) (g':=g.at K new (Vd v)) (h':=h') (λi hi=>by cases hi) (λi hi=>.inr (by rw[cB.1 hi];exact ⟨h1,h2⟩))
   (λx _ hx=>by rw[u1,lX,aA (λe=>hx (by simp[e]))]) u2 (λx hx=>by rw[u1,lX,aA (by omega)];exact r.bd x (by omega)) (λx hx=>by have:=u4 x hx;rw[GM] at this;rcases bB.1 this with rfl|hx;exact .inr (.inr (by simp));exact .inl hx) (v3 _ (by rw[u1,lX,ax rfl])) (.inr ⟨hk,Bs.Pe hp,λk bY=>at_ne bY⟩)
 ·cases hc
def vd.aDH {b:Bx} (hb:lk K s.bs=some b):vd s (s.set K b):=⟨λt y hy=>.inr ⟨y,hy,WV.refl y⟩,λk b' cn=>by
 rw[show (s.set K b).bs=(K,b)::s.bs from rfl,cr] at cn;split at cn
 ·rename_i e;cases cn;subst e;exact ⟨_,hb,WB.refl _⟩
 ·exact ⟨b',cn,WB.refl b'⟩⟩
def bX.wrO {op:Op} {x:AV} {b b':Bx} (hb:lk K s.bs=some b) (hy:∀{F:Hf} {g:Gb} {J:cS} {tm:Tf} {h:Hs} {new:Nat},Rel B F g J s tm h->(∃v o,oO E op tm h.hp.get new=some (v,[(g.Z K,some o)])/\VA F g v x/\J K= [g.Z K]/\∀gy:Hf,gy (g.Z K)=some o->fC F g gy K b' [g.Z K])\/∃v,oO E op tm h.hp.get new=some (v,[])/\VA F g v x/\b'=b):bX E B op s (s.set K b') x (some (K,false)):=bX.mk λ{F g J tm h new} r h1 h2=>by
 rcases hy (new:=new) r with hy1|⟨v,v1,v2,e⟩
 rotate_left
 ·subst e;have less:vd s (s.set K b'):=vd.aDH hb;refine ⟨v,[],v1,v2,λh' hu=> ?_,λu hu=>(by cases hu),λk b2 nO=> ?_,λk hk=>yA (hk.elim .inl λ⟨l,hl⟩=>.inr (by cases hl;rfl))⟩
  ·show Rel B F g J _ tm h';rcases hu with ⟨u1,u2,u3,u4⟩|⟨_,rfl⟩
   ·exact Rel.less {r with bx:=λk b hb=>(r.bx k b hb).keep (gq.refl F) λi _=>u1 i,sub:=λid o ho=>(u1 id).trans (r.sub id o ho),bd:=λx hx=>(u1 x).trans (r.bd x (iL u2 hx)),nx:=iL r.nx u2,old:=λx hx hp=>(u1 x).trans (r.old x hx hp),lg:=λx hx=>r.lg x (u4 x hx)} less
   ·exact r.less less
  ·by_cases e:k=K
   ·subst e;exact .inl ⟨b',hb⟩
   ·rw[show (s.set K b').bs=(K,b')::s.bs from rfl,cr,aA e] at nO;exact .inl ⟨b2,nO⟩
 let ⟨v,o,v1,v2,hφ,v3⟩:=hy1;have bD:=r.lt hb (g.Z K) (by simp[hφ])
 have bY:g.Z K≠new:=λe=>(r.bx K b hb).there (g.Z K) (by simp[hφ]) (by rw[e];exact h1)
 have hn:iD new [(g.Z K,some o)]=false:=DE λu hu=>by rw[cB.1 hu];exact bY
 refine ⟨v,_,v1,by rw[uf hn];exact v2,λh' hu=> ?_,λu hu=>.inr ⟨K,b,rfl,hb,by rw[cB.1 hu,hφ];simp⟩,λk b2 nO=> ?_,λk hk=>yA (hk.elim .inl λ⟨l,hl⟩=>.inr (by cases hl;rfl))⟩
 rotate_left
 ·by_cases e:k=K
  ·subst e;exact .inl ⟨b,hb⟩
  ·rw[show (s.set K b').bs=(K,b')::s.bs from rfl,cr,aA e] at nO;exact .inl ⟨b2,nO⟩
 rw[uf hn,DO hn];rcases hu with ⟨u1,u2,u3,u4⟩|⟨hc,_⟩
 ·have:=r.chg (K:=K) (b':=b') (fo:= [g.Z K]) (fp:= [g.Z K]) (g':=g) (h':=h') (λi hi=>⟨b,hb,by rw[hφ];exact hi⟩) (λi hi=>.inl hi)
   (λx _ hx=>by rw[u1,lX,aA (λe=>hx (by simp[e]))]) u2 (λx hx=>by rw[u1,lX,aA (by omega)];exact r.bd x (by omega)) (λx hx=>by have:=u4 x hx;rw[GM] at this;rcases bB.1 this with rfl|hx;exact .inr (.inr (by simp));exact .inl hx) (v3 _ (by rw[u1,lX,ax rfl])) (.inl rfl)
  have e:(λk=>if k=K then [g.Z K] else J k)=J:=by
   funext k;by_cases hk:k=K
   ·rw[ax hk,hk,hφ]
   ·rw[aA hk]
  rwa[e] at this
 ·cases hc
def bX.wr {op:Op} {x:AV} {b b':Bx} (hb:lk K s.bs=some b) (hy:∀{F:Hf} {g:Gb} {J:cS} {tm:Tf} {h:Hs} {new:Nat},Rel B F g J s tm h->∃v o,oO E op tm h.hp.get new=some (v,[(g.Z K,some o)])/\VA F g v x/\J K= [g.Z K]/\∀gy:Hf,gy (g.Z K)=some o->fC F g gy K b' [g.Z K]):bX E B op s (s.set K b') x (some (K,false)):=bX.wrO hb λr=>.inl (hy r)
def bX.wrM {op:Op} {x:AV} {b b':Bx} (hb:lk K s.bs=some b) (hy:∀{F:Hf} {g:Gb} {J:cS} {tm:Tf} {h:Hs} {new:Nat},Rel B F g J s tm h->∃v o,oO E op tm h.hp.get new=some (v,[(g.Z K,some o)])/\VA F g v x/\g.Z K∈J K/\∀gy:Hf,gy (g.Z K)=some o->(∀x,x≠g.Z K->gy x=h.hp.get x)->fC F g gy K b' (J K)):bX E B op s (s.set K b') x (some (K,false)):=bX.mk λ{F g J tm h new} r h1 h2=>by
 let ⟨v,o,v1,v2,hφ,v3⟩:=hy (new:=new) r;have bD:=r.lt hb (g.Z K) hφ;have bY:g.Z K≠new:=λe=>(r.bx K b hb).there (g.Z K) hφ (by rw[e];exact h1)
 have hn:iD new [(g.Z K,some o)]=false:=DE λu hu=>by rw[cB.1 hu];exact bY
 refine ⟨v,_,v1,by rw[uf hn];exact v2,λh' hu=> ?_,λu hu=>.inr ⟨K,b,rfl,hb,by rw[cB.1 hu];exact hφ⟩,λk b2 nO=> ?_,λk hk=>yA (hk.elim .inl λ⟨l,hl⟩=>.inr (by cases hl;rfl))⟩
 rotate_left
 ·by_cases e:k=K
  ·subst e;exact .inl ⟨b,hb⟩
  ·rw[show (s.set K b').bs=(K,b')::s.bs from rfl,cr,aA e] at nO;exact .inl ⟨b2,nO⟩
 rw[uf hn,DO hn];rcases hu with ⟨u1,u2,u3,u4⟩|⟨hc,_⟩
 ·have up:∀x,x≠g.Z K->h'.hp.get x=h.hp.get x:=λx hx=>by rw[u1,lX,aA hx]
  have:=r.chg (K:=K) (b':=b') (fo:=J K) (fp:=J K) (g':=g) (h':=h') (λi hi=>⟨b,hb,hi⟩) (λi hi=>.inl hi)
   (λx _ hx=>up x λe=>hx (e ▸ hφ)) u2 (λx hx=>by rw[up x (by omega)];exact r.bd x (by omega)) (λx hx=>by have:=u4 x hx;rw[GM] at this;rcases bB.1 this with rfl|hx;exact .inr (.inr hφ);exact .inl hx) (v3 _ (by rw[u1,lX,ax rfl]) up) (.inl rfl)
  have e:(λk=>if k=K then J K else J k)=J:=by
   funext k;by_cases hk:k=K
   ·rw[ax hk,hk]
   ·rw[aA hk]
  rwa[e] at this
 ·cases hc
def iV {x:Option Y} {a:Y} {f:Y->Option γ} (h:x=some a):au x f=f a:=by rw[h];rfl
def yW {O:Type} {x:Option Y} {y:Option O} {a:Y} {b:O} {f:Y->O->Option γ} (h:x=some a) (k:y=some b):bE x y f=f a b:=by rw[h,k];rfl
end
end Go.bQ
end
