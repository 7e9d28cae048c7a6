/- Part. -/
import Derived.Test.YtbnkhmoelnfjoaaGreatP2
import Derived.KernelRfl
import Derived.Below
import Derived.Carry
import Derived.OpenShut
import Derived.JoinedCond
import Derived.Test.YtbnkhmoelnfjoaaGreatRows
import Derived.WalkKit
import Derived.ProofKit
import Derived.Deep.DeepHandedRow
set_option linter.all false
open Option renaming some->V,none->G
open Bool renaming true->M,false->B
open Nat renaming beq->iX,ble->kN,add->p8,mul->A',succ->J',mod->aa1,div->O',sub->X'
open Go renaming TypeId->ll,Code->Mn,Oper->N',Value->BL,Program->E',Operand->C',ResultVar->ab0
open Decidable renaming decide->U
open Go.DataW renaming trod->aa9
open List renaming replicate->P',length->aa8,range->aa3
open Array renaming replicate->ac4
noncomputable section
namespace Go.bL
variable {k K sz e e2 zY n K2 f j t:Nat} {w:LS} {L L0:Ow} {bs:cZ} {v:SV} {x y:AV} {ts:bP} {cs:List (Nat×Nat)} {z:Bool} {l l2:ep} {vs:bf} {Q Q':bz} {R:bc} {o:fq} {sh:Sh} {J:Type} {ob:Prop->cJ} {q:List cJ×LS}
section
variable {F F':Hf} {g g':Gb} {Y:Nat->Ow} {c:Nat->cB} {s s':LS} {T:Tf} {H:Hf} {E:Env} {pn:Nat->Bool}
def cvX (w b:Bx):Bx:=
 match w,cvB w b with
 | .bY _ _ _ l' _ o',.bY z e s l Q o=>.bY z e s (aS (afO l l' Q) l' l) Q (match o' with| []=> []|_=>o)
 |_,b=>b
def ahM {w b:Bx} (q:eQ F g k b L):eQ F g k (cvX w b) L:=by
 have q:=aLG (w:=w) q;unfold cvX;generalize cvB w b=b' at q;split
 ·rename_i l' _ o' z e s l Q o;rw[cI];cases q with
  |nil hb=>cases o'<;>exact .nil hb
  |bY hb hz hu hc q1 ho=>
   refine .bY hb hz hu hc ?_ ?_
   ·split
    ·rename_i h;exact amO h q1
    ·exact q1
   ·split
    ·exact λp hp=>by cases hp
    ·exact ho
 ·exact q
def cvT (w:fq) (ts:fq):fq:=w.map λp=>(p.1,cv p.2 ((lk p.1 ts).getD .undef))
def Nl (bs:cZ):cZ->A cZ
 | []=>V []
 |p::l=>cj (lk p.1 bs) (Nl bs l) λb r=>V ((p.1,cvX p.2 b)::r)
def aoc {bs:cZ} {k:Nat} {b':Bx}:∀{w r:cZ},Nl bs w=V r->lk k r=V b'->∃w b,lk k bs=V b/\b'=cvX w b
 | [],r,h,hk=>by cases h;cases hk
 |p::l,r,h,hk=>by
  obtain ⟨b,r',h1,h2,h⟩:=bT h;cases h;rw[dD] at hk;split at hk
  ·rename_i e;cases hk;exact ⟨p.2,b,e ▸ h1,rfl⟩
  ·exact aoc h2 hk
def ayP {ts:fq} {t:Nat} {y:AV}:∀{w:fq},lk t (cvT w ts)=V y->∃w,y=cv w ((lk t ts).getD .undef)
 | [],h=>by cases h
 |p::l,h=>by
  rw[show cvT (p::l) ts=(p.1,cv p.2 ((lk p.1 ts).getD .undef))::cvT l ts from rfl,dD] at h;split at h
  ·rename_i e;cases h;exact ⟨p.2,by rw[e]⟩
  ·exact ayP h
def RV (w:AV):cv w .undef= .undef:=by cases w<;>rfl
def Rel.cv (r:Rel F g Y c s T H) (h:Nl s.bs w.bs=V bs):Rel F g Y c ⟨cvT w.ts s.ts,bs⟩ T H:=
 {r with
  tm:=λt y hy hn=>by
   obtain ⟨w,rfl⟩:=ayP hy;cases hl:lk t s.ts with
   |none=>rw[hl] at hn;exact absurd (RV w) hn
   |some x=>
    rw[hl] at hn;obtain ⟨v,v1,v2⟩:=r.tm t x hl λe=>hn (by rw[e];exact RV w)
    exact ⟨v,v1,Gd v2⟩
  bx:=λk b hk=>by
   obtain ⟨w,b0,h0,rfl⟩:=aoc h hk;obtain ⟨q,q2⟩:=r.bx k b0 h0;exact ⟨ahM q,q2⟩}
def kJ.cv (h:Nl s.bs w.bs=V bs):kJ pn s ⟨cvT w.ts s.ts,bs⟩:=.mk λr=>⟨_,_,_,_,.refl _,λ_ _=>rfl,r.cv h⟩
def Ct (K K' k:Nat):Nat:=aS (iX k K) K' k
def amT (K K' k:Nat):Ct K K' k=if k=K then K' else k:=by
 unfold Ct;rw[cI];by_cases h:k=K
 ·rw[aF h,aF ((beq_iff _ _).2 h)]
 ·rw[aC h,aC (λe=>h ((beq_iff _ _).1 e))]
def LS.ja (s:LS) (K K':Nat):LS:=⟨s.ts.map λp=>(p.1,GS (Ct K K') p.2),s.bs.map λp=>(Ct K K' p.1,p.2.ja (Ct K K'))⟩
def awY {K K' k:Nat} {b':Bx}:∀{l:cZ},lk K' l=G->lk k (l.map λp=>(Ct K K' p.1,p.2.ja (Ct K K')))=V b'->∃k0 b0,lk k0 l=V b0/\Ct K K' k0=k/\k0≠K'/\b'=b0.ja (Ct K K')
 |(j,x)::l,hn,h=>by
  rw[dD] at hn;rw[ki,dD] at h;split at hn
  ·cases hn
  ·rename_i hj;split at h
   ·rename_i e;cases h;exact ⟨j,x,by rw[dD,aF rfl],e.symm,λc=>hj c.symm,rfl⟩
   ·rename_i e;obtain ⟨k0,b0,a1,a2,a3,a4⟩:=awY hn h;exact ⟨k0,b0,by rw[dD,aC (λc=>e (by rw[<-a2,c])),a1],a2,a3,a4⟩
def kJ.ja {K':Nat} (hk:s.free K') (BW:pn K'=B) (hn:lk K' s.bs=G):kJ pn s (s.ja K K'):=.mk λ{F g Y c T H} r=>by
 let g2:Gb:=λk=>if k=K' then g K else g k
 have one:∀k,k≠K'->g2 (Ct K K' k)=g k:=λk jv=>by
  rw[amT];by_cases e:k=K
  ·subst e;rw[aF rfl];exact aF rfl
  ·rw[aC e];exact aC jv
 let φ2:Nat->Ow:=λk=>if k=K' then Y K else Y k
 let c2:Nat->cB:=λi=>(c i).map (Ct K K')
 refine ⟨F,g2,φ2,c2,.refl _,λk jv=>aC λe=>(by rw[e,BW] at jv;cases jv),⟨λt y hy cR=> ?_,λk b hb=> ?_,λi o hi=>⟨(r.fr i o hi).1,by show (c i).map _=G;rw[(r.fr i o hi).2];rfl⟩,λi hi=>by show (c i).map _=G;rw[r.cn i hi];rfl⟩⟩
 ·obtain ⟨x,hx,e⟩:=wD.1 ((Eu (λ(_:Nat) (x:AV)=>GS (Ct K K') x) t s.ts).symm.trans hy)
  subst e;by_cases hu:x= .undef
  ·subst hu;exact absurd rfl cR
  ·obtain ⟨v,v1,v2⟩:=r.tm t x hx hu;exact ⟨v,v1,v2.map (.refl F) λk hm=>one k λe=>hk.1 t x hx (e ▸ hm)⟩
 ·obtain ⟨k0,b0,a1,a2,a3,rfl⟩:=awY hn hb;obtain ⟨q1,q2,q3⟩:=r.bx k0 b0 a1;have hφ:φ2 k=Y k0:=by
   show (if k=K' then Y K else Y k)=_
   rw[<-a2,amT];by_cases e:k0=K
   ·rw[aF e,aF rfl,e]
   ·rw[aC e,aC a3]
  rw[hφ];exact ⟨q1.mv (.refl F) (by rw[<-a2];exact one k0 a3) λk hm=>one k λe=>hk.2 k0 b0 a3 a1 (e ▸ hm),q2,λp hp=>⟨(q3 p hp).1,by show (c p.1).map _=_;rw[(q3 p hp).2,<-a2];rfl⟩⟩
def PA (K sz:Nat) (x:AV):AV:=
 match x with
 | .lit .cr=>.ms K sz 0 0
 |x=>x
def hasC (cs:List (Nat×Nat)) (k i:Nat):Bool:=cs.any λq=>iX q.1 k&&iX q.2 i
def asb (cs:List (Nat×Nat)) (k K sz:Nat):Nat->bc->bc
 |_,[]=> []
 |i,x::l=>aS (hasC cs k i) (PA K sz x) x::asb cs k K sz (i+1) l
def aGN (cs:List (Nat×Nat)) (K sz k:Nat) (b:Bx):Bx:=
 match b with
 | .flat e l=>.flat e (asb cs k K sz 0 l)
 | .bY z e s l Q o=>.bY z e s l Q (o.map λp=>(p.1,aS (cs.any λq=>iX q.1 k) (PA K sz p.2) p.2))
 |b=>b
def LS.born (s:LS) (ts:bP) (cs:List (Nat×Nat)) (K:Nat) (z:Bool) (e sz:Nat):LS:=
 ⟨s.ts.map λp=>(p.1,aS (mW p.1 ts) (PA K sz p.2) p.2),(s.set K (.rows z e sz [])).bs.map λp=>(p.1,aGN cs K sz p.1 p.2)⟩
def RZ (hb:(g K).b=B) (h:VA F g v x) (b:Bool):VA F g v (aS b (PA K sz x) x):=by
 rw[cI];split
 ·unfold PA;split
  ·cases h;exact .sA sz hb
  ·exact h
 ·exact h
def ahV {cs:List (Nat×Nat)} {k K sz:Nat} (hb:(g K).b=B):∀{xs:bc} {vs:bf} {i:Nat},dK F g vs xs->dK F g vs (asb cs k K sz i xs)
 | [],_,_,h=>h
 |x::l,_,i,.cons h t=>.cons (RZ hb h _) (ahV hb t)
def kJ.born (hk:s.free K) (hp:pn K=B):kJ pn s (s.born ts cs K z e sz):=.mk λ{F g Y c T H} r=>by
 let g2:Gb:=kS g K ⟨0,.k 0,B⟩;have hb:(g2 K).b=B:=by show (kS g K _ K).b=B;unfold kS;rw[aF rfl]
 obtain ⟨c',r2,_,_,_⟩:=r.chg (K:=K) (b':=.rows z e sz []) (L':= []) (g':=g2) (H':=H) (.nil hb) (by simp) (λp hp=>by cases hp) (λi hi=>absurd rfl hi) (.inr ⟨hk,λk cR=>aC cR⟩)
 refine ⟨F,g2,_,c',.refl _,λk jv=>aC λe=>(by rw[e,hp] at jv;cases jv),r2.aqe (ft:=λt x=>aS (mW t ts) (PA K sz x) x) (fb:=λk b=>aGN cs K sz k b) r2.fr (λt=>by rw[cI];split<;>rfl) (λt v x _ hv=>RZ hb hv _) λk b L _ q=> ?_⟩
 cases q with
 |flat q=>exact .flat (ahV hb q)
 |nil h=>exact .nil h
 |bY nP hz hu hc q ho=>
  refine .bY nP hz hu hc q λp hp=> ?_
  obtain ⟨p0,hp0,rfl⟩:=dJ.1 hp;obtain ⟨v,v1,v2⟩:=ho p0 hp0;exact ⟨v,v1,RZ hb v2 _⟩
 |map h1 h2 h3=>exact .map h1 h2 h3
 |iter=>exact .iter
def nSh (l:ep):ep:=aS (tv l) [] l
def aLn (q:TR F l vs Q L):TR F (nSh l) vs Q L:=by
 unfold nSh;rw[cI];split
 ·rename_i h;exact q.tv h rfl
 ·exact q
def TC.open {x x':Bool} {rows:bz} (q:TC F (.o x l2) v y L0) (hy:y=y5 x' e2 zY n rows):∃gk L2,L2.Sublist L0/\∀g2:Gb,g2 K2=gk->eQ F g2 K2 (.bY B e2 zY (nSh l2) rows []) L2/\VA F g2 v (.ms K2 zY 0 n):=by
 cases q with
 |any=>cases hy
 |nil=>
  injection hy with _ _ _ h1 h2
  subst h1;subst h2;exact ⟨⟨0,.k 0,B⟩,[],.refl _,λg2 e=>⟨.nil (by rw[e]),.sA _ (by rw[e])⟩⟩
 | @sl _ _ id cp svs e s n' Q L hn hu hc q=>
  injection hy with _ h1 h2 h3 h4
  subst h1;subst h2;subst h3;subst h4;subst hn;refine ⟨⟨id,cp,M⟩,_,.refl _,λg2 e=>⟨?_,?_⟩⟩
  ·have:=eQ.bY (F:=F) (g:=g2) (K:=K2) (z:=B) (o:= []) (by rw[e]) (λh=>by cases h) hu (by rw[e];exact hc) (aLn q) (λp hp=>by cases hp)
   rwa[e] at this
  ·exact sA e
def aDp (Q:bz) (j f:Nat) (x:Bool) (e2 s2 n:Nat) (rows:bz) (Q':bz):Prop:=∃R,Q[j]? =V R/\R[f]? =V (y5 x e2 s2 n rows)/\Q.set j (ic R f [.undef])=Q'
def Bb (h:f<R.length):ic R f [x]=R.set f x:=by
 show R.take f++ [x]++R.drop (f+1)=_;rw[List.set_eq_take_append_cons_drop,aF h];simp
def YQ {R R':bc} (hu:∀r∈Q,r.length=sz) (h:R'.length=sz):∀r∈Q.set j R',r.length=sz:=λr hr=>by
 rcases W6 hr with hr|rfl
 ·exact hu r hr
 ·exact h
def afP {R':bc} (hj:Q[j]? =V R):Q.set j R'≠ []:=λe=>by
 have:=bH aa8 e;rw[kp] at this;rw[sP.1 this] at hj;cases hj
def kJ.opn {x x':Bool} {rows:bz} (hb:lk K s.bs=V (.bY z e sz l Q o)) (hP:aDp Q j f x' e2 zY n rows Q') (hl:(l.drop f).headD .d= .o x l2) (hk:s.free K2) (hp:pn K2=B) (hn:lk K2 s.bs=G):
  kJ pn s ⟨s.ts,(K2,.bY B e2 zY (nSh l2) rows [])::(K,.bY z e sz l Q' ((j*sz+f,.ms K2 zY 0 n)::o))::s.bs⟩:=.mk λ{F g Y c T H} r=>by
 obtain ⟨R,hj,hf,rfl⟩:=hP;have hR:=(bK.1 hf).1;obtain ⟨sE,svs,L,hφ,hH,hu,hc,q,ho,_,hRl,_⟩:=r.row hb hj;obtain ⟨v,L1,L0,L2,h1,h2,h3,h4⟩:=q.foc hu hj hf;rw[hl] at h3 h4;obtain ⟨gk,LK,hs,gC⟩:=h3.open (K2:=K2) rfl;have cR:K≠K2:=λe=>by rw[e,hn] at hb;cases hb
 obtain ⟨b1,b2⟩:=gC (kS g K2 gk) (aF rfl);have gK:kS g K2 gk K=g K:=aC cR;have nd:=(r.bx K _ hb).2.1;rw[hφ,h2] at nd;have hv:svs[j*sz+f]? =V v:=by
  rw[fw] at h1;split at h1
  ·exact h1
  ·cases h1
 refine ⟨F,kS g K2 gk,_,_,.refl _,λk jv=>aC λe=>(by rw[e,hp] at jv;cases jv),r.split (b1:=.bY z e sz l (Q.set j (ic R f [.undef])) ((j*sz+f,.ms K2 zY 0 n)::o)) (L1:=((g K).n,.cells e svs)::(L1++([]++L2))) hb hk hn (λk cR=>aC cR) ?_ b1 (λp hp=> ?_) ?_⟩
 ·rw[<-gK];rw[Bb hR];refine .bY (by rw[gK];exact sE) (λ_=>afP hj) (YQ (R:=R) hu (by rw[kp];exact hRl)) (by rw[gK,kp];exact hc) (by rw[kp];exact h4 _ _ (.any v)) λp hp=> ?_
  rcases da.1 hp with rfl|hp
  ·exact ⟨v,hv,b2⟩
  ·obtain ⟨w,w1,w2⟩:=ho p hp;exact ⟨w,w1,w2.same (.refl F) λk jv=>aC λ(ek:k=K2)=>hk.2 K _ cR hb (ek ▸ Da (dJ.2 ⟨p,hp,rfl⟩) k jv)⟩
 ·rw[hφ,h2];have:(((g K).n,SO.cells e svs)::(L1++([]++L2))++LK).Subset (((g K).n,SO.cells e svs)::(L1++(L0++L2))):=λp hp=>by
   have hs:= @(hs.subset);simp only[wC,da,eV,j0] at hp ⊢;rcases hp with h|(h|h)|h
   ·exact .inl h
   ·exact .inr (.inl h)
   ·exact .inr (.inr (.inr h))
   ·exact .inr (.inr (.inl (hs h)))
  exact this hp
 ·have key:((((g K).n,SO.cells e svs)::(L1++([]++L2))++L0).map (·.1)).Nodup:=by
   refine (List.Perm.nodup_iff ?_).1 nd;refine List.Perm.map _ ?_;rw[wC,j0,lr];exact .cons _ (.append_left _ List.perm_append_comm)
  exact ((W5 hs _).map _).nodup key
def Z2 (Q:bz) (j f:Nat) (y:AV) (Q':bz):Prop:=GQ Q j f [y]=V Q'
def Rel.cls (r:Rel F g Y c s T H) {p:Nat} {z2 x:Bool} {l2':ep} {rows:bz} (hb:lk K s.bs=V (.bY z e sz l Q ((p,.ms K2 zY 0 n)::o))) (hb2:lk K2 s.bs=V (.bY z2 e2 zY l2' rows [])) (hp:p=j*sz+f) (hn:rows.length=n) (hP:Z2 Q j f (y5 x e2 zY n rows) Q') (hl:(l.drop f).headD .d= .o x l2) (hsh:afO l2' l2 rows=M) (hf:f<sz) (cR:K≠K2):
  ∃φ' c',(∀i k,c' i=V k->c i=V k\/(k=K/\c i=V K2))/\Rel F g φ' c' ⟨(s.pA K2).ts,(K,.bY z e sz l Q' (o.map λp=>(p.1,pc K2 p.2)))::lI K2 (s.pA K2).bs⟩ T H:=by
 obtain ⟨R,hj,hQ⟩:=aq hP;cases hQ;subst hp;obtain ⟨sE,svs,L,hφ,hH,hu,hc,q,ho,_,hRl,_⟩:=r.row hb hj;obtain ⟨xo,hxo⟩:∃xo,R[f]? =V xo:=⟨R[f]'(by omega),cX _⟩
 obtain ⟨v,L1,L0,L2,h1,h2,h3,h4⟩:=q.foc hu hj hxo;rw[hl] at h4;obtain ⟨v',FZ,hx⟩:=ho _ kg;have ev:v'=v:=by
  rw[fw] at h1;split at h1
  ·exact lp (FZ.symm.trans h1)
  ·cases h1
 subst ev;obtain ⟨_,nd,own⟩:=r.bx K _ hb;obtain ⟨q2,nd2,agn⟩:=r.bx K2 _ hb2;have pb:TC F (.o x l2) v' (y5 x e2 zY n rows) (Y K2):=by
  generalize Y K2=f2 at q2;cases q2 with
  |nil hb1=>
   cases hn;cases hx with
   |sA=>exact .nil
   |ms _ _ _ h=>rw[hb1] at h;cases h
   |zb _ _ h=>cases h
  |bY hb1 Aa hu1 qE q1 Ij=>
   subst hn;generalize hm:rows.length=m at hx;cases hx with
   |sA _ h=>rw[hb1] at h;cases h
   |zb _ _ h=>cases h
   |ms=>
    subst hm;rw[ng];have:Ai (g K2).c 0=(g K2).c:=by cases (g K2).c<;>rfl
    rw[this];exact .sl rfl hu1 qE (amO hsh q1)
 have lf:∀{k b},lk k s.bs=V b->lk k (s.pA K2).bs=V (b.pA K2):=λ{k b} hb=>by
  rw[show (s.pA K2).bs=s.bs.map λp=>(p.1,p.2.pA K2) from rfl,Eu (λ(_:Nat) (b:Bx)=>b.pA K2),hb];rfl
 have sub:∀p∈((g K).n,SO.cells e svs)::(L1++(Y K2++L2)),p∈Y K\/p∈Y K2:=λp hp=>by
  rw[hφ,h2];simp only[da,eV] at hp ⊢;rcases hp with h|h|h|h
  ·exact .inl (.inl h)
  ·exact .inl (.inr (.inl h))
  ·exact .inr h
  ·exact .inl (.inr (.inr (.inr h)))
 refine ⟨_,_,λi k h=> ?_,(r.pA K2).join (b1:=.bY z e sz l (Q.set j (ic R f [y5 x e2 zY n rows])) (o.map λp=>(p.1,pc K2 p.2))) (L1:=((g K).n,.cells e svs)::(L1++(Y K2++L2))) (lf hb) (lf hb2) cR ?_ sub ?_⟩
 ·split at h
  ·rename_i hm;obtain ⟨p,hp,rfl⟩:=dJ.1 hm;cases h;exact (sub p hp).imp (λh=>(own p h).2) λh=>⟨rfl,(agn p h).2⟩
  ·exact .inl h
 ·rw[Bb (by omega)]
  refine .bY sE (λ_=>afP hj) (YQ (R:=R) hu (by rw[kp];exact hRl)) (by rw[kp];exact hc) (by rw[kp];exact h4 _ _ pb) λp hp=> ?_
  obtain ⟨p0,hp0,rfl⟩:=dJ.1 hp;obtain ⟨w,w1,w2⟩:=ho p0 (dW _ hp0);exact ⟨w,w1,Kl w2⟩
 ·rw[hφ,h2] at nd own;have hd:∀p∈Y K2,∀p'∈((g K).n,SO.cells e svs)::(L1++(L0++L2)),p.1≠p'.1:=λp hp p' BW e0=>by
   have h1:=(agn p hp).2;rw[e0,(own p' BW).2] at h1;exact cR (lp h1)
  have key:(((((g K).n,SO.cells e svs)::(L1++L2))++Y K2).map (·.1)).Nodup:=by
   rw[kh];have sl:(((g K).n,SO.cells e svs)::(L1++L2)).Sublist (((g K).n,SO.cells e svs)::(L1++(L0++L2))):=.cons_cons _ (W5 (OC _ _) _);refine DY.2 ⟨(sl.map _).nodup nd,nd2,λa ha b nP e0=> ?_⟩
   obtain ⟨p',BW,rfl⟩:=dJ.1 ha;obtain ⟨p,hp,rfl⟩:=dJ.1 nP;exact hd p hp p' (sl.subset BW) e0.symm
  refine (List.Perm.nodup_iff ?_).1 key;refine List.Perm.map _ ?_;rw[wC,lr];exact .cons _ (.append_left _ List.perm_append_comm)
def arU (sh:Sh) (y x:AV):A AV:=
 match sh with
 | .d=>aS (kU x).isEmpty (V (cv y x)) G
 | .o b _=>(match x,y with
  | .lit .cr,.sl _ e s _ _=>V (y5 b e s 0 [])
  |_,_=>G)
def aJD {y':AV} (h:arU sh y x=V y') (q:VA F g v x):TC F sh v y' []:=by
 unfold arU at h;split at h
 ·obtain ⟨h1,h⟩:=aZ h;cases h;exact .d (Gd (q.tf h1))
 ·split at h
  ·cases h;cases q;exact .nil
  ·cases h
def eQ.cld {p:Nat} {y':AV} (hp:p=j*sz+f) (hP:Z2 Q j f y' Q') (hy:arU ((l.drop f).headD .d) y x=V y') (hf:f<sz) (q:eQ F g K (.bY z e sz l Q ((p,x)::o)) L):∃L',L'.Sublist L/\eQ F g K (.bY z e sz l Q' o) L':=by
 obtain ⟨R,hj,hQ⟩:=aq hP;cases hQ;subst hp;cases q with
 | @bY _ _ _ _ _ _ svs L sE hz hu hc q ho=>
 have hRl:=hu R (bU hj);obtain ⟨xo,hxo⟩:∃xo,R[f]? =V xo:=⟨R[f]'(by omega),cX _⟩
 obtain ⟨v,L1,L0,L2,h1,h2,h3,h4⟩:=q.foc hu hj hxo;obtain ⟨v',FZ,hx⟩:=ho _ kg;have ev:v'=v:=by
  rw[fw] at h1;split at h1
  ·exact lp (FZ.symm.trans h1)
  ·cases h1
 subst ev;refine ⟨_,?_,.bY sE (λ_=>afP hj) (YQ (R:=R) hu (by rw[Bb (by omega),kp];exact hRl)) (by rw[kp];exact hc) (by rw[Bb (by omega),kp];exact h4 _ _ (aJD hy hx)) λp hp=>ho p (dW _ hp)⟩
 rw[h2];exact .cons_cons _ (W5 (OC _ _) _)
def kJ.shr {u:Nat} {P:bz} (hb:lk K s.bs=V (.bY z e sz l Q o)) (hP:Q.take u=P):kJ pn s (s.set K (.bY B e sz l P [])):=by
 subst hP;refine kJ.JL hb λ{F g L} q=> ?_
 cases q with
 |nil MY=>exact ⟨[],.refl _,by rw[List.take_nil];exact .nil MY⟩
 | @bY _ _ _ _ _ _ svs L sE hz hu hc q ho=>
  obtain ⟨L',hs,q'⟩:=q.take u hu;have hle:(Q.take u).length<=Q.length:=by rw[dE];exact Nat.min_le_right _ _
  have e1:min (u*sz) (Q.length*sz)=(Q.take u).length*sz:=by
   rw[dE];rcases Nat.le_total u Q.length with h|h
   ·rw[fu h,fu (jn _ h)]
   ·rw[W4 h,W4 (jn _ h)]
  rw[lX,e1] at q';refine ⟨_,.cons_cons _ hs,.bY sE (λe=>by cases e) (λr hr=>hu r (og hr)) ?_ q' λp hp=>by cases hp⟩
  cases hκ:(g K).c with
  |k m=>rw[hκ] at hc;exact ⟨kP hle hc.1,hc.2⟩
  |u e'=>rw[hκ] at hc;exact ⟨hc.1,kP (jn _ hle) hc.2⟩
def cvQ:bz->bz->bz
 |w::ws,r::rs=>Nk w r::cvQ ws rs
 |_,rs=>rs
def aob:∀(ws xs:bc),(Nk ws xs).length=xs.length
 | [],_=>rfl
 |_::_,[]=>rfl
 |_::ws,_::xs=>bH J' (aob ws xs)
def Pv:∀(W Q:bz),(cvQ W Q).length=Q.length
 | [],_=>rfl
 |_::_,[]=>rfl
 |_::W,_::Q=>bH J' (Pv W Q)
def arN {sz:Nat}:∀{W Q:bz},(∀r∈Q,r.length=sz)->∀r∈cvQ W Q,r.length=sz
 | [],_,hu,r,hr=>hu r hr
 |_::_,[],_,r,hr=>by cases hr
 |w::W,q::Q,hu,r,hr=>by
  rcases da.1 (show r∈Nk w q::cvQ W Q from hr) with rfl|hr
  ·rw[aob];exact hu q (by simp)
  ·exact arN (λr hr=>hu r (dW _ hr)) r hr
def ayQ:∀{W Q:bz} {vs:bf},dK F g vs Q.flatten->dK F g vs (cvQ W Q).flatten
 | [],_,_,q=>q
 |_::_,[],_,q=>q
 |w::W,r::Q,vs,q=>by
  rw[qm] at q;have q1:=q.take r.length;have q2:=q.drop r.length;rw[W3] at q1;rw[W0] at q2;have:=(Is (ws:=w) q1).append (ayQ (W:=W) q2);rw[yh] at this;exact this
def eQ.brw {W:bz} (ha:tv l=M) (q:eQ F g K (.bY z e sz l Q o) L):∃L',L'.Sublist L/\eQ F g K (.bY z e sz [] (cvQ W Q) o) L':=by
 cases q with
 |nil hb=>exact ⟨[],.refl _,by cases W<;>exact .nil hb⟩
 |bY hb hz hu hc q ho=>exact ⟨_,.cons_cons _ (OB _),.bY hb (λh e0=>hz h (sP.1 (by rw[<-Pv W Q,e0];rfl))) (arN hu) (by rw[Pv];exact hc) (by rw[Pv];exact .te (arN hu) (ayQ (q.tv ha rfl).dat)) ho⟩
def Rel.thaw (r:Rel F g Y c s T H) (hb:lk K s.bs=V (.bY z e sz l Q o)):∃F' φ' c',od F F'/\Rel F' g φ' c' (s.set K (.bY z e sz [] Q [])) T H:=by
 obtain ⟨q,nd,own⟩:=r.bx K _ hb;generalize hL:Y K=L at q nd own;let F':Hf:=λi=>if c i=V K/\i≠(g K).n then H i else F i
 have hF:od F F':=λi o ho=>by
  show (if c i=V K/\i≠(g K).n then H i else F i)=V o
  rw[(r.fr i o ho).2,aC (by simp)]
  exact ho
 refine ⟨F',λk=>if k=K then L.take 1 else Y k,λi=>if c i=V K/\i≠(g K).n then G else c i,hF,λt x hx hn=> ?_,λk b hk=> ?_,λi o hi=> ?_,λi hi=> ?_⟩
 ·obtain ⟨v,v1,v2⟩:=r.tm t x hx hn;exact ⟨v,v1,v2.mono hF⟩
 ·have hk:lk k ((K,.bY z e sz [] Q [])::s.bs)=V b:=hk;rw[dD] at hk;by_cases ek:k=K
  ·subst ek;rw[aF rfl] at hk;cases hk;show eQ F' g k _ (if k=k then _ else _)/\((if k=k then _ else _:Ow).map (·.1)).Nodup/\∀p∈(if k=k then _ else _:Ow),_
   rw[aF rfl];cases q with
   |nil MY=>exact ⟨.nil MY,by simp,λp hp=>by cases hp⟩
   | @bY _ _ _ _ _ _ svs L sE hz hu hc q ho=>
    have nd':(g k).n∉L.map (·.1):=(pG.1 nd).1
    refine ⟨.bY sE hz hu hc (.te hu (q.data hF λp hp=> ?_)) (λp hp=>by cases hp),by simp,λp hp=> ?_⟩
    ·obtain ⟨h1,h2⟩:=own p (dW _ hp);show (if c p.1=V k/\p.1≠(g k).n then H p.1 else F p.1)=V p.2
     rw[aF ⟨h2,λh=>nd' (h ▸ dJ.2 ⟨p,hp,rfl⟩)⟩]
     exact h1
    ·obtain rfl:=gg.1 (show p∈ [_] from hp);obtain ⟨h1,h2⟩:=own _ kg;refine ⟨h1,?_⟩;show (if c (g k).n=V k/\(g k).n≠(g k).n then G else c (g k).n)=V k
     rw[aC (λh=>h.2 rfl)]
     exact h2
  ·rw[aC ek] at hk;obtain ⟨q1,q2,q3⟩:=r.bx k b hk;show eQ F' g k b (if k=K then _ else _)/\((if k=K then _ else _:Ow).map (·.1)).Nodup/\∀p∈(if k=K then _ else _:Ow),_
   rw[aC ek];refine ⟨q1.same hF rfl λ_ _=>rfl,q2,λp hp=>⟨(q3 p hp).1,?_⟩⟩
   show (if c p.1=V K/\p.1≠(g K).n then G else c p.1)=V k
   rw[(q3 p hp).2,aC λh=>ek (by injection h.1)]
 ·have hi:(if c i=V K/\i≠(g K).n then H i else F i)=V o:=hi
  show H i=V o/\(if c i=V K/\i≠(g K).n then G else c i)=G
  split at hi
  ·rename_i h;rw[aF h];exact ⟨hi,rfl⟩
  ·rename_i h;rw[aC h];exact r.fr i o hi
 ·show (if c i=V K/\i≠(g K).n then G else c i)=G
  rw[r.cn i hi,aC (λh=>by cases h.1)]
inductive Gp where
 |eB (K m n:Nat)
 |ja (K K':Nat)
 |born (ts:bP) (cs:List (Nat×Nat)) (K:Nat) (z:Bool) (e sz:Nat)
 |shr (K u:Nat) (P:bz)
 |opn (K K2 j f e2 s2 n:Nat) (rows Q':bz)
 |cls (K K2 j f n:Nat) (Q':bz)
 |cld (K j f:Nat) (y:AV) (Q':bz)
 |gx (t:Nat) (y:AV)
 |bis (K:Nat) (b:Bx)
 |qc (t:Nat) (w:AV)
 |nQ (K:Nat) (w:Bx)
 |brw (K:Nat) (W:bz)
 |thw (K:Nat)
def shX (l:ep) (f:Nat):A (Bool×ep):=
 match (l.drop f).headD .d with
 | .o x l2=>V (x,l2)
 |_=>G
def afN {p:Bool×ep} (h:shX l f=V p):(l.drop f).headD .d= .o p.1 p.2:=by
 unfold shX at h;split at h
 ·rename_i e;cases h;exact e
 ·cases h
def Kh (pn:Nat->Bool) (s:LS) (gp:Gp) (ob:Prop->cJ):A (List cJ×LS):=
 match gp with
 | .thw K=>ay (lk K s.bs) λb=>(match b with
  | .bY z e sz _ Q _=>V ([],s.set K (.bY z e sz [] Q []))
  |_=>G)
 | .eB K m n=>ay (lk K s.bs) λb=>V (ahw s K n b ob,s.ahx K m n b)
 | .ja K K'=>aS (F7 s K'&&(!pn K'&&(lk K' s.bs).isNone)) (V ([],s.ja K K')) G
 | .born ts cs K z e sz=>aS (F7 s K && !pn K) (V ([],s.born ts cs K z e sz)) G
 | .shr K u P=>ay (lk K s.bs) λb=>(match b with
  | .bY _ e sz l Q _=>V ([ob (Q.take u=P)],s.set K (.bY B e sz l P []))
  |_=>G)
 | .opn K K2 j f e2 s2 n rows Q'=>ay (lk K s.bs) λb=>(match b with
  | .bY z e sz l Q o=>ay (shX l f) λx=>aS (F7 s K2&&(!pn K2&&(lk K2 s.bs).isNone)) (V ([ob (aDp Q j f x.1 e2 s2 n rows Q')],⟨s.ts,(K2,.bY B e2 s2 (nSh x.2) rows [])::(K,.bY z e sz l Q' ((p8 (A' j sz) f,.ms K2 s2 0 n)::o))::lI K s.bs⟩)) G
  |_=>G)
 | .cls K K2 j f n Q'=>cj (lk K s.bs) (lk K2 s.bs) λb b2=>(match b,b2 with
  | .bY z e sz l Q ((p,.ms k2 s2 0 n0)::o),.bY _ e2 zY l2' rows []=>ay (shX l f) λx=>aS ((iX k2 K2&&iX s2 zY)&&(afO l2' x.2 rows&&(kN (J' f) sz && !iX K K2)))
    (V ([ob (rows.length=n/\Z2 Q j f (y5 x.1 e2 zY n rows) Q'),eqO n0 n,eqO p (p8 (A' j sz) f)],⟨(s.pA K2).ts,(K,.bY z e sz l Q' (o.map λp=>(p.1,pc K2 p.2)))::lI K (lI K2 (s.pA K2).bs)⟩)) G
  |_,_=>G)
 | .cld K j f y Q'=>ay (lk K s.bs) λb=>(match b with
  | .bY z e sz l Q ((p,x)::o)=>ay (arU ((l.drop f).headD .d) y x) λy'=>aS (kN (J' f) sz) (V ([ob (Z2 Q j f y' Q'),eqO p (p8 (A' j sz) f)],s.set K (.bY z e sz l Q' o))) G
  |_=>G)
 | .gx t y=>ay (lk t s.ts) λx=>V ([ob (x=y)],⟨(t,y)::lI t s.ts,s.bs⟩)
 | .bis K b=>ay (lk K s.bs) λb0=>V ([ob (b0=b)],⟨s.ts,(K,b)::lI K s.bs⟩)
 | .qc t w=>ay (lk t s.ts) λx=>V ([],⟨(t,cv w x)::lI t s.ts,s.bs⟩)
 | .nQ K w=>ay (lk K s.bs) λb=>V ([],s.set K (cvX w b))
 | .brw K W=>ay (lk K s.bs) λb=>(match b with
  | .bY z e sz l Q o=>aS (tv l) (V ([],s.set K (.bY z e sz [] (cvQ W Q) o))) G
  |_=>G)
def kJ.lks (h1:∀t,lk t s'.ts=lk t s.ts) (h2:∀k,lk k s'.bs=lk k s.bs):kJ pn s s':=.mk λr=>⟨_,_,_,_,.refl _,λ_ _=>rfl,r.sub (λt x h=>(h1 t).symm.trans h) λk b h=>(h2 k).symm.trans h⟩
def xS {x:J} {l:List (Nat×J)}:lk k ((t,x)::lI t l)=lk k ((t,x)::l):=by
 rw[dD,dD,xR];split
 ·rfl
 ·rfl
def Rel.gcls (r:Rel F g Y c s T H) (gD:∀P,(ob P).need=P) (h:Kh pn s (.cls K K2 j f n Q') ob=V q) (ho:jA q.1):∃φ' c',(∀i k,c' i=V k->c i=V k\/(k=K/\c i=V K2))/\Rel F g φ' c' q.2 T H:=by
 obtain ⟨b,b2,hb,hb2,h⟩:=bT h;split at h
 ·rename_i z e sz l Q p k2 s2 n0 o z2 e2 zY l2' rows;obtain ⟨x,hx,h⟩:=aq h;obtain ⟨h1,h⟩:=aZ h;cases h;simp only[bJ] at h1;obtain ⟨⟨k1,k3⟩,k4,k5,k6⟩:=h1;obtain rfl:=(beq_iff _ _).1 k1;obtain rfl:=(beq_iff _ _).1 k3;obtain ⟨hp,hn,hpp,_⟩:=ho;rw[gD] at hp;have hn:n0=n:=hn;subst hn;obtain ⟨φ',c',a1,a2⟩:=r.cls hb hb2 hpp hp.1 hp.2 (afN hx) k4 ((bN _ _).1 k5) (λe=>by rw[(beq_iff _ _).2 e] at k6;cases k6)
  exact ⟨φ',c',a1,a2.sub (λ_ _ h=>h) λk b h=>xS.symm.trans h⟩
 ·cases h
def aCj {gp:Gp} (gD:∀P,(ob P).need=P) (h:Kh pn s gp ob=V q) (ho:jA q.1):kJ pn s q.2:=by
 cases gp with
 |eB K m n=>
  obtain ⟨b,hb,h⟩:=aq h;cases h;exact .mk λr=>by
   obtain ⟨F',c',hF,_,r'⟩:=r.eB (m:=m) gD hb ho;exact ⟨F',_,_,c',hF,λ_ _=>rfl,r'⟩
 |thw K=>
  obtain ⟨b,hb,h⟩:=aq h;split at h
  ·cases h;exact .mk λr=>by
    obtain ⟨F',φ',c',hF,r'⟩:=r.thaw hb;exact ⟨F',_,φ',c',hF,λ_ _=>rfl,r'⟩
  ·cases h
 |ja K K'=>
  obtain ⟨h1,h⟩:=aZ h;cases h;simp only[bJ] at h1;exact kJ.ja (xX h1.1) (by simpa using h1.2.1) (by simpa using h1.2.2)
 |born ts cs K z e sz=>
  obtain ⟨h1,h⟩:=aZ h;cases h;rw[bJ] at h1;exact kJ.born (xX h1.1) (by simpa using h1.2)
 |shr K u P=>
  obtain ⟨b,hb,h⟩:=aq h;split at h
  ·cases h;have hp:=ho.1;rw[gD] at hp;exact kJ.shr hb hp
  ·cases h
 |opn K K2 j f e2 s2 n rows Q'=>
  obtain ⟨b,hb,h⟩:=aq h;split at h
  ·rename_i z e sz l Q o;obtain ⟨x,hx,h⟩:=aq h;obtain ⟨h1,h⟩:=aZ h;cases h;simp only[bJ] at h1;have hp:=ho.1;rw[gD] at hp;refine (kJ.opn hb hp (afN hx) (xX h1.1) (by simpa using h1.2.1) (by simpa using h1.2.2)).trans (kJ.lks (λ_=>rfl) λk=> ?_)
   show lk k ((K2,_)::(K,_)::lI K s.bs)=lk k ((K2,_)::(K,_)::s.bs);rw[dD,dD (k:=K2),xS];rfl
  ·cases h
 |cls K K2 j f n Q'=>exact .mk λr=>
  let ⟨φ',c',_,r'⟩:=r.gcls gD h ho;⟨_,_,φ',c',.refl _,λ_ _=>rfl,r'⟩
 |cld K j f y Q'=>
  obtain ⟨b,hb,h⟩:=aq h;split at h
  ·rename_i z e sz l Q p x o;obtain ⟨y',hy,h⟩:=aq h;obtain ⟨h1,h⟩:=aZ h;cases h;obtain ⟨hp,hpp,_⟩:=ho;rw[gD] at hp;exact kJ.JL hb λq=>eQ.cld hpp hp hy ((bN _ _).1 h1) q
  ·cases h
 |gx t y=>
  obtain ⟨x,hx,h⟩:=aq h;cases h;have hp:=ho.1;rw[gD] at hp;subst hp;refine kJ.lks (λk=> ?_) λ_=>rfl
  show lk k ((t,x)::lI t s.ts)=_;rw[xS,dD];split
  ·rename_i e;rw[e,hx]
  ·rfl
 |bis K b=>
  obtain ⟨x,hx,h⟩:=aq h;cases h;have hp:=ho.1;rw[gD] at hp;subst hp;refine kJ.lks (λ_=>rfl) λk=> ?_
  show lk k ((K,x)::lI K s.bs)=_;rw[xS,dD];split
  ·rename_i e;rw[e,hx]
  ·rfl
 |qc t w=>
  obtain ⟨x,hx,h⟩:=aq h;cases h;refine .mk λ{F g Y c T H} r=>⟨F,g,Y,c,.refl _,λ_ _=>rfl,{r with tm:=λk y hy hn=> ?_}⟩
  rw[show ({ts:=(t,cv w x)::lI t s.ts,bs:=s.bs}:LS).ts=(t,cv w x)::lI t s.ts from rfl,xS,dD] at hy;split at hy
  ·rename_i e;cases hy;obtain ⟨v,v1,v2⟩:=r.tm t x hx λe=>hn (by rw[e];exact RV w)
   exact ⟨v,e ▸ v1,Gd v2⟩
  ·exact r.tm k y hy hn
 |nQ K w=>
  obtain ⟨b,hb,h⟩:=aq h;cases h;exact kJ.JL hb λq=>⟨_,.refl _,ahM q⟩
 |brw K W=>
  obtain ⟨b,hb,h⟩:=aq h;split at h
  ·obtain ⟨ha,h⟩:=aZ h;cases h;exact kJ.JL hb λq=>q.brw ha
  ·cases h
end
end Go.bL
namespace Go.bL
open Go.RowKit
variable {f nx nx' K k j i:Nat} {v:SV} {H' F1:Hf} {o:SO} {bs gP:cZ} {c1 c':Nat->cB} {gc:Gb} {φ':Nat->Ow}
section
variable {F F':Hf} {g g':Gb} {Y:Nat->Ow} {c:Nat->cB} {s s':LS} {T:Tf} {H:Hf} {E:Env} {pn:Nat->Bool}
def oc (k:Nat):Bool:=kN 1152921504606846976 k
def evK (k:Nat):Bool:=iX (aa1 (O' k 4294967296) 2) 0
def pnL (ks:bP) (k:Nat):Bool:=oc k||(evK k&&mW k ks)
def xq (bs:cZ):bP:=bs.map (·.1)
def noT:Tf:=λ_=>G
structure kX (ro:Bool) (E:Env) (f:Nat) (bs:cZ) (xs:bc) (y:AV) (gP:cZ):Prop where
 go:∀{F:Hf} {g:Gb} {Y:Nat->Ow} {c:Nat->cB} {H:Hf} {nx:Nat} {aa:bf},Rel F g Y c ⟨[],bs⟩ noT H->(∀x,nx<=x->H x=G)->dK F g aa xs->∃F' g' φ' c' v H' nx',rE E B (.fn (.func f) [] []) aa H nx v H' nx'/\nx<=nx'/\(∀x,nx'<=x->H' x=G)/\
  od F F'/\(∀k,pnL (xq bs) k=M->g' k=g k)/\VA F' g' v y/\Rel F' g' φ' c' ⟨[],gP⟩ noT H'/\(∀x,x<nx->H' x≠G->H x≠G)/\(ro=M->∀x,H x≠G->H' x=H x/\c' x=c x)
abbrev iA (E:Env) (f:Nat) (bs:cZ) (xs:bc) (y:AV) (gP:cZ):Prop:=kX B E f bs xs y gP
def avV {fi aa ca:bf} (h:rE E B (.fn (.func f) [] []) (fi++aa++ca) H nx v H' nx'):rE E B (.fn (.func f) fi ca) aa H nx v H' nx':=λm g w u us hE hr nN hu oA=>by
 cases hu with
 | @fn _ first kz _ _ h1 h2=>
 have h0:VR g (.func (.func f) #[] #[]) (.fn (.func f) [] []):=.fn .nil .nil;obtain ⟨d,hd,hc⟩:=h m g w _ (first.toList++us++kz.toList) hE hr nN h0 ((h1.append oA).append h2)
 have hd:Result.ok ({target:=.fn (.func f) #[],args:= #[]++(first.toList++us++kz.toList).toArray}:Deferred) w=Result.ok d w:=hd
 injection hd with e
 subst e;have key:invoke (.fn (.func f) #[]) (#[]++(first.toList++us++kz.toList).toArray)=invoke (.fn (.func f) kz) (first++us.toArray):=by
  show callFunc f (#[]++(first.toList++us++kz.toList).toArray++ #[])=callFunc f (first++us.toArray++kz)
  congr 1;apply Bt;simp
 refine ⟨{target:=.fn (.func f) kz,args:=first++us.toArray},rfl,?_⟩
 show (∃k aa,Sem.run E.P (invoke (.fn (.func f) kz) (first++us.toArray)) w=_/\_)\/(∃l k tmps aa bo,Sem.run E.P (invoke (.fn (.func f) kz) (first++us.toArray)) w=_/\_)\/∃r w',Sem.run E.P (invoke (.fn (.func f) kz) (first++us.toArray)) w=_/\_
 rw[<-key];exact hc
abbrev iJ:=List (Nat×Nat)
def jX (al:iJ):iJ:=al.map λq=>(q.2,q.1)
def tL (al:iJ) (K:Nat):Nat:=(lk K al).getD K
def RK (l:iJ) (K:Nat):Bool:=(lk K l).isSome
def Df (al:iJ):Bool:=al.all λq=>iX (tL al q.1) q.2&&iX (tL (jX al) q.2) q.1
def idP (al:iJ) (k:Nat):Bool:=oc k&&(!RK al k && !RK (jX al) k)
def H7 {J:Type} {t:Nat} {x:J}:∀{l:List (Nat×J)},(t,x)∈l->∃y,lk t l=V y
 |(k,y)::l,h=>by
  rw[dD];split
  ·exact ⟨_,rfl⟩
  ·rename_i e;rcases da.1 h with h|h
   ·exact absurd (bH Prod.fst h) e
   ·exact H7 h
def Mx {J:Type} {t:Nat} {x:J} (b:List (Nat×J)):∀{a:List (Nat×J)},lk t a=V x->lk t (a++b)=V x
 |(k,y)::a,h=>by
  rw[wC];rw[dD] at h ⊢;split
  ·rename_i e;rw[aF e] at h;exact h
  ·rename_i e;rw[aC e] at h;exact Mx b h
def v7 {l:iJ} (h:lk K l=V k):tL l K=k:=by unfold tL;rw[h];rfl
def EO {al:iJ} (hg:Df al=M) (h:(K,k)∈al):lk K al=V k/\lk k (jX al)=V K:=by
 have:=j4.1 ((j1.1 hg) (K,k) h);obtain ⟨j,hj⟩:=H7 h;obtain ⟨j',hj'⟩:=H7 (l:=jX al) (dJ.2 ⟨(K,k),h,rfl⟩);have e1:=(beq_iff _ _).1 this.1;have e2:=(beq_iff _ _).1 this.2;rw[v7 hj] at e1;rw[v7 hj'] at e2;exact ⟨(show j=k from e1) ▸ hj,(show j'=K from e2) ▸ hj'⟩
def vY {al:iJ} (hg:Df al=M):lk k (jX al)=V K↔lk K al=V k:=by
 constructor
 ·intro h;obtain ⟨q,hq,e⟩:=dJ.1 (pJ h);cases e;exact (EO hg hq).1
 ·exact λh=>(EO hg (pJ h)).2
def anx {l:iJ} (h:(!RK l k)=M):lk k l=G:=by
 unfold RK at h;cases hl:lk k l with
 |none=>rfl
 |some j=>rw[hl] at h;cases h
def ahd {al:iJ} (h:idP al k=M):oc k=M/\lk k al=G/\lk k (jX al)=G:=by
 have h:=j4.1 (show (oc k&&(!RK al k && !RK (jX al) k))=M from h);have h2:=j4.1 h.2;exact ⟨h.1,anx h2.1,anx h2.2⟩
def Ip {l:iJ} (h:lk k l=G):tL l k=k:=by unfold tL;rw[h];rfl
def inK (ps al:iJ) (k:Nat):Bool:=RK ps k||idP al k
def blP (al:iJ) (k:Nat):Bool:=match lk k al with|some k'=>oc k'|none=>B
def inP (ps al:iJ) (k:Nat):Bool:=inK ps al k||blP al k
def FM (al:iJ):iJ:=al.filter λq=> !oc q.2
def awZ {al:iJ} (hg:Df al=M):lk j (FM al)=V k↔lk j al=V k/\oc k=B:=by
 have fwd:∀{k},lk j (FM al)=V k->lk j al=V k/\oc k=B:=λ{k} h=>by
  obtain ⟨h1,h2⟩:=mD.1 (pJ h);exact ⟨(EO hg h1).1,by simpa using h2⟩
 refine ⟨fwd,λ⟨h1,h2⟩=> ?_⟩
 obtain ⟨y,hy⟩:=H7 (l:=FM al) (mD.2 ⟨pJ h1,by simp[h2]⟩)
 have:=(fwd hy).1;rw[h1] at this;cases this;exact hy
def QP {al:iJ} (hg:Df al=M) (h:lk j (FM al)=G) (hk:lk j al=V k):oc k=M:=by
 cases hb:oc k with
 |true=>rfl
 |false=>rw[(awZ hg).2 ⟨hk,hb⟩] at h;cases h
def Tn (ps al:iJ) (sb:cZ):cZ->A cZ
 | []=>V []
 |p::l=>cj (ay (lk p.1 (jX ps)) λK=>lk K sb) (Tn ps al sb l) λb r=>aS (b.keys.all (inP ps al)) (V ((p.1,cvX p.2 (b.ja (tL al)))::r)) G
def agl {ps al:iJ} {sb:cZ} {k:Nat} {b':Bx}:∀{l r:cZ},Tn ps al sb l=V r->lk k r=V b'->∃K b w,lk k (jX ps)=V K/\lk K sb=V b/\b.keys.all (inP ps al)=M/\b'=cvX w (b.ja (tL al))
 | [],r,h,hk=>by cases h;cases hk
 |p::l,r,h,hk=>by
  obtain ⟨b,r',h1,h2,h⟩:=bT h;obtain ⟨K,hK,hb⟩:=aq h1;obtain ⟨h3,h⟩:=aZ h;cases h;rw[dD] at hk;split at hk
  ·rename_i e;cases hk;exact ⟨K,b,p.2,e ▸ hK,hb,h3,rfl⟩
  ·exact agl h2 hk
open Classical in
def sK (F:Hf) (c:Nat->cB) (ps:iJ) (H:Hf):Hf:=λi=>if F i≠G\/∃K,c i=V K/\lk K ps≠G then H i else G
def Rw {ps:iJ} (h:sK F c ps H i=V o):H i=V o:=by
 unfold sK at h;split at h
 ·exact h
 ·cases h
def aQH {ps rs:iJ} (hg:Df (ps++rs)=M):lk k (jX ps)=V K->lk K ps=V k/\lk K (ps++rs)=V k/\tL (jX (ps++rs)) k=K:=λh=>by
 obtain ⟨q,hq,e⟩:=dJ.1 (pJ h);cases e;obtain ⟨a,b⟩:=EO hg (iu _ hq);obtain ⟨j,hj⟩:=H7 hq;have:=Mx rs hj;rw[a] at this;cases this;exact ⟨hj,a,v7 b⟩
def aFJ {ps rs:iJ} (hg:Df (ps++rs)=M) (h:inP ps (ps++rs) j=M):g (tL (jX (ps++rs)) (tL (ps++rs) j))=g j:=by
 rcases (sU _ _).mp h with h|h
 rcases (sU _ _).mp h with h|h
 ·obtain ⟨k,hk⟩:=OA.1 (show (lk j ps).isSome=M from h);obtain ⟨a,b⟩:=EO hg (iu _ (pJ hk));rw[v7 a,v7 b]
 ·obtain ⟨_,a,b⟩:=ahd h;rw[Ip a,Ip b]
 ·unfold blP at h;split at h
  ·rename_i k hk;rw[v7 hk,v7 ((vY hg).2 hk)]
  ·cases h
def Rel.enter (r:Rel F g Y c s T H) {ps rs:iJ} {bsw:cZ} (hg:Df (ps++rs)=M) (hp:Tn ps (ps++rs) s.bs bsw=V bs):
  Rel F (λk=>g (tL (jX (ps++rs)) k)) (λk=>Y (tL (jX (ps++rs)) k)) (λi=>(c i).bind λK=>lk K ps) ⟨[],bs⟩ noT (sK F c ps H):=by
 refine ⟨λt x hx=>(by cases hx),λk b' hk=> ?_,λi o hi=>⟨?_,?_⟩,λi hi=> ?_⟩
 ·obtain ⟨K,b,w,h1,h2,h3,rfl⟩:=agl hp hk;obtain ⟨a1,a2,a3⟩:=aQH hg h1;obtain ⟨q1,q2,q3⟩:=r.bx K b h2;rw[a3];refine ⟨ahM (q1.mv (.refl F) (bH g a3) λj hj=>aFJ hg (j1.1 h3 j hj)),q2,λp hp=> ?_⟩
  obtain ⟨p1,p2⟩:=q3 p hp;refine ⟨?_,by rw[p2];exact a1⟩
  show (if F p.1≠G\/∃K,c p.1=V K/\lk K ps≠G then H p.1 else G)=_
  rw[aF (.inr ⟨K,p2,by rw[a1];simp⟩)]
  exact p1
 ·show (if F i≠G\/∃K,c i=V K/\lk K ps≠G then H i else G)=_
  rw[aF (.inl (by rw[hi];simp))]
  exact (r.fr i o hi).1
 ·rw[(r.fr i o hi).2];rfl
 ·have hi:(if F i≠G\/∃K,c i=V K/\lk K ps≠G then H i else G)=G:=hi
  cases hc:c i with
  |none=>rfl
  |some K=>
   split at hi
   ·rw[r.cn i hi] at hc;cases hc
   ·rename_i h;show lk K ps=G;exact ql λhn=>h (.inr ⟨K,hc,hn⟩)
def aqs (al:iJ):cZ->A cZ
 | []=>V []
 |p::l=>cj (lk p.1 (jX al)) (aqs al l) λK r=>aS (!oc p.1&&p.2.keys.all (inK (jX al) al)) (V ((K,p.2.ja (tL (jX al)))::r)) G
def ans {al:iJ} {K:Nat} {b':Bx}:∀{l r:cZ},aqs al l=V r->lk K r=V b'->∃k b,(k,b)∈l/\lk k (jX al)=V K/\(oc k=B/\b.keys.all (inK (jX al) al)=M)/\b'=b.ja (tL (jX al))
 | [],r,h,hk=>by cases h;cases hk
 |p::l,r,h,hk=>by
  obtain ⟨K',r',h1,h2,h⟩:=bT h;obtain ⟨h3,h⟩:=aZ h;cases h;rw[dD] at hk;split at hk
  ·rename_i e;cases hk;exact ⟨p.1,p.2,by simp,e ▸ h1,by simpa[bJ] using h3,rfl⟩
  ·obtain ⟨k,b,m1,m2,m3,m4⟩:=ans h2 hk;exact ⟨k,b,dW _ m1,m2,m3,m4⟩
def ahL (l:cZ):Bool:=match l with| []=>M|p::l=>(lk p.1 l).isNone&&ahL l
def anY {k:Nat} {b:Bx}:∀{l:cZ},ahL l=M->(k,b)∈l->lk k l=V b
 |p::l,h,hm=>by
  have h:=j4.1 (show ((lk p.1 l).isNone&&ahL l)=M from h);rw[show p::l=(p.1,p.2)::l from rfl,dD];rcases da.1 hm with e|hm
  ·rw[<-e,aF rfl]
  ·split
   ·rename_i e;obtain ⟨y,hy⟩:=H7 hm;rw[e] at hy;rw[hy] at h;cases h.1
   ·exact anY h.2 hm
def Kt (al:iJ) (l:cZ):cZ:=
 match al with
 | []=>l
 |q::al=>lI q.1 (Kt al l)
def agI {k:Nat} {b:Bx}:∀{al:iJ} {l:cZ},lk k (Kt al l)=V b->lk k l=V b/\lk k al=G
 | [],_,h=>⟨h,rfl⟩
 |q::al,l,h=>by
  have h:lk k (lI q.1 (Kt al l))=V b:=h;rw[xR] at h;split at h
  ·cases h
  ·rename_i e;obtain ⟨a,b⟩:=agI h;exact ⟨a,by rw[show q::al=(q.1,q.2)::al from rfl,dD,aC e];exact b⟩
def LS.zl (s:LS):bP->LS
 | []=>s
 |K::l=>(s.pA K).zl l
def Rel.zl:∀{l:bP} {s:LS},Rel F g Y c s T H->Rel F g Y c (s.zl l) T H
 | [],_,r=>r
 |K::l,s,r=>show Rel F g Y c ((s.pA K).zl l) T H from Rel.zl (r.pA K)
def Rel.leave (r:Rel F g Y c s T H) (nO:∀x,nx<=x->H x=G) {F2:Hf} (qE:∀i k,c1 i=V k->c i=V k) (hF1:od F F1) (hf1:∀i o,F1 i=V o->H i=V o/\c1 i=G) {ps rs:iJ} {out:cZ} (hg:Df (ps++rs)=M) (hnb:(ps.all λq=> !oc q.2)=M) (hgc:gc=λk=>g (tL (jX (ps++rs)) k)) (hF':od F1 F') (r':Rel F' g' φ' c' ⟨[],gP⟩ noT H') (hold:∀x,x<nx->H' x≠G->sK F1 c1 ps H x≠G) (hbd':∀x,nx'<=x->H' x=G) (nN:nx<=nx') (hA:od F F2) (hB:∀i o,F2 i=V o->F' i=V o/\(F1 i≠G->F i≠G)) (hbx:∀k b L,lk k gP=V b->eQ F' g' k b L->eQ F2 g' k b L) (ho:aqs (ps++rs) gP=V out) (hdup:ahL gP=M) (rW:∀k,oc k=M->g' k=gc k) (ard:∀K k,lk K (ps++rs)=V k->g' k=gc k\/(∀t x,lk t s.ts=V x->K∉kU x)/\∀j b,lk j s.bs=V b->K∉b.keys):
  ∃g2 φ2 c2 H2,(∀K,lk K (ps++rs)=G->g2 K=g K)/\(∀K k,lk K (ps++rs)=V k->g2 K=g' k)/\Rel F2 g2 φ2 c2 ⟨s.ts,out++Kt (FM (ps++rs)) s.bs⟩ T H2/\(∀x,nx'<=x->H2 x=G)/\
   (∀x,H x≠G->(∀K,c x=V K->lk K ps=G)->H2 x=H x/\c2 x=c x)/\(∀x,x<nx->H2 x≠G->H x≠G)/\(∀x,H' x≠sK F1 c1 ps H x->H2 x=H' x)/\(∀x,H' x=sK F1 c1 ps H x->H2 x=H x)/\∀x,H x≠G->(sK F1 c1 ps H x≠G->H' x=sK F1 c1 ps H x/\c' x=(c1 x).bind λK=>lk K ps)->H2 x=H x/\c2 x=c x:=by
 classical
 generalize EM:ps++rs=al at*;let H0:=sK F1 c1 ps H;let H2:Hf:=λx=>if H' x≠H0 x then H' x else H x
 let dom:Nat->Prop:=λi=>nx<=i\/∃K,c1 i=V K/\lk K ps≠G
 let c2:Nat->cB:=λi=>if dom i then (c' i).bind λk=>lk k (jX al) else c i
 let g2:Gb:=λj=>(lk j al).elim (g j) λk=>g' k
 let φ2:Nat->Ow:=λj=>(lk j (FM al)).elim (Y j) λk=>φ' k
 have aDr:∀{i o},H0 i=V o->H i=V o:=Rw;have up:∀{i o},H' i=V o->H2 i=V o:=λ{i o} hi=>by
  show (if H' i≠H0 i then H' i else H i)=_
  split
  ·exact hi
  ·rename_i h;have h:H' i=H0 i:=ql h;exact aDr (h ▸ hi)
 have H0F:∀{i},H0 i≠G->¬dom i->F1 i≠G:=λ{i} h hd hf=>by
  refine h ?_;show (if F1 i≠G\/∃K,c1 i=V K/\lk K ps≠G then H i else G)=G
  rw[aC];rintro (h1|h1)
  ·exact h1 hf
  ·exact hd (.inr h1)
 have aDz:∀{i},F1 i≠G->∃o,F1 i=V o/\H' i=V o/\H0 i=V o/\c' i=G:=λ{i} h=>by
  obtain ⟨o,ho⟩:=uR.1 h;obtain ⟨a,b⟩:=r'.fr i o (hF' i o ho);refine ⟨o,ho,a,?_,b⟩;show (if F1 i≠G\/∃K,c1 i=V K/\lk K ps≠G then H i else G)=_
  rw[aF (.inl h)];exact (hf1 i o ho).1
 have same:∀{x},H x≠G->¬dom x->H2 x=H x/\c2 x=c x:=λ{x} hx hd=>by
  refine ⟨?_,aC hd⟩;show (if H' x≠H0 x then H' x else H x)=_
  split
  ·rename_i cR;exfalso;by_cases h0:H0 x=G
   ·exact hold x (yU λh=>hd (.inl h)) (λe=>cR (e.trans h0.symm)) h0
   ·obtain ⟨o,_,a,b,_⟩:=aDz (H0F h0 hd);exact cR (a.trans b.symm)
  ·rfl
 have lt:∀{x},H x≠G->x<nx:=λ{x} hx=>yU λh=>hx (nO x h)
 have g2n:∀{j},lk j al=G->g2 j=g j:=λ{j} h=>by show (lk j al).elim _ _=_;rw[h];rfl
 have g2s:∀{j k},lk j al=V k->g2 j=g' k:=λ{j k} h=>by show (lk j al).elim _ _=_;rw[h];rfl
 have gcK:∀{K k},lk K al=V k->gc k=g K:=λ{K k} h=>by rw[hgc];show g (tL (jX al) k)=_;rw[v7 ((vY hg).2 h)]
 have keep:∀{j},((∃t x,lk t s.ts=V x/\j∈kU x)\/∃i b,lk i s.bs=V b/\j∈b.keys)->g2 j=g j:=λ{j} hj=>by
  cases h:lk j al with
  |none=>exact g2n h
  |some k=>
   rw[g2s h];rcases ard j k h with e|⟨e1,e2⟩
   ·rw[e,gcK h]
   ·rcases hj with ⟨t,x,h1,h2⟩|⟨i,b,h1,h2⟩
    ·exact absurd h2 (e1 t x h1)
    ·exact absurd h2 (e2 i b h1)
 refine ⟨g2,φ2,c2,H2,λK=>g2n,λK k=>g2s,⟨λt x hx hu=> ?_,λj b hj=> ?_,λi o hi=> ?_,λi hi=> ?_⟩,λx hx=> ?_,λx hx hW=>same hx ?_,λx hx h2=> ?_,λx h=>aF h,λx h=>aC (λhn=>hn h),λx hx hl=> ?_⟩
 ·obtain ⟨v,v1,v2⟩:=r.tm t x hx hu;exact ⟨v,v1,v2.same hA λk hk=>keep (.inl ⟨t,x,hx,hk⟩)⟩
 ·have hj:lk j (out++Kt (FM al) s.bs)=V b:=hj;cases ahl:lk j out with
  |some b1=>
   rw[Mx _ ahl] at hj;cases hj;obtain ⟨k,b0,m1,m2,m3,rfl⟩:=ans ho ahl;have qZ:=anY hdup m1;have hja:=(vY hg).1 m2;obtain ⟨q1,q2,q3⟩:=r'.bx k b0 qZ;rw[show φ2 j=φ' k from by show (lk j (FM al)).elim _ _=_;rw[(awZ hg).2 ⟨hja,m3.1⟩];rfl]
   refine ⟨(hbx k b0 _ qZ q1).mv (.refl F2) (g2s hja) λi hi=> ?_,q2,λp hp=> ?_⟩
   ·rcases (sU _ _).mp (j1.1 m3.2 i hi) with h|h
    ·obtain ⟨K',hK'⟩:=OA.1 (show (lk i (jX al)).isSome=M from h);rw[v7 hK'];exact g2s ((vY hg).1 hK')
    ·obtain ⟨h1,h2,h3⟩:=ahd h;rw[Ip h3,g2n h2,rW i h1,hgc];show g i=g (tL (jX al) i);rw[Ip h3]
   ·obtain ⟨p1,p2⟩:=q3 p hp;refine ⟨up p1,?_⟩;have hd:dom p.1:=ql λhd=>by
     have h0:=hold p.1 (yU λh=>hd (.inl h)) (by rw[p1];simp)
     obtain ⟨_,_,_,_,h⟩:=aDz (H0F h0 hd);rw[h] at p2;cases p2
    show (if dom p.1 then _ else _)=_
    rw[aF hd,p2];exact m2
  |none=>
   have hj:lk j (Kt (FM al) s.bs)=V b:=by
    have key:∀{a:cZ} {d},lk j a=G->lk j (a++d)=lk j d:=λ{a d}=>by
     induction a with
     |nil=>exact λ_=>rfl
     |cons p a ih=>
      intro h;rw[show p::a=(p.1,p.2)::a from rfl,dD] at h;rw[show (p::a)++d=(p.1,p.2)::(a++d) from rfl,dD];split at h
      ·cases h
      ·rename_i e;rw[aC e];exact ih h
    rw[<-key ahl];exact hj
   obtain ⟨h1,h2⟩:=agI hj;obtain ⟨q1,q2,q3⟩:=r.bx j b h1;rw[show φ2 j=Y j from by show (lk j (FM al)).elim _ _=_;rw[h2];rfl]
   have hgj:g2 j=g j:=by
    cases hk:lk j al with
    |none=>exact g2n hk
    |some k=>rw[g2s hk,rW k (QP hg h2 hk),gcK hk]
   refine ⟨q1.same hA hgj λk hk=>keep (.inr ⟨j,b,h1,hk⟩),q2,λp hp=> ?_⟩
   obtain ⟨p1,p2⟩:=q3 p hp;have hd:¬dom p.1:=by
    rintro (h|⟨K,h3,h4⟩)
    ·rw[nO _ h] at p1;cases p1
    ·rw[qE _ _ h3] at p2;cases p2;refine h4 ?_;cases hp:lk j ps with
     |none=>rfl
     |some k=>
      have hk:lk j al=V k:=by rw[<-EM];exact Mx _ hp
      have hb:=QP hg h2 hk;have:=(j1.1 hnb) _ (pJ hp);rw[show oc (j,k).2=M from hb] at this;cases this
   obtain ⟨e1,e2⟩:=same (by rw[p1];simp) hd
   exact ⟨e1.trans p1,e2.trans p2⟩
 ·obtain ⟨h1,h2⟩:=hB i o hi;obtain ⟨h3,h4⟩:=r'.fr i o h1;refine ⟨up h3,?_⟩;show (if dom i then _ else _)=_
  split
  ·rw[h4];rfl
  ·rename_i hd;have h0:=hold i (yU λh=>hd (.inl h)) (by rw[h3];simp)
   obtain ⟨o',ho'⟩:=uR.1 (h2 (H0F h0 hd));exact (r.fr i o' ho').2
 ·show (if dom i then _ else _)=_
  have hi:(if H' i≠H0 i then H' i else H i)=G:=hi
  split
  ·have:H' i=G:=by
    split at hi
    ·exact hi
    ·rename_i h;have h:H' i=H0 i:=ql h;rw[h];cases h0:H0 i with
     |none=>rfl
     |some o=>rw[aDr h0] at hi;cases hi
   rw[r'.cn i this];rfl
  ·rename_i hd;split at hi
   ·rename_i h;exfalso;have h0:H0 i≠G:=λe=>h (hi.trans e.symm)
    obtain ⟨o,_,a,_,_⟩:=aDz (H0F h0 hd);rw[hi] at a;cases a
   ·exact r.cn i hi
 ·show (if H' x≠H0 x then H' x else H x)=G
  rw[hbd' x hx,nO x (kP nN hx)];split<;>rfl
 ·rintro (h|⟨K,h3,h4⟩)
  ·exact hx (nO x h)
  ·exact h4 (hW K (qE _ _ h3))
 ·have h2:(if H' x≠H0 x then H' x else H x)≠G:=h2
  split at h2
  ·intro hn;have h0:=hold x hx h2;obtain ⟨o,ho⟩:=uR.1 h0;rw[aDr ho] at hn;cases hn
  ·exact h2
 ·by_cases hd:dom x
  ·rcases hd with h|⟨K,h3,h4⟩
   ·exact absurd (nO x h) hx
   ·obtain ⟨k,hk⟩:=uR.1 h4;have hh:H0 x=H x:=aF (.inr ⟨K,h3,h4⟩);obtain ⟨e1,e2⟩:=hl (show H0 x≠G by rw[hh];exact hx)
    refine ⟨?_,?_⟩
    ·show (if H' x≠H0 x then H' x else H x)=_
     rw[aC (λhn=>hn e1)]
    ·show (if dom x then _ else _)=_
     rw[aF (.inr ⟨K,h3,h4⟩),e2,h3,qE _ _ h3];show (lk K ps).bind (λk=>lk k (jX al))=V K
     rw[hk];exact (vY hg).2 (by rw[<-EM];exact Mx _ hk)
  ·exact same hx hd
end
end Go.bL
namespace Go.bL
variable {all:nS} {o:N'} {K i new nx' k f:Nat} {x y:AV} {l W ks:bP} {ops:eY} {H0 H':Hf} {fv v:SV} {aa:bf} {ob:Prop->cJ} {L:Ow} {r:BL} {p:List cJ×LS} {g1:Gh} {xs:bc} {ro:Bool} {Rd:A bP} {J:Type} {bs:cZ}
section
variable {F F':Hf} {g g':Gb} {Y:Nat->Ow} {c:Nat->cB} {s s' s1:LS} {T:Tf} {H:Hf} {E:Env} {pn:Nat->Bool} {nt:Nat}
structure WS where
 F:Hf
 g:Gb
 Y:Nat->Ow
 c:Nat->cB
 m:MS
structure In (s:LS) (w:WS):Prop where
 r:Rel w.F w.g w.Y w.c s w.m.T w.m.H
 bd:∀x,w.m.nx<=x->w.m.H x=G
def uv:Nat:=576460756598390784
structure Ext (pn:Nat->Bool) (w w':WS):Prop where
 F:od w.F w'.F
 g:∀k,pn k=M->w'.g k=w.g k
 nx:w.m.nx<=w'.m.nx
 old:∀x,x<w.m.nx->w'.m.H x≠G->w.m.H x≠G
 ro:pn uv=M->∀x,w.m.H x≠G->w'.m.H x=w.m.H x/\w'.c x=w.c x
def Ext.refl (w:WS):Ext pn w w:=⟨.refl _,λ_ _=>rfl,cS _,λ_ _ h=>h,λ_ _ _=>⟨rfl,rfl⟩⟩
def Ext.trans {w w1 w2:WS} (a:Ext pn w w1) (b:Ext pn w1 w2):Ext pn w w2:=⟨a.F.trans b.F,λk h=>(b.g k h).trans (a.g k h),kP a.nx b.nx,λx hx h=>a.old x hx (b.old x (Bv hx a.nx) h),λh x hx=>have ⟨a1,a2⟩:=a.ro h x hx;have ⟨b1,b2⟩:=b.ro h x (a1 ▸ hx);⟨b1.trans a1,b2.trans a2⟩⟩
def JC (all:nS) (o:N') (ts:fq):A Bool:=
 match o.guard with
 |none=>V M
 |some p=>(match Mp all p.1 with
  |none=>V B
  |some t=>(match lk t ts with
   |some (.lit (.bool b))=>V (b==p.2)
   |some (.dq [])=>V B
   |_=>G))
def JB (r:Rel F g Y c s T H) {b:Bool} (h:JC all o s.ts=V b):kq all o T=V b:=by
 unfold JC at h;unfold kq;split at h
 ·rename_i e;rw[e];exact h
 ·rename_i p e;rw[e];show yi all T p.1 p.2=V b;unfold yi;split at h
  ·rename_i e;rw[e];exact h
  ·rename_i t e;rw[e];show ay (T t) (apB p.2)=V b;split at h
   ·rename_i hl;obtain ⟨v,v1,v2⟩:=r.tm t _ hl (by simp)
    cases v2;rw[v1];exact h
   ·rename_i hl;obtain ⟨v,v1,v2⟩:=r.tm t _ hl (by simp)
    cases v2 with|dq q=>cases q;rw[v1];exact h
   ·cases h
def rdL (s:LS) (x:C'):A bP:=
 match dN s.ts x with
 | .lit v=>(match lH (V v) with| []=>V []|_=>G)
 | .sl .. =>V []
 | .kH _=>V []
 | .agg _=>V []
 | .dq _=>V []
 | .fn .. =>V []
 | .el K _ _ _=>ay (lk K s.bs) λ_=>V [K]
 | .ms K _ _ _=>ay (lk K s.bs) λ_=>V [K]
 | .mp K=>(match lk K s.bs with|some (.map _)=>V [K]|_=>G)
 | .it K=>(match lk K s.bs with|some (.iter _ _)=>V [K]|_=>G)
 | .undef=>G
def JN (s:LS):List C'->A bP
 | []=>V []
 |x::l=>cj (rdL s x) (JN s l) λa b=>V (a++b)
def agq (s:LS) (op:Op):A bP:=
 match op with
 | .load _ x=>JN s [x]
 | .store _ x y=>JN s [x,y]
 | .lookup _ x k _=>JN s [x,k]
 | .mapUpdate _ m k x=>JN s [m,k,x]
 | .insert _ _ _ _=>G
 | .next it _=>JN s [it]
 | .range _ x=>JN s [x]
 | .call c=>JN s c.args.toList
 |_=>V []
def Rel.head (r:Rel F g Y c s T H) {b:Bx} (hb:lk K s.bs=V b) (sE:(g K).b=M):c (g K).n=V K:=by
 obtain ⟨q,_,q3⟩:=r.bx K b hb;generalize Y K=L at q q3;cases q with
 |flat=>exact (q3 _ kg).2
 |nil h=>rw[h] at sE;cases sE
 |bY=>exact (q3 _ kg).2
 |map=>exact (q3 _ kg).2
 |iter=>exact (q3 _ kg).2
def aLk (r:Rel F g Y c s T H) {x:C'} (h:rdL s x=V l):∀i∈lH (dt T x),F i≠G\/∃K∈l,c i=V K:=λi hi=>by
 have key:∀{y},dN s.ts x=y->y≠ .undef->∃v,VA F g v y/\i∈lH (V v):=λhy hu=>by
  obtain ⟨v,v1,v2⟩:=r.val hy hu;rw[v1] at hi;exact ⟨v,v2,hi⟩
 have one:∀{j k:Nat},i∈ [j]->c j=V k->F i≠G\/∃K∈ [k],c i=V K:=λh e=>.inr ⟨_,kg,by rw[gg.1 h];exact e⟩
 unfold rdL at h;split at h
 ·rename_i v hv;obtain ⟨w,w1,w2⟩:=key hv (by simp)
  cases w1;split at h
  ·rename_i e;rw[e] at w2;cases w2
  ·cases h
 ·rename_i hv;obtain ⟨w,w1,w2⟩:=key hv (by simp)
  cases w1 with
  |nil=>cases w2
  |sle=>cases w2
  |sl hn hF=>exact .inl (by rw[gg.1 w2];obtain ⟨o,ho⟩:=aay hF;rw[ho];simp)
 ·rename_i hv;obtain ⟨w,w1,w2⟩:=key hv (by simp)
  cases w1 with
  |kH hF=>exact .inl (by rw[gg.1 w2];obtain ⟨o,ho⟩:=aay hF;rw[ho];simp)
 ·rename_i hv;obtain ⟨w,w1,w2⟩:=key hv (by simp)
  cases w1;cases w2
 ·rename_i hv;obtain ⟨w,w1,w2⟩:=key hv (by simp)
  cases w1;cases w2
 ·rename_i hv;obtain ⟨w,w1,w2⟩:=key hv (by simp)
  cases w1;cases w2
 ·rename_i hv;obtain ⟨b,hb,h⟩:=aq h;cases h;obtain ⟨w,w1,w2⟩:=key hv (by simp)
  cases w1 with|el _ _ _ _ sE=>exact one w2 (r.head hb sE)
 ·rename_i hv;obtain ⟨b,hb,h⟩:=aq h;cases h;obtain ⟨w,w1,w2⟩:=key hv (by simp)
  cases w1 with
  |sA=>cases w2
  |zb=>cases w2
  |ms _ _ _ sE=>exact one w2 (r.head hb sE)
 ·rename_i hv;split at h
  ·rename_i hb;cases h;obtain ⟨w,w1,w2⟩:=key hv (by simp)
   cases w1;obtain ⟨q,_,q3⟩:=r.bx _ _ hb;generalize Y _=L at q q3;cases q with|map=>exact one w2 (q3 _ kg).2
  ·cases h
 ·rename_i hv;split at h
  ·rename_i hb;cases h;obtain ⟨w,w1,w2⟩:=key hv (by simp)
   cases w1;obtain ⟨q,_,q3⟩:=r.bx _ _ hb;generalize Y _=L at q q3;cases q with|iter=>exact one w2 (q3 _ kg).2
  ·cases h
 ·cases h
def YW (r:Rel F g Y c s T H):∀{xs:List C'} {l:bP},JN s xs=V l->∀i∈qS T xs,F i≠G\/∃K∈l,c i=V K
 | [],_,_,i,hi=>by cases hi
 |x::xs,l,h,i,hi=>by
  obtain ⟨a,b,h1,h2,h⟩:=bT h;cases h;rcases eV.1 hi with hi|hi
  ·exact (aLk r h1 i hi).imp_right λ⟨K,m,e⟩=>⟨K,iu _ m,e⟩
  ·exact (YW r h2 i hi).imp_right λ⟨K,m,e⟩=>⟨K,jo _ m,e⟩
def ahc {T:Tf}:∀{xs:List C'},∀i∈J7 T xs,i∈qS T xs
 |x::xs,i,hi=>by
  rcases eV.1 (show i∈idM (dt T x)++J7 T xs from hi) with hi|hi
  ·refine iu _ ?_;generalize dt T x=v at hi;unfold idM at hi;split at hi
   ·exact hi
   ·cases hi
  ·exact jo _ (ahc i hi)
def aIW (r:Rel F g Y c s T H) {op:Op} (h:agq s op=V l):∀i∈O6 op T,F i≠G\/∃K∈l,c i=V K:=by
 cases op<;>first
  |exact YW r h
  |exact λi hi=>nomatch (show i∈ [] from hi)
  |(cases (show G=V l from h);done)
  |(
   rename_i c
   intro i hi
   refine YW r h i ?_
   have hi:i∈aS (vT c) (J7 T c.args.toList) (qS T c.args.toList):=hi
   rw[cI] at hi
   split at hi
   ·exact ahc i hi
   ·exact hi)
structure Ev where
 i:Nat
 nw:Nat
 r:Sr1
 W:bP
 Rd:Option bP
 cl:Bool
structure Step (E:Env) (nt:Nat) (pn:Nat->Bool) (ops:eY) (e:Ev) (w w':WS):Prop where
 st:∃o,ops[e.i]? =V o/\qX E nt ops e.i o w.m e.r w'.m
 F:od w.F w'.F
 g:∀k,pn k=M->w'.g k=w.g k
 nx:w.m.nx<=w'.m.nx
 need:∀l,e.Rd=V l->∀x,e.r.need x->w.F x≠G\/∃K∈l,w.c x=V K
 D:∀x,e.r.D x=M->x=e.nw\/(e.cl=M/\w.m.nx<=x)\/∃K∈e.W,w.c x=V K
 fr:∀x,w.m.H x≠G->(∀K∈e.W,w.c x≠V K)->w'.m.H x=w.m.H x/\w'.c x=w.c x
 Gg:e.cl=B->(∀x k,w.c x=V k->w'.c x=V k\/w'.m.H x=G)/\(w'.m.H e.nw≠G->∃K∈e.W,w'.c e.nw=V K)
 born:∀x,w.m.H x=G->w'.m.H x≠G->x=e.nw\/w.m.nx<=x
 frp:∀x,e.r.frp x->x=e.nw\/(e.cl=M/\w.m.nx<=x)
 newp:∀x,e.r.newp x->(x=e.nw/\x<w'.m.nx)\/(e.cl=M/\w.m.nx<=x/\x<w'.m.nx)
def Step.op {op:Op} {w:WS} (hi:ops[i]? =V o) (he:o.op=op) (hk:Ok E pn op s s1 x W) (hw:JC ops.toList o s.ts=V M) (hd:nA nt o.dst=M) (h:In s w) (hn:w.m.H new=G) (nN:w.m.nx<=nx') (rl:new<nx'):
  ∃r w',Step E nt pn ops ⟨i,new,r,W,agq s op,B⟩ w w'/\In (s1.put o.dst x) w'/\w'.m.nx=nx':=by
 subst he;obtain ⟨v,us,g',φ',c',h1,h2,h3,h4,h5,h6,h7,h8⟩:=hk.go h.r hn;have live:∀{x},hZ w.m.H us x≠G->w.m.H x=G->x=new:=λ{x} cR h0=>by
  by_cases hm:x∈us.map (·.1)
  ·obtain ⟨u,hu,rfl⟩:=dJ.1 hm;rcases h6 u hu with e|⟨K,_,e⟩
   ·exact e
   ·rw[h.r.cn _ h0] at e;cases e
  ·rw[LX hm] at cR;exact absurd h0 cR
 refine ⟨_,⟨w.F,g',φ',c',_⟩,⟨⟨o,hi,qX.op hi (JB h.r hw) hd h1 hn nN⟩,.refl _,h4,nN,λl hl x hx=>aIW h.r hl x hx,λx hx=> ?_,h5,λ_=>⟨h7,h8⟩,λx h0 cR=>.inl (live cR h0),λx hx=>.inl hx,λx hx=>.inl ⟨hx.1,by rw[show x=new from hx.1];exact rl⟩⟩,⟨h3.put o.dst h2,λx hx=> ?_⟩,rfl⟩
 ·have hx:U (x∈us.map (·.1)\/x=new)=M:=hx
  rcases rH hx with hx|hx
  ·obtain ⟨u,hu,rfl⟩:=dJ.1 hx;exact (h6 u hu).imp_right λ⟨K,m,e⟩=>.inr ⟨K,m,e⟩
  ·exact .inl hx
 ·exact ql λcR=>by
   have:=live cR (h.bd x (kP nN hx));have hx:nx'<=x:=hx;omega
end
section
variable {F F':Hf} {g g':Gb} {Y:Nat->Ow} {c:Nat->cB} {s s' s1:LS} {T:Tf} {H:Hf} {E:Env} {pn:Nat->Bool} {nt:Nat}
def Step.skip {w:WS} (hi:ops[i]? =V o) (hw:JC ops.toList o s.ts=V B) (hd:nA nt o.dst=M) (h:In s w) (hn:w.m.H new=G) (nN:w.m.nx<=nx'):
  ∃r w',Step E nt pn ops ⟨i,new,r,[],V [],B⟩ w w'/\In (s.put o.dst (.dq [])) w'/\w'.m.nx=nx':=by
 have st:=qX.skip (E:=E) (nt:=nt) (ops:=ops) (i:=i) (new:=new) hi (JB h.r hw) hd hn;refine ⟨_,⟨w.F,w.g,w.Y,w.c,⟨eN w.m.T o.dst (.dq []),w.m.H,nx'⟩⟩,⟨⟨o,hi,⟨st.st,st.T,st.H,nN⟩⟩,.refl _,λ_ _=>rfl,nN,λl _ x hx=>(by cases hx),λx hx=>.inl (rH hx),λx _ _=>⟨rfl,rfl⟩,λ_=>⟨λ_ _ h=>.inl h,λh=>absurd hn h⟩,λx h0 cR=>absurd h0 cR,λx hx=>.inl hx,λx hx=>by cases hx⟩,⟨h.r.put o.dst λ_=>.dq .nil,λx hx=>h.bd x (kP nN hx)⟩,rfl⟩
open Classical in
def qX.aGM {m:MS} {c:Call} {H2:Hf} (hi:ops[i]? =V o) (hw:kq ops.toList o m.T=V M) (hd:nA nt o.dst=M) (gC:o.op= .call c) (hc:AU m.T c.callee=V fv) (has:gj m.T c.args.toList=V aa) (hs:rE E B fv aa H0 m.nx v H' nx') (hle:∀x y,H0 x=V y->m.H x=V y) (hb:∀x,m.nx<=x->m.H x=G) (hn:m.nx<=nx') (e1:∀x,H' x≠H0 x->H2 x=H' x) (e2:∀x,H' x=H0 x->H2 x=m.H x):
  qX E nt ops i o m ⟨v,λx=>U (H' x≠H0 x),H',λx=>H0 x≠G,λx=>m.nx<=x,λx=>m.nx<=x/\x<nx'⟩ ⟨eN m.T o.dst v,H2,nx'⟩:=by
 have h0:∀x,m.nx<=x->H0 x=G:=λx hx=>by
  cases h:H0 x with
  |none=>rfl
  |some y=>have:=hle x y h;rw[hb x hx] at this;cases this
 refine ⟨λro=> ?_,rfl,?_,hn⟩
 ·have key:=auY (E:=E) (ro:=ro) (nt:=nt) (D:=λx=>U (H' x≠H0 x)) hi hw hd gC hc has hs (λx hx _=>by simpa using hx) λx hx hl=>(show H' x=H0 x by simpa using hx).trans (h0 x hl)
  exact λm' g f T1 a w K Q hE jx hr hT Kf rl hk=>key m' g f T1 a w K Q hE jx hr hT (λx hx=>by
   obtain ⟨y,hy⟩:=uR.1 hx;rw[Kf x hx,hle x y hy,hy]) rl hk
 ·funext x;show H2 x=sm _ H' m.H x;unfold sm;split
  ·rename_i h;exact e1 x (by simpa using h)
  ·rename_i h;exact e2 x (by simpa using h)
mutual
def H3:AV->Bool
 | .agg cs=>vM cs
 | .dq cs=>vM cs
 | .fn _ a b=>vM a&&vM b
 | .sl .. =>B
 | .kH _=>B
 |_=>M
def vM:bc->Bool
 | []=>M
 |x::l=>H3 x&&vM l
end
mutual
def Tw:∀{x:AV} {v:SV},H3 x=M->VA F g v x->VA F' g v x
 | .agg cs,_,h,.agg q=>.agg (DL h q)
 | .dq cs,_,h,.dq q=>.dq (DL h q)
 | .fn f a b,_,h,.fn _ q1 q2=>have h:=j4.1 (show (vM a&&vM b)=M from h); .fn _ (DL h.1 q1) (DL h.2 q2)
 | .sl ..,_,h,_=>by cases (show B=M from h)
 | .kH _,_,h,_=>by cases (show B=M from h)
 | .lit _,_,_,.lit v=>.lit v
 | .el ..,_,_,.el K s j f hb=>.el K s j f hb
 | .ms ..,_,_,.sA s hb=>.sA s hb
 | .ms ..,_,_,.ms s lo n hb=>.ms s lo n hb
 | .ms ..,_,_,.zb s lo hl=>.zb s lo hl
 | .mp _,_,_,.mp K=>.mp K
 | .it _,_,_,.it K=>.it K
 | .undef,v,_,_=>.undef v
def DL:∀{x:bc} {v:bf},vM x=M->dK F g v x->dK F' g v x
 |_,_,_,.nil=>.nil
 |x::l,_,h,.cons q t=>have h:=j4.1 (show (H3 x&&vM l)=M from h); .cons (Tw h.1 q) (DL h.2 t)
end
def aDq (Q:bz):Prop:=∀r∈Q,vM r=M
def lB.H3:∀{l vs xs L},vM xs=M->lB F l vs xs L->lB F' l vs xs L
 |_,_,_,_,_,.nil=>.nil
 |l,_,x::xs,_,h,.cons q t=>by
  have h:=j4.1 (show (bL.H3 x&&vM xs)=M from h);refine .cons ?_ (t.H3 h.2);generalize l.headD .d=sh at q;cases q with
  |d q=>exact .d (Tw h.1 q)
  |any=>exact .any _
  |nil=>exact .nil
  |sl=>cases (show B=M from h.1)
def TR.H3:∀{l vs Q L},aDq Q->TR F l vs Q L->TR F' l vs Q L
 |_,_,_,_,_,.nil=>.nil
 |_,_,_,_,h,.cons q t=>.cons (q.H3 (h _ (by simp))) (t.H3 λr hr=>h r (dW _ hr))
def nodX (ob:Prop->cJ) (b:Bx):A (List cJ):=
 match b with
 | .flat _ cs=>aS (vM cs) (V []) G
 | .bY _ _ _ _ Q o=>aS (vM (o.map (·.2))) (V [ob (aDq Q)]) G
 | .iter _ _=>V []
 | .map _=>G
def aBf (ob:Prop->cJ):cZ->A (List cJ)
 | []=>V []
 |p::l=>cj (nodX ob p.2) (aBf ob l) λa r=>V (a++r)
def agz:∀{l:bc} {x:AV},vM l=M->x∈l->H3 x=M
 |y::l,x,h,hx=>by
  have h:=j4.1 (show (H3 y&&vM l)=M from h);rcases da.1 hx with rfl|hx
  ·exact h.1
  ·exact agz h.2 hx
def aIZ (gD:∀P,(ob P).need=P) {b:Bx} {r:List cJ} (h:nodX ob b=V r) (ho:jA r) (q:eQ F g k b L):eQ F' g k b L:=by
 cases q with
 |flat q=>exact .flat (DL (aZ h).1 q)
 |nil hb=>exact .nil hb
 |bY hb hz hu hc q hoA=>
  obtain ⟨h2,h⟩:=aZ h;cases h;have h3:=ho.1;rw[gD] at h3;refine .bY hb hz hu hc (q.H3 h3) λp hp=> ?_
  obtain ⟨v,v1,v2⟩:=hoA p hp;exact ⟨v,v1,Tw (agz h2 (dJ.2 ⟨p,hp,rfl⟩)) v2⟩
 |map=>cases h
 |iter=>exact .iter
def pD:∀{a b:List cJ},jA (a++b)->jA a/\jA b
 | [],_,h=>⟨trivial,h⟩
 |_::_,_,h=>⟨⟨h.1,(pD h.2).1⟩,(pD h.2).2⟩
def anz {ob:Prop->cJ} (gD:∀P,(ob P).need=P) {k:Nat} {b:Bx} {L:Ow}:∀{l:cZ} {r:List cJ},aBf ob l=V r->jA r->(k,b)∈l->eQ F g k b L->eQ F' g k b L
 |p::l,r,h,ho,hm,q=>by
  obtain ⟨a,r',h1,h2,h⟩:=bT h;cases h;obtain ⟨o1,o2⟩:=pD ho;rcases da.1 hm with e|hm
  ·subst e;exact aIZ gD h1 o1 q
  ·exact anz gD h2 o2 hm q
structure GI where
 {P:Prop}
 h:P
 gp:Gp
def FP {P:Prop} (h:P) (need:Prop):cJ:=⟨need,P,h⟩
inductive It (E:Env) where
 |op {P:Prop} (h:P) (pl:Pl)
 |gh (g:GI)
 |ord (l:bP)
 |call {ro:Bool} {f:Nat} {bs gP:cZ} {xs:bc} {y:AV} (h:kX ro E f bs xs y gP) (ps rs:iJ)
 |KA {ro:Bool} {f:Nat} {xs:bc} {y:AV} (h:kX ro E f [] xs y [])
 |opF {P:Prop} (h:P) (pl:Pl) (fz:List GI)
 |aGL {f:Nat} {bs gP:cZ} {xs:bc} {y:AV} {P:Prop} (h:iA E f bs xs y gP) (gs:List GI) (hd:P) (ps rs:iJ) (fz:List GI)
def Gp.key:Gp->Nat
 | .eB K _ _=>K
 | .cls _ K2 _ _ _ _=>K2
 |_=>0
def abE (q:GI) (s:LS):A (List cJ×LS):=
 match q.gp with
 | .eB _ _ _=>Kh (λ_=>B) s q.gp (FP q.h)
 | .cld _ _ _ _ _=>Kh (λ_=>B) s q.gp (FP q.h)
 |_=>G
def aqE (q q2:GI) (s:LS):A (List cJ×LS):=
 match q.gp,q2.gp with
 | .cls K _ _ _ _ _,.eB K' m n=>aS (iX K' K) (ay (Kh (λ_=>B) s q.gp (FP q.h)) λp=>ay (lk K p.2.bs) λb=>V (p.1++ahw p.2 K n b (FP q2.h),p.2.ahx K m n b)) G
 |_,_=>G
def aRg (q:GI):Bool:=match q.gp with| .cls _ _ _ _ _ _=>M|_=>B
def TJ:List GI->LS->A (List cJ×LS)
 | [],s=>V ([],s)
 | [q],s=>abE q s
 |q::q2::l,s=>aS (aRg q) (ay (aqE q q2 s) λp=>ay (TJ l p.2) λp'=>V (p.1++p'.1,p'.2)) (ay (abE q s) λp=>ay (TJ (q2::l) p.2) λp'=>V (p.1++p'.1,p'.2))
def Bp (F:Hf) (g:Gb) (c:Nat->cB) (T:Tf) (H:Hf) (ks:bP) (s:LS):Prop:=∃F1 φ1 c1,od F F1/\((∀i k,c1 i=V k->c i=V k)/\∀i,F1 i≠G->F i≠G\/∃K∈ks,c i=V K)/\Rel F1 g φ1 c1 s T H
def Bp.mono {MC:bP} (h:Bp F g c T H ks s) (hk:∀K∈ks,K∈MC):Bp F g c T H MC s:=
 let ⟨F1,φ1,c1,a1,a2,a3⟩:=h
 ⟨F1,φ1,c1,a1,⟨a2.1,λi h=>(a2.2 i h).imp_right λ⟨K,m,e⟩=>⟨K,hk K m,e⟩⟩,a3⟩
def agJ {q:GI} {s:LS} (h:abE q s=V p) (ho:jA p.1) {F:Hf} {g:Gb} {Y:Nat->Ow} {c:Nat->cB} {T:Tf} {H:Hf} (r:Rel F g Y c s T H):Bp F g c T H [q.gp.key] p.2:=by
 unfold abE at h;split at h
 ·rename_i K m n e;rw[e] at h;obtain ⟨b,hb,h⟩:=aq h;cases h;obtain ⟨F',c',a1,a2,a3⟩:=r.eB (m:=m) (n:=n) (ob:=FP q.h) (λ_=>rfl) hb ho
  exact ⟨F',Y,c',a1,⟨a2.1,λi h=>(a2.2.1 i h).imp_right λh=>⟨_,kg,by rw[e];exact h⟩⟩,a3⟩
 ·rename_i K j f y Q' e;rw[e] at h;obtain ⟨b,hb,h⟩:=aq h;split at h
  ·obtain ⟨y',hy,h⟩:=aq h;obtain ⟨hf,h⟩:=aZ h;cases h;obtain ⟨φ',c',a1,a2⟩:=r.JL hb λq'=>eQ.cld ho.2.1 ho.1 hy ((bN _ _).1 hf) q'
   exact ⟨F,φ',c',.refl _,⟨a1,λ_ h=>.inl h⟩,a2⟩
  ·cases h
 ·cases h
def aBn {q q2:GI} {s:LS} (h:aqE q q2 s=V p) (ho:jA p.1) {F:Hf} {g:Gb} {Y:Nat->Ow} {c:Nat->cB} {T:Tf} {H:Hf} (r:Rel F g Y c s T H):Bp F g c T H [q.gp.key,q2.gp.key] p.2:=by
 unfold aqE at h;split at h
 ·rename_i K K2 j f n1 Q' K' m n e e2;obtain ⟨hK,h⟩:=aZ h;obtain rfl:=(beq_iff _ _).1 hK;obtain ⟨p1,h1,h⟩:=aq h;obtain ⟨b,hb,h⟩:=aq h;cases h;obtain ⟨o1,o2⟩:=pD ho;rw[e] at h1;obtain ⟨φ1,c1,a1,a2⟩:=r.gcls (λ_=>rfl) h1 o1
  obtain ⟨F',c',b1,b2,b3⟩:=a2.eB (m:=m) (n:=n) (ob:=FP q2.h) (λ_=>rfl) hb o2
  rw[e,e2];refine ⟨F',φ1,c',b1,⟨λi k hi=> ?_,λi hi=> ?_⟩,b3⟩
  ·rcases a1 i k (b2.1 i k hi) with h'|⟨h',_⟩
   ·exact h'
   ·exact absurd (h' ▸ hi) (b2.2.2.2 i)
  ·rcases b2.2.1 i hi with h|h
   ·exact .inl h
   ·rcases a1 i _ h with h|⟨_,h⟩
    ·exact .inr ⟨_,dW _ kg,h⟩
    ·exact .inr ⟨_,kg,h⟩
 ·cases h
def Bp.then {MC:bP} {s':LS} (h:Bp F g c T H ks s) (k:∀{F1 φ1 c1},Rel F1 g φ1 c1 s T H->Bp F1 g c1 T H MC s'):Bp F g c T H (ks++MC) s':=by
 obtain ⟨F1,φ1,c1,a1,a2,a3⟩:=h;obtain ⟨F2,φ2,c2,b1,b2,b3⟩:=k a3;refine ⟨F2,φ2,c2,a1.trans b1,⟨λi k h=>a2.1 i k (b2.1 i k h),λi h=> ?_⟩,b3⟩
 rcases b2.2 i h with h|⟨K,m,e⟩
 ·exact (a2.2 i h).imp_right λ⟨K,m,e⟩=>⟨K,iu _ m,e⟩
 ·exact .inr ⟨K,jo _ m,a2.1 i K e⟩
def Rv:∀{l:List GI} {s:LS} {p:List cJ×LS},TJ l s=V p->jA p.1->∀{F:Hf} {g:Gb} {Y:Nat->Ow} {c:Nat->cB} {T:Tf} {H:Hf},Rel F g Y c s T H->Bp F g c T H (l.map λq=>q.gp.key) p.2
 | [],s,p,h,_,F,g,Y,c,T,H,r=>by cases h;exact ⟨F,Y,c,.refl _,⟨λ_ _ h=>h,λ_ h=>.inl h⟩,r⟩
 | [q],s,p,h,ho,F,g,Y,c,T,H,r=>agJ h ho r
 |q::q2::l,s,p,h,ho,F,g,Y,c,T,H,r=>by
  unfold TJ at h;rw[cI] at h;split at h
  ·obtain ⟨p1,h1,h⟩:=aq h;obtain ⟨p2,h2,h⟩:=aq h;cases h;obtain ⟨o1,o2⟩:=pD ho;exact (aBn h1 o1 r).then λr1=>Rv h2 o2 r1
  ·obtain ⟨p1,h1,h⟩:=aq h;obtain ⟨p2,h2,h⟩:=aq h;cases h;obtain ⟨o1,o2⟩:=pD ho;exact (agJ h1 o1 r).then λr1=>Rv (l:=q2::l) h2 o2 r1
end
section
variable {F F':Hf} {g g':Gb} {Y:Nat->Ow} {c:Nat->cB} {s s' s1:LS} {T:Tf} {H:Hf} {E:Env} {pn:Nat->Bool} {nt:Nat}
def G1:SV->Bool
 | .bool _=>M
 | .int _ _=>M
 | .str _=>M
 |_=>B
def aBm:AV->Bool
 | .lit v=>G1 v
 |_=>B
def Ze:bc->Bool
 | []=>M
 |x::l=>aBm x&&Ze l
def litA:AV->Bool
 | .lit v=>G1 v
 | .agg cs=>Ze cs
 |_=>B
def aqB:SV->Bool
 | .agg cs=>cs.all G1
 |v=>G1 v
def Zd:∀{xs:bc} {vs:bf},Ze xs=M->dK F g vs xs->vs.all G1=M/\dK F' g' vs xs
 | [],_,_,.nil=>⟨rfl,.nil⟩
 |x::l,_,h,.cons (v:=v) hv ht=>by
  have h:=j4.1 (show (aBm x&&Ze l)=M from h);obtain ⟨h1,h2⟩:=Zd h.2 ht;cases x with
  |lit w=>
   cases hv;exact ⟨by rw[ry,h1,Bool.and_true];exact h.1,.cons (.lit _) h2⟩
  |_=>cases h.1
def aLt (h:G1 v=M):aqB v=M:=by cases v<;>first|exact h|cases h
def anK (h:litA x=M) (hv:VA F g v x):aqB v=M/\VA F' g' v x:=by
 cases x with
 |lit w=>cases hv;exact ⟨aLt h,.lit _⟩
 |agg cs=>
  cases hv with
  |agg hv=>
  obtain ⟨h1,h2⟩:=Zd (F':=F') (g':=g') h hv;exact ⟨h1,.agg h2⟩
 |_=>cases h
def Zc {g2:Gh} (he:g2.η=g1.η) (h:G1 v=M) (hv:VR g1 r v):VR g2 r v:=by
 cases hv<;>first|(cases h;done)|skip
 ·exact .bool _
 ·rename_i hn;exact .int _ _ (by rw[he];exact hn)
 ·exact .str _
def Pg {g1 g2:Gh} (he:g2.η=g1.η):∀{vs:bf} {us:fM},vs.all G1=M->nD g1 us vs->nD g2 us vs
 | [],_,_,.nil=>.nil
 |v::vs,_,h,.cons hv ht=>by
  rw[ry,bJ] at h;exact .cons (Zc he h.1 hv) (Pg he h.2 ht)
def anJ {g1 g2:Gh} (he:g2.η=g1.η):∀{vs:bf} {us:fM},vs.all G1=M->iy g1 us vs->iy g2 us vs
 | [],_,_,.nil=>.nil
 |v::vs,_,h,.cons h1 hv ht=>by
  rw[ry,bJ] at h;exact .cons h1 (Zc he h.1 hv) (anJ he h.2 ht)
def aJf {g2:Gh} (he:g2.η=g1.η) (h:aqB v=M) (hv:VR g1 r v):VR g2 r v:=by
 cases v<;>first
  |exact Zc he h hv
  |(cases hv with|agg hv=>exact .agg (anJ he h hv))
def ahT (E:Env) (s:LS) (op:Op) {ro:Bool} {f:Nat} {xs:bc} {y:AV} (h:kX ro E f [] xs y []):A nc:=
 match op with
 | .call c=>(match c.callee with
  | .value o=>(match dN s.ts o with
   | .fn f' [] []=>aS (iX f' f&&(Ze (qP s.ts c.args.toList)&&litA y)) (V ⟨[⟨kX ro E f [] (qP s.ts c.args.toList) y [],_,h⟩],s,y,[]⟩) G
   |_=>G)
  |_=>G)
 |_=>G
def qX.pure {m:MS} {nx0:Nat} {c:Call} (hi:ops[i]? =V o) (hw:kq ops.toList o m.T=V M) (hd:nA nt o.dst=M) (gC:o.op= .call c) (hc:AU m.T c.callee=V (.fn (.func f) [] [])) (has:gj m.T c.args.toList=V aa) (ha:aa.all G1=M) (hv:aqB v=M) (hs:rE E B (.fn (.func f) [] []) aa (λ_=>G) 0 v H' nx0) (hn:m.nx<=nx'):qX E nt ops i o m ⟨v,λ_=>B,m.H,λ_=>False,λ_=>False,λ_=>False⟩ ⟨eN m.T o.dst v,m.H,nx'⟩:=by
 refine ⟨λro k g f1 T1 a w K Q hE jx hr hT Kf rl hk=> ?_,rfl,funext λx=>rfl,hn⟩
 let g0:Gh:={g with O:=λ_=>G}
 refine anu (g:=g) (H:=λ_=>G) (nx:=0) (KE:=λe w'=>∃r,e=abR B r/\VR g r v/\w.heap.size<=w'.heap.size/\(∀b,b<w.heap.size->w'.heap[b]? =w.heap[b]?)/\w'.os=w.os/\w'.tape=w.tape/\w'.output=w.output) hi hw gC hc has jx hT (λu us hu oA=> ?_) ?_
 ·refine (hs (k-1) g0 w u us ⟨hE.ty,hE.fn,hE.lt,hE.eq,hE.mix,hE.sz⟩ ⟨λid o h=>(by cases h),λi j x y b c d h=>(by cases h)⟩ (λ_ _=>rfl) ?_ (Pg (g1:=g) (g2:=g0) rfl ha oA)).mono λe w' ⟨r,he,g',h1,h2,h3,h4,h5⟩=>⟨r,he,aJf (show g.η=g'.η from h3.le.η.symm) hv h1,h3.size,λb hb=>h3.old b hb λ⟨id,o,c,q,_⟩=>(by cases q),h3.os,h3.tape,h3.output⟩
  cases hu with
  | @fn _ first kz _ _ q1 q2=>exact .fn (Pg (g1:=g) (g2:=g0) rfl rfl q1) (Pg (g1:=g) (g2:=g0) rfl rfl q2)
 ·rintro e w' ⟨r,rfl,h1,h2,h3,h4,h5,h6⟩;refine ⟨B,r,rfl,λ_=> ?_,λh=>by cases h⟩
  have e1:sm (λ_=>B) m.H f1=f1:=rfl
  refine hk r w' g (jx.put hd h1) (hr.grow h2 h3) ⟨h4,h5,h6,h2,.refl _,λb hb _=>h3 b hb,λb hb h=>h⟩ λ_ _=>rfl
def Step.KA {op:Op} {w:WS} {hC:kX ro E f [] xs y []} {r:nc} (hi:ops[i]? =V o) (he:o.op=op) (hk:ahT E s op hC=V r) (ho:jA r.BN) (hw:JC ops.toList o s.ts=V M) (hd:nA nt o.dst=M) (h:In s w) (nw:Nat) (hn:w.m.H nw=G) (nN:w.m.nx<=nx'):
  ∃r1 w',Step E nt pn ops ⟨i,nw,r1,r.W,V [],B⟩ w w'/\In (r.s.put o.dst r.x) w'/\w'.m.nx=nx':=by
 subst he;unfold ahT at hk;split at hk
 ·rename_i cl gC;split at hk
  ·rename_i x aCe;split at hk
   ·rename_i f' hx;obtain ⟨hc,hk⟩:=aZ hk;cases hk;simp only[bJ] at hc;obtain ⟨k1,k2,k3⟩:=hc;obtain rfl:=(beq_iff _ _).1 k1;have hC':kX ro E f' [] (qP s.ts cl.args.toList) y []:=ho.1;obtain ⟨fv,v1,v2⟩:=h.r.val hx (by simp)
    have hnu:rD (qP s.ts cl.args.toList)=M:=by
     generalize qP s.ts cl.args.toList=l at k2;induction l with
     |nil=>rfl
     |cons x l ih=>
      have k2:=j4.1 (show (aBm x&&Ze l)=M from k2);show aS (tj x) B (rD l)=M;cases x with
      |lit=>exact ih k2.2
      |_=>cases k2.1
    obtain ⟨aa,w1,w2⟩:=h.r.gj hnu;obtain ⟨ha,has⟩:=Zd (F':=λ_=>G) (g':=lU) k2 w2
    obtain ⟨F',g',φ',c',v,H',nx0,e1,e2,e3,e4,e5,e6,e7,e8,e9⟩:=hC'.go (F:=λ_=>G) (g:=lU) (Y:=λ_=> []) (c:=λ_=>G) (H:=λ_=>G) (nx:=0) (aa:=aa) ⟨λt x ht=>(by cases ht),λk b hb=>(by cases hb),λi o hi=>(by cases hi),λ_ _=>rfl⟩ (λ_ _=>rfl) has
    obtain ⟨hv,_⟩:=anK (F':=F') (g':=g') k3 e6;have hva:VA w.F w.g v y:=(anK k3 e6).2;have hfv:fv= .fn (.func f') [] []:=by
     cases v2 with|fn _ q1 q2=>cases q1;cases q2;rfl
    rw[hfv] at v1;have stp:=qX.pure (nt:=nt) (m:=w.m) hi (JB h.r hw) hd gC (show AU w.m.T cl.callee=V (.fn (.func f') [] []) by rw[aCe];exact v1) w1 ha hv e1 nN
    exact ⟨_,⟨w.F,w.g,w.Y,w.c,_⟩,⟨⟨o,hi,stp⟩,.refl _,λ_ _=>rfl,nN,λl _ x hx=>hx.elim,λx hx=>(by cases hx),λx _ _=>⟨rfl,rfl⟩,λ_=>⟨λ_ _ hh=>.inl hh,λhh=>absurd hn hh⟩,λx h0 cR=>absurd h0 cR,λx hx=>hx.elim,λx hx=>hx.elim⟩,⟨h.r.put o.dst λ_=>hva,λx hx=>h.bd x (kP nN hx)⟩,rfl⟩
   ·cases hk
  ·cases hk
 ·cases hk
def Step.aPW {nw:Nat} {r:Sr1} {w w':WS} (h:Step E nt pn ops ⟨i,nw,r,W,Rd,B⟩ w w'):Step E nt pn ops ⟨i,nw,r,W,Rd,M⟩ w w':=
 ⟨h.st,h.F,h.g,h.nx,h.need,λx hx=>(h.D x hx).imp_right λq=>q.elim (λq=>(nomatch q.1)) .inr,h.fr,λq=>(nomatch q),h.born,λx hx=>(h.frp x hx).imp_right λq=>(nomatch q.1),λx hx=>(h.newp x hx).imp_right λq=>(nomatch q.1)⟩
def Pq (K:Nat):cZ->Bool
 | []=>M
 |p::l=> !mW K p.2.keys&&Pq K l
def TZ {K:Nat}:∀{bs:cZ},Pq K bs=M->∀k b,lk k bs=V b->K∉b.keys
 |(k',b')::l,hf,k,b,hx=>by
  have hf:=j4.1 (show (!mW K b'.keys&&Pq K l)=M from hf);rw[dD] at hx;split at hx
  ·cases hx;exact JW hf.1
  ·exact TZ hf.2 k b hx
def unP (bs:cZ) (ps:iJ):bP:=(ps.filter λq=> !pnL (xq bs) q.2).map (·.1)
def pinP (pn:Nat->Bool) (bs:cZ) (s:LS) (al:iJ):Bool:=al.all λq=>pnL (xq bs) q.2||(!pn q.1&&(Pp q.1 s.ts&&Pq q.1 s.bs))
def nodG (gs:List GI) (y:AV) (gP:cZ) (ob:Prop->cJ):A (List cJ):=
 match gs with
 | []=>V []
 |_=>aS (H3 y) (aBf ob gP) G
def abX (E:Env) (pn:Nat->Bool) (s:LS) (op:Op) {ro:Bool} {f:Nat} {bs gP:cZ} {xs:bc} {y:AV} (h:kX ro E f bs xs y gP) (gs:List GI) (ob:Prop->cJ) (ps rs:iJ):A nc:=
 match op with
 | .call c=>(match c.callee with
  | .value o=>ay (TJ gs s) λq=>(match dN q.2.ts o with
   | .fn f' fi ca=>ug (Tn ps (ps++rs) q.2.bs bs) (aqs (ps++rs) gP) (nodG gs y gP ob) λb out nd=>
    aS ((iX f' f&&(rD (qP q.2.ts c.args.toList)&&((Df (ps++rs)&&ps.all λq=> !oc q.2)&&ahL gP)))&&(((lN (fi++qP q.2.ts c.args.toList++ca)).all (inP ps (ps++rs))&&(kU y).all (inK (jX (ps++rs)) (ps++rs)))&&pinP pn bs (s.zl (unP bs ps)) (ps++rs)))
     (V ⟨⟨kX ro E f b (Nk xs (vq (tL (ps++rs)) (fi++qP q.2.ts c.args.toList++ca))) y gP,_,h⟩::(q.1++nd),⟨(s.zl (unP bs ps)).ts,out++Kt (FM (ps++rs)) (s.zl (unP bs ps)).bs⟩,GS (tL (jX (ps++rs))) y,aS ro [] ((FM (ps++rs)).map (·.1))⟩) G
   |_=>G)
  |_=>G)
 |_=>G
def alR {g7 γ δ:Type} {x:A J} {y:A g7} {z:A γ} {f:J->g7->γ->A δ} {d:δ} (h:ug x y z f=V d):∃a b c,x=V a/\y=V b/\z=V c/\f a b c=V d:=by
 cases x<;>cases y<;>cases z<;>first|(cases h;done)|exact ⟨_,_,_,rfl,rfl,rfl,h⟩
def Tm {ps al:iJ} {sb:cZ}:∀{l r:cZ},Tn ps al sb l=V r->xq r=xq l
 | [],r,h=>by cases h;rfl
 |p::l,r,h=>by
  obtain ⟨b,r',h1,h2,h⟩:=bT h;obtain ⟨_,h⟩:=aZ h;cases h;exact bH (p.1:: ·) (Tm h2)
def Step.call {op:Op} {w:WS} {gP:cZ} {hC:kX ro E f bs xs y gP} {gs:List GI} {ps rs:iJ} {r:nc} (gD:∀P,(ob P).need=P) (hi:ops[i]? =V o) (he:o.op=op) (hk:abX E pn s op hC gs ob ps rs=V r) (ho:jA r.BN) (hw:JC ops.toList o s.ts=V M) (hd:nA nt o.dst=M) (h:In s w) (nw:Nat):
  ∃r1 w',Step E nt pn ops ⟨i,nw,r1,r.W,V (ps.map (·.1)++gs.map λq=>q.gp.key),M⟩ w w'/\In (r.s.put o.dst r.x) w':=by
 subst he;unfold abX at hk;split at hk
 ·rename_i cl gC;split at hk
  ·rename_i x aCe;obtain ⟨q,hq,hk⟩:=aq hk;split at hk
   ·rename_i f' fi ca hx;obtain ⟨b,out,nd,hb,ahl,F0,hk⟩:=alR hk;obtain ⟨hc,hk⟩:=aZ hk;cases hk;simp only[bJ] at hc;obtain ⟨⟨k1,k2,⟨k3,k3b⟩,k4⟩,⟨k5,k6⟩,k7⟩:=hc;obtain rfl:=(beq_iff _ _).1 k1;obtain ⟨o1,o2⟩:=ho;obtain ⟨o2,o3⟩:=pD o2;have hC':kX ro E f' b (Nk xs (vq (tL (ps++rs)) (fi++qP q.2.ts cl.args.toList++ca))) y gP:=o1;obtain ⟨F1,φ1,c1,a1,⟨a2,a3⟩,r1⟩:=Rv hq o2 h.r;obtain ⟨fv,v1,v2⟩:=r1.val hx (by simp)
    obtain ⟨aa,w1,w2⟩:=r1.gj k2;cases v2 with
    | @fn _ _ fis cas _ _ q1 q2=>
    have hg:=k3;let gc:Gb:=λk=>w.g (tL (jX (ps++rs)) k)
    have rc:=r1.enter hg hb;have Bl:dK F1 gc (fis++aa++cas) (Nk xs (vq (tL (ps++rs)) (fi++qP q.2.ts cl.args.toList++ca))):=Is (((q1.append w2).append q2).map (.refl F1) λj hj=>aFJ hg (j1.1 k5 j hj))
    have nO:∀x,w.m.nx<=x->sK F1 c1 ps w.m.H x=G:=λx hx=>by
     cases e:sK F1 c1 ps w.m.H x with
     |none=>rfl
     |some o=>have:=Rw e;rw[h.bd x hx] at this;cases this
    obtain ⟨F',g',φ',c',v,H',nx',e1,e2,e3,e4,e5,e6,e7,e8,e9⟩:=hC'.go rc nO Bl;rw[Tm hb] at e5;have ard:∀K k,lk K (ps++rs)=V k->(g' k=gc k)\/(pn K=B/\(∀t x,lk t (s.zl (unP bs ps)).ts=V x->K∉kU x)/\∀j b,lk j (s.zl (unP bs ps)).bs=V b->K∉b.keys):=λK k hK=>by
     rcases (sU _ _).mp ((j1.1 k7) (K,k) (pJ hK)) with hp|hp
     ·exact .inl (e5 k hp)
     ·simp only[bJ] at hp;exact .inr ⟨by simpa using hp.1,RM hp.2.1,TZ hp.2.2⟩
    have rW:∀k,oc k=M->g' k=gc k:=λk hk=>e5 k (by unfold pnL;rw[hk];rfl)
    have fin:∃F2,od w.F F2/\(∀i o,F2 i=V o->F' i=V o/\(F1 i≠G->w.F i≠G))/\(∀k b L,lk k gP=V b->eQ F' g' k b L->eQ F2 g' k b L)/\VA F2 g' v y:=by
     cases gs with
     |nil=>
      cases hq;refine ⟨F',a1.trans e4,λi o hi=>⟨hi,λcR=> ?_⟩,λ_ _ _ _ q=>q,e6⟩
      rcases a3 i cR with h|⟨_,m,_⟩
      ·exact h
      ·cases m
     |cons gi gs=>
      obtain ⟨n1,n2⟩:=aZ F0;exact ⟨w.F,.refl _,λi o hi=>⟨e4 i o (a1 i o hi),λ_=>by rw[hi];simp⟩,λk b L nP q=>anz gD n2 o3 (pJ nP) q,Tw n1 e6⟩
    obtain ⟨F2,f1,f2,f3,f4⟩:=fin;obtain ⟨g2,φ2,c2,H2,m1,m2,m3,m4,m5,m6,m7,m8,m9⟩:=(h.r.zl (l:=unP bs ps)).leave h.bd a2 a1 r1.fr hg k3b rfl e4 e7 e8 e3 e2 f1 f2 f3 ahl k4 rW λK k hK=>(ard K k hK).imp_right λh=>h.2
    have g2f:∀k∈kU y,g2 (tL (jX (ps++rs)) k)=g' k:=λk hk=>by
     rcases (sU _ _).mp (j1.1 k6 k hk) with hh|hh
     ·obtain ⟨K',hK'⟩:=OA.1 (show (lk k (jX (ps++rs))).isSome=M from hh);rw[v7 hK'];exact m2 K' k ((vY hg).1 hK')
     ·obtain ⟨h1,h2,h3⟩:=ahd hh;rw[Ip h3,m1 k h2,rW k h1];show w.g k=w.g (tL (jX (ps++rs)) k);rw[Ip h3]
    have hs:=avV (fi:=fis) (aa:=aa) (ca:=cas) e1;have stp:=qX.aGM (E:=E) (nt:=nt) (ops:=ops) (i:=i) hi (JB h.r hw) hd gC (show AU w.m.T cl.callee=V (.fn (.func f') fis cas) by rw[aCe];exact v1) w1 hs (λ_ _=>Rw) h.bd e2 m7 m8
    have lent:∀x,sK F1 c1 ps w.m.H x≠G->F1 x≠G\/∃K,c1 x=V K/\lk K ps≠G:=λx hx=>ql λhn=>hx (aC hn)
    have psal:∀K,lk K ps≠G->K∈ps.map (·.1):=λK hK=>by
     obtain ⟨k,hk⟩:=uR.1 hK;exact dJ.2 ⟨_,pJ hk,rfl⟩
    have psnb:∀K,lk K ps≠G->K∈(FM (ps++rs)).map (·.1):=λK hK=>by
     obtain ⟨k,hk⟩:=uR.1 hK;exact dJ.2 ⟨_,mD.2 ⟨iu _ (pJ hk),(j1.1 k3b) _ (pJ hk)⟩,rfl⟩
    refine ⟨_,⟨F2,g2,φ2,c2,_⟩,⟨⟨o,hi,stp⟩,f1,λk hk=> ?_,e2,λl hl x hx=> ?_,λx hx=> ?_,λx hx hW=> ?_,λhh=>(by cases hh),λx h0 cR=>.inr ?_,λx hx=>.inr ⟨rfl,hx⟩,λx hx=>.inr ⟨rfl,hx⟩⟩,⟨m3.put o.dst λ_=>f4.map (.refl F2) g2f,m4⟩⟩
    ·cases hK:lk k (ps++rs) with
     |none=>exact m1 k hK
     |some k'=>
      rcases ard k k' hK with e|⟨e,_⟩
      ·show g2 k=w.g k;rw[m2 k k' hK,e];show w.g (tL (jX (ps++rs)) k')=w.g k;rw[v7 ((vY hg).2 hK)]
      ·rw[e] at hk;cases hk
    ·cases hl;rcases lent x hx with hx|⟨K,h1,h2⟩
     ·exact (a3 x hx).imp_right λ⟨K,m,e⟩=>⟨K,jo _ m,e⟩
     ·exact .inr ⟨K,iu _ (psal K h2),a2 x K h1⟩
    ·have iq:H' x≠sK F1 c1 ps w.m.H x:=by simpa using hx
     by_cases dz:w.m.nx<=x
     ·exact .inr (.inl ⟨rfl,dz⟩)
     ·by_cases h0:sK F1 c1 ps w.m.H x=G
      ·exact absurd h0 (e8 x (by omega) λe=>iq (e.trans h0.symm))
      ·rcases lent x h0 with hf|⟨K,h1,h2⟩
       ·exfalso;obtain ⟨z,hz⟩:=uR.1 hf;refine iq ((e7.fr x z (e4 x z hz)).1.trans ?_);show _=sK F1 c1 ps w.m.H x;unfold sK;rw[aF (.inl hf)];exact (r1.fr x z hz).1.symm
       ·cases ro with
        |true=>exact absurd (e9 rfl x h0).1 iq
        |false=>
         refine .inr (.inr ⟨K,?_,a2 x K h1⟩);exact psnb K h2
    ·cases ro with
     |true=>exact m9 x hx λhl=>e9 rfl x hl
     |false=>
      have hW:∀K∈(FM (ps++rs)).map (·.1),w.c x≠V K:=hW
      refine m5 x hx λK hK=> ?_
      cases hK':lk K ps with
      |none=>rfl
      |some k=>exact absurd hK (hW K (psnb K (by rw[hK'];simp)))
    ·exact Nat.le_of_not_lt λdz=>m6 x dz cR h0
   ·cases hk
  ·cases hk
 ·cases hk
end
section
variable {s s' s1:LS} {E:Env} {pn:Nat->Bool} {nt:Nat}
def aDT {J:Type} (l:List (Nat×J)):List (Nat×J):=
 match l with
 | []=> []
 |p::l=>p::lI p.1 l
def aBe {J:Type} (l:List (Nat×J)):List (Nat×J):=List.rec [] (λp _ ih=>p::lI p.1 ih) l
def aBl (k:Nat) (l:List (Nat×J)):lk k (aDT l)=lk k l:=by
 cases l with
 |nil=>rfl
 |cons p l=>exact xS
def anI {J:Type} (k:Nat):∀l:List (Nat×J),lk k (aBe l)=lk k l
 | []=>rfl
 |p::l=>by
  show lk k ((p.1,p.2)::lI p.1 (aBe l))=lk k ((p.1,p.2)::l);rw[xS,dD,dD,anI k l]
def LS.tidy (s:LS):LS:=⟨aDT s.ts,aBe s.bs⟩
def In.tidy {w:WS} (h:In s w):In s.tidy w:=⟨h.r.sub (λt x h=>(aBl t _).symm.trans h) λk b h=>(anI k _).symm.trans h,h.bd⟩
def In.Rg {w:WS} (h:In s w) (k:kJ pn s s') (BU:pn uv=M->s'=s):∃w',In s' w'/\Ext pn w w'/\w'.m=w.m:=by
 cases hp:pn uv with
 |true=>rw[BU hp];exact ⟨w,h,.refl w,rfl⟩
 |false=>
  obtain ⟨F',g',φ',c',h1,h2,r⟩:=k.go h.r;exact ⟨⟨F',g',φ',c',w.m⟩,⟨r,h.bd⟩,⟨h1,h2,cS _,λ_ _ h=>h,λh=>by rw[hp] at h;cases h⟩,rfl⟩
abbrev Sc (E:Env):=List (Nat×It E)
def EP (pn:Nat->Bool):Sc E->LS->List cJ->LS×List cJ×Sc E
 | [],s,o=>(s,o,[])
 |p::l,s,o=>
  match p with
  |(0,.gh q)=>(match aS (pn uv) G (Kh pn s q.gp (FP q.h)) with
   |some r=>EP pn l r.2 (r.1++o)
   |none=>(s,o,p::l))
  |_=>(s,o,p::l)
def M4:∀(sc:Sc E) (s:LS) (o:List cJ),jA (EP pn sc s o).2.1->jA o/\kJ pn s (EP pn sc s o).1/\(pn uv=M->(EP pn sc s o).1=s)
 | [],s,o,ho=>⟨ho,.refl,λ_=>rfl⟩
 |p::l,s,o,ho=>by
  unfold EP at ho ⊢;split at ho
  ·rename_i q;cases hq:aS (pn uv) G (Kh pn s q.gp (FP q.h)) with
   |some r=>
    rw[hq] at ho;simp only[hq];have hp:pn uv=B:=by
     cases hp:pn uv with
     |false=>rfl
     |true=>rw[hp] at hq;cases hq
    rw[hp] at hq;obtain ⟨h1,h2,_⟩:=M4 l r.2 (r.1++o) ho;obtain ⟨h3,h4⟩:=pD h1;exact ⟨h4,(aCj (λ_=>rfl) hq h3).trans h2,λh=>by rw[hp] at h;cases h⟩
   |none=>rw[hq] at ho;simp only[hq];exact ⟨ho,.refl,by simp⟩
  ·simp_all;exact .refl
structure Rx where
 r:nc
 Rd:Option bP
 cl:Bool
 pg:List GI
def agj (E:Env) (pn:Nat->Bool) (s:LS) (o:N'):A Rx:=ay (SN E pn s o.dst o.op) λr=>V ⟨r,agq s o.op,B,[]⟩
def aFI (E:Env) (pn:Nat->Bool) (s:LS) (o:N') (it:It E):A Rx:=
 match it with
 | .op h pl=>ay (apT E pn s o.dst o.op pl (FP h)) λr=>V ⟨r,agq s o.op,B,[]⟩
 | .KA h=>ay (ahT E s o.op h) λr=>V ⟨r,V [],B,[]⟩
 | .opF h pl fz=>ay (apT E pn s o.dst o.op pl (FP h)) λr=>V ⟨r,agq s o.op,M,fz⟩
 | .call h ps rs=>ay (abX E pn s o.op h [] (FP trivial) ps rs) λr=>V ⟨r,V (ps.map (·.1)++ []),M,[]⟩
 | .aGL h gs hd ps rs fz=>ay (abX E pn s o.op h gs (FP hd) ps rs) λr=>V ⟨r,V (ps.map (·.1)++gs.map λq=>q.gp.key),M,fz⟩
 |_=>G
def opX (E:Env) (pn:Nat->Bool) (s:LS) (o:N') (sc:Sc E):A (Rx×Sc E):=
 match sc with
 | []=>ay (agj E pn s o) λr=>V (r,[])
 |(0,it)::l=>ay (aFI E pn s o it) λr=>V (r,l)
 |(k+1,it)::l=>ay (agj E pn s o) λr=>V (r,(k,it)::l)
def abz (W:bP):List GI->LS->A (List cJ×LS)
 | [],s=>V ([],s)
 |q::l,s=>(match q.gp with
  | .eB K m n=>aS (mW K W) (ay (lk K s.bs) λb=>ay (abz W l (s.ahx K m n b)) λp=>V (ahw s K n b (FP q.h)++p.1,p.2)) G
  |_=>G)
def aqp (cl:Bool) (W:bP) (pg:List GI) (s:LS):A (List cJ×LS):=
 match pg with
 | []=>V ([],s)
 |q::l=>aS cl (abz W (q::l) s) G
def agi {ops:eY} {e:Ev} {w:WS} (fg:e.cl=M):∀{l:List GI} {s:LS} {w':WS} {p:List cJ×LS},abz e.W l s=V p->jA p.1->Step E nt pn ops e w w'->In s w'->∃LW,Step E nt pn ops e w LW/\In p.2 LW/\LW.m=w'.m
 | [],s,w',p,h,_,st,jD=>by cases h;exact ⟨w',st,jD,rfl⟩
 |q::l,s,w',p,h,ho,st,jD=>by
  unfold abz at h;split at h
  ·rename_i K m n hq;obtain ⟨hK,h⟩:=aZ h;obtain ⟨b,hb,h⟩:=aq h;obtain ⟨p1,h1,h⟩:=aq h;cases h;obtain ⟨o1,o2⟩:=pD ho;obtain ⟨F',c',a1,a2,a3⟩:=jD.r.eB (m:=m) (n:=n) (ob:=FP q.h) (λ_=>rfl) hb o1
   have yu:Step E nt pn ops e w ⟨F',w'.g,w'.Y,c',w'.m⟩:=⟨st.st,st.F.trans a1,st.g,st.nx,st.need,st.D,λx hx hW=>⟨(st.fr x hx hW).1,(a2.2.2.1 x (by rw[(st.fr x hx hW).2];exact hW K ((tT _ _).1 hK))).trans (st.fr x hx hW).2⟩,λh=>(by rw[fg] at h;cases h),st.born,st.frp,st.newp⟩
   exact agi (l:=l) (p:=p1) (w':=⟨F',w'.g,w'.Y,c',w'.m⟩) fg h1 o2 yu ⟨a3,jD.bd⟩
  ·cases h
def aBa {e:Ev} {w w':WS} {l:List GI} (h:aqp e.cl e.W l s=V p) (ho:jA p.1) (st:Step E nt pn ops e w w') (jD:In s w'):∃LW,Step E nt pn ops e w LW/\In p.2 LW/\LW.m=w'.m:=by
 unfold aqp at h;split at h
 ·cases h;exact ⟨w',st,jD,rfl⟩
 ·obtain ⟨fg,h⟩:=aZ h;exact agi fg h ho st jD
def ava (E:Env) (nt:Nat) (pn:Nat->Bool) (all:nS) (s:LS) (o:N') (sc:Sc E):A (Rx×Sc E):=
 aS (nA nt o.dst) (ay (JC all o s.ts) λb=>aS b (ay (opX E pn s o sc) λq=>ay (aqp q.1.cl q.1.r.W q.1.pg (q.1.r.s.put o.dst q.1.r.x).tidy) λp=>V (⟨⟨p.1++q.1.r.BN,p.2,q.1.r.x,q.1.r.W⟩,q.1.Rd,q.1.cl,[]⟩,q.2)) (V (⟨⟨[],(s.put o.dst (.dq [])).tidy,.undef,[]⟩,V [],B,[]⟩,sc))) G
def auZ {sc:Sc E} {q:Rx×Sc E} {w:WS} (hi:ops[i]? =V o) (h:ava E nt pn ops.toList s o sc=V q) (ho:jA q.1.r.BN) (jD:In s w) (hn:w.m.H new=G) (nN:w.m.nx<=nx') (rl:new<nx') (hc:q.1.cl=M->nx'=w.m.nx+1\/nx'=w.m.nx):
  ∃r w',Step E nt pn ops ⟨i,new,r,q.1.r.W,q.1.Rd,q.1.cl⟩ w w'/\In q.1.r.s w'/\(q.1.cl=B->w'.m.nx=nx'):=by
 obtain ⟨hd,h⟩:=aZ h;obtain ⟨b,hw,h⟩:=aq h;rw[cI] at h;split at h
 ·rename_i hb;subst hb;obtain ⟨p,hp,h⟩:=aq h;obtain ⟨z,hz,h⟩:=aq h;cases h;obtain ⟨oz,ho⟩:=pD ho;have plain:∀{r:Rx},agj E pn s o=V r->jA r.r.BN->∃r1 w',Step E nt pn ops ⟨i,new,r1,r.r.W,r.Rd,r.cl⟩ w w'/\In (r.r.s.put o.dst r.r.x).tidy w'/\(r.cl=B->w'.m.nx=nx'):=λ{r} hr ho=>by
   obtain ⟨r0,h1,h2⟩:=aq hr;cases h2;obtain ⟨r1,w',a,b,c⟩:=Step.op hi rfl (Q8 h1 ho) hw hd jD hn nN rl;exact ⟨r1,w',a,b.tidy,λ_=>c⟩
  have main:∃r1 w',Step E nt pn ops ⟨i,new,r1,p.1.r.W,p.1.Rd,p.1.cl⟩ w w'/\In (p.1.r.s.put o.dst p.1.r.x).tidy w'/\(p.1.cl=B->w'.m.nx=nx'):=by
   unfold opX at hp;split at hp
   ·obtain ⟨r,h1,h2⟩:=aq hp;cases h2;exact plain h1 ho
   ·obtain ⟨r,h1,h2⟩:=aq hp;cases h2;unfold aFI at h1;split at h1
    ·obtain ⟨r0,h3,h2⟩:=aq h1;cases h2;obtain ⟨r1,w',a,b,c⟩:=Step.op hi rfl (aef (λ_=>rfl) h3 ho) hw hd jD hn nN rl
     exact ⟨r1,w',a,b.tidy,λ_=>c⟩
    ·obtain ⟨r0,h3,h2⟩:=aq h1;cases h2;obtain ⟨r1,w',a,b,c⟩:=Step.KA hi rfl h3 ho hw hd jD new hn nN;exact ⟨r1,w',a,b.tidy,λ_=>c⟩
    ·obtain ⟨r0,h3,h2⟩:=aq h1;cases h2;obtain ⟨r1,w',a,b,c⟩:=Step.op hi rfl (aef (λ_=>rfl) h3 ho) hw hd jD hn nN rl
     exact ⟨r1,w',a.aPW,b.tidy,λh=>by cases h⟩
    ·obtain ⟨r0,h3,h2⟩:=aq h1;cases h2;obtain ⟨r1,w',a,b⟩:=Step.call (λ_=>rfl) hi rfl h3 ho hw hd jD new
     exact ⟨r1,w',a,b.tidy,λh=>by cases h⟩
    ·obtain ⟨r0,h3,h2⟩:=aq h1;cases h2;obtain ⟨r1,w',a,b⟩:=Step.call (λ_=>rfl) hi rfl h3 ho hw hd jD new
     exact ⟨r1,w',a,b.tidy,λh=>by cases h⟩
    ·cases h1
   ·obtain ⟨r,h1,h2⟩:=aq hp;cases h2;exact plain h1 ho
  obtain ⟨r1,w',m1,m2,m3⟩:=main;obtain ⟨w2,n1,n2,n3⟩:=aBa hz oz m1 m2;exact ⟨r1,w2,n1,n2,λh=>by rw[n3];exact m3 h⟩
 ·rename_i hb;have hb:b=B:=by simpa using hb
  subst hb;cases h;obtain ⟨r1,w',a,b,c⟩:=Step.skip (E:=E) (nt:=nt) (pn:=pn) hi hw hd jD hn nN;exact ⟨r1,w',a,b.tidy,λ_=>c⟩
def apR (E:Env) (nt:Nat) (pn:Nat->Bool) (all:nS) (s:LS) (o:N') (sc:Sc E):A (Rx×Sc E):=
 ay (ava E nt pn all s o sc) λq=>aS (pn uv) (aS q.1.r.W.isEmpty (V q) G) (V q)
def aee {sc:Sc E} {q:Rx×Sc E} {w:WS} (hi:ops[i]? =V o) (h:apR E nt pn ops.toList s o sc=V q) (ho:jA q.1.r.BN) (jD:In s w) (hn:w.m.H new=G) (nN:w.m.nx<=nx') (rl:new<nx') (hc:q.1.cl=M->nx'=w.m.nx+1\/nx'=w.m.nx):
  ∃r w',Step E nt pn ops ⟨i,new,r,q.1.r.W,q.1.Rd,q.1.cl⟩ w w'/\In q.1.r.s w'/\(q.1.cl=B->w'.m.nx=nx')/\(pn uv=M->∀x,w.m.H x≠G->w'.m.H x=w.m.H x/\w'.c x=w.c x):=by
 obtain ⟨q',h1,h⟩:=aq h;obtain ⟨rfl,hW⟩:q'=q/\(pn uv=M->q'.1.r.W= []):=by
  rw[cI] at h;split at h
  ·obtain ⟨h2,h⟩:=aZ h;cases h;exact ⟨rfl,λ_=>by simpa using h2⟩
  ·rename_i hp;cases h;exact ⟨rfl,λh=>absurd h hp⟩
 obtain ⟨r,w',a,b,c⟩:=auZ hi h1 ho jD hn nN rl hc;exact ⟨r,w',a,b,c,λhp x hx=>a.fr x hx λK hK=>by
  have hK:K∈q'.1.r.W:=hK;rw[hW hp] at hK;cases hK⟩
def afS (E:Env) (nt:Nat) (pn:Nat->Bool) (all:nS):nS->LS->Sc E->List cJ->A (LS×List cJ×Sc E)
 | [],s,sc,ob=>V (s,ob,sc)
 |o::l,s,sc,ob=>(λq:LS×List cJ×Sc E=>ay (apR E nt pn all q.1 o q.2.2) λr=>afS E nt pn all l r.1.r.s r.2 (r.1.r.BN++q.2.1)) (EP pn sc s ob)
def aaf {ops:eY}:∀{l:nS} {i:Nat} {s:LS} {sc:Sc E} {ob:List cJ} {r:LS×List cJ×Sc E},ops.toList.drop i=l->i<=ops.size->afS E nt pn ops.toList l s sc ob=V r->jA r.2.1->jA ob/\∀w,In s w->∃w',lT E nt ops i w.m w'.m/\In r.1 w'/\Ext pn w w'
 | [],i,s,sc,ob,r,hl,hle,h,ho=>by
  cases h;refine ⟨ho,λw hw=>⟨w,?_,hw,.refl w⟩⟩
  have:ops.size=i:=by
   have:=bH aa8 hl;rw[jq,DA,Oz] at this;omega
  subst this;exact .nil
 |o::l,i,s,sc,ob,r,hl,hle,h,ho=>by
  obtain ⟨q,h1,h⟩:=aq h;have dz:i<ops.size:=by
   have:=bH aa8 hl;rw[jq,iU,Oz] at this;omega
  have hi:ops[i]? =V o:=by
   rw[<-mC,<-List.head?_drop,hl];rfl
  have EH:ops.toList.drop (i+1)=l:=by rw[<-sS,hl];rfl
  obtain ⟨h2,h3⟩:=aaf EH dz h ho;obtain ⟨h4,h5⟩:=pD h2;obtain ⟨h6,h7,h9⟩:=M4 sc s ob h5;refine ⟨h6,λw hw=> ?_⟩
  obtain ⟨w1,k1,k2,k3⟩:=hw.Rg h7 h9;obtain ⟨r1,w2,st,k4,k5,k9⟩:=aee (new:=w1.m.nx) (nx':=w1.m.nx+1) hi h1 h4 k1 (k1.bd _ (cS _)) (sO _) (LO _) λ_=>.inl rfl
  obtain ⟨w3,k6,k7,k8⟩:=h3 w2 k4;obtain ⟨o',qD,vn⟩:=st.st;rw[hi] at qD;cases qD;refine ⟨w3,?_,k7,k2.trans (.trans ⟨st.F,st.g,st.nx,λx hx cR=> ?_,k9⟩ k8)⟩
  ·rw[<-k3];refine lT.cons hi vn (λx hx=> ?_) (λx hx=> ?_) k6
   ·rcases st.frp x hx with rfl|⟨_,h⟩
    ·exact cS _
    ·exact h
   ·rcases st.newp x hx with ⟨rfl,h⟩|⟨_,h⟩
    ·exact ⟨cS _,h⟩
    ·exact h
  ·exact ql λh0=>by
    have h0:w1.m.H x=G:=ql h0;rcases st.born x h0 cR with rfl|h
    ·exact absurd hx (Nat.lt_irrefl _)
    ·exact absurd hx (Nat.not_lt.2 h)
end
end Go.bL
namespace Go.bL
open Go.RowKit
variable {i nt:Nat} {ro:cB} {ops:eY} {g8:Nat->Stp} {need:Nat->Nat->Prop} {s0:DS} {l:bP} {Q:Exit->Act->World->Prop}
section
variable {E:Env} {g:Gh} {f:Hf} {w:World}
def avb (us:Nat->Stp) (p:Nat->Bool) {a b:bP} (nd:(a++i::b).Nodup) (hp:p i=M) (s:DS):mZ us (a++i::b) (λj=>p j&&U (j∈a++ [i])) s=(mZ us a p s).app (us i):=by
 obtain ⟨_,n2,n3⟩:=DY.1 nd;have n2:=pG.1 n2;unfold mZ;rw[uQ,je];have h1:a.filter (λj=>p j&&U (j∈a++ [i]))=a.filter p:=SH λx hx=>by simp[hx]
 have h2:b.filter (λj=>p j&&U (j∈a++ [i]))= []:=yg.2 λx hx=>by
  have e1:x∉a:=λh=>n3 x h x (dW _ hx) rfl
  have e2:x≠i:=λe=>n2.1 (e ▸ hx)
  simp[e1,e2]
 rw[h1,h2];simp[hp]
def aCM {frp newp:Nat->Nat->Prop} (nd:l.Nodup) (hl:∀j,j∈l↔j<ops.size) (RJ:E.P.follows .mixedOrders=M) (TV:∀a i b,l=a++i::b->∃o,ops[i]? =V o/\(g8 i).dst=o.dst/\Uy E ro nt ops i o (mZ g8 a (λ_=>M) s0).T (need i) (mZ g8 a (λ_=>M) s0).F (frp i) (newp i) (g8 i).v (g8 i).D (g8 i).H) (hd:∀a i b,l=a++i::b->(∀k∈direct ops i,k∈a)/\∀k∈a,k∈Ae ops ops.size i\/Ind ops g8 need k i) (hfp:∀i k,i∈l->k∈l->i≠k->∀x,frp i x->newp k x->i∈Ae ops ops.size k) {a:Act} {id m:Nat} (hE:fR E g) (jx:FR g nt s0.T a.tmps) (hr:HR g s0.F w) (rl:∀i,i∈l->∀x,frp i x->g.O x=G) (hq:∀g' a' w',FR g' nt (mZ g8 l (λ_=>M) s0).T a'.tmps->HR g' (mZ g8 l (λ_=>M) s0).F w'->Fr g s0.F w g' (mZ g8 l (λ_=>M) s0).F w'->a'.defers=a.defers->
   (∀x,(∀i,i∈l->¬newp i x)->g'.O x=g.O x)->Q .normal a' w'):(Code.region id ops M).wpIn (wV ro) m E.P Q a w:=by
 let n:=ops.size;have key:∀(fuel:Nat) (dF:Array Bool) (a1:Act) (w1:World) (g1:Gh),dF.size=n->(∀j,dF.getD j B=M->∀i∈direct ops j,dF.getD i B=M)->
   (l.filter (λj=> !dF.getD j B)).length=fuel->fR E g1->FR g1 nt (mZ g8 l (λj=>dF.getD j B) s0).T a1.tmps->HR g1 (mZ g8 l (λj=>dF.getD j B) s0).F w1->
   Fr g s0.F w g1 (mZ g8 l (λj=>dF.getD j B) s0).F w1->a1.defers=a.defers->(∀x,g1.O x≠g.O x->∃k,k∈l/\dF.getD k B=M/\newp k x)->wpAnyIn (wV ro) m E.P .any ops Q fuel dF a1 w1:=by
  intro fuel;induction fuel with
  |zero=>
   intro dF a1 w1 g1 oQ fg ahp hE1 arh Ih hf1 hdf arb;have im:∀j,j∈l->dF.getD j B=M:=λj hj=>by simpa using yg.1 (uP ahp) j hj
   have lV:mZ g8 l (λj=>dF.getD j B) s0=mZ g8 l (λ_=>M) s0:=by
    unfold mZ;rw[SH λx hx=>im x hx]
   rw[lV] at arh Ih hf1;refine ⟨?_,hq g1 a1 w1 arh Ih hf1 hdf (λx hx=> ?_)⟩
   ·rw[WZ];intro i hi;obtain ⟨h1,h2,_⟩:=JM.1 hi;have:=im i ((hl i).2 h1);simp only[uO] at this h2;rw[By (by rw[oQ];exact h1)] at this h2
    simp at this h2;rw[this] at h2;simp at h2
   ·by_cases he:g1.O x=g.O x
    ·exact he
    ·obtain ⟨k,k1,_,k3⟩:=arb x he;exact absurd k3 (hx k k1)
  |succ fuel ih=>
   intro dF a1 w1 g1 oQ fg ahp hE1 arh Ih hf1 hdf arb;have hun:∀j,j<n->dF.getD j M=dF.getD j B:=by
    intro j hj;simp only[uO];rw[By (by rw[oQ];exact hj)];rfl
   refine ⟨λhr=> ?_,λi hi=> ?_⟩
   ·exfalso;have first:∀b c:bP,b++c=l->(∀j∈b,dF.getD j B=M)->(∃a i d,l=a++i::d/\dF.getD i B=B/\∀j∈a,dF.getD j B=M)\/∀j∈c,dF.getD j B=M:=by
     intro b c;induction c generalizing b with
     |nil=>exact λ_ _=>.inr λj hj=>by cases hj
     |cons i c ihc=>
      intro he hb;cases hi:dF.getD i B with
      |false=>exact .inl ⟨b,i,c,he.symm,hi,hb⟩
      |true=>
       rcases ihc (b++ [i]) (by simpa using he) (λj hj=>by
        rcases eV.1 hj with h|h
        ·exact hb j h
        ·rw[gg.1 h];exact hi) with h|h
       ·exact .inl h
       ·exact .inr λj hj=>by
         rcases da.1 hj with rfl|hj
         ·exact hi
         ·exact h j hj
    rcases first [] l rfl (λj hj=>by cases hj) with ⟨b,i,d,he,h1,h2⟩|h
    ·have jD:i<n:=(hl i).1 (by rw[he];simp)
     have:i∈Region.ready .any ops dF:=JM.2 ⟨jD,by rw[hun i jD];exact h1,λj hj=>h2 j ((hd b i d he).1 j hj)⟩
     rw[hr] at this;simp at this
    ·rw[yg.2 λx hx=>by simp[h x hx]] at ahp
     simp at ahp
   ·obtain ⟨hi1,hi2,hi3⟩:=JM.1 hi;rw[hun i hi1] at hi2;obtain ⟨b,d,he⟩:=wB ((hl i).2 hi1);obtain ⟨oi,hoi,hdst,hs⟩:=TV b i d he;have nd':=nd;rw[he] at nd';obtain ⟨n1,n2,n3⟩:=DY.1 nd';have n2:=pG.1 n2;have aBj:∀j,j∈l->j∈b\/j=i\/j∈d:=λj hj=>by
     rw[he] at hj;simpa using hj
    have ib:i∉b:=λh=>n3 i h i (by simp) rfl
    have ayC:∀j,j∈b->dF.getD j B=B->Ind ops g8 need j i:=by
     intro j hj EH;rcases (hd b i d he).2 j hj with hc|hc
     ·have:=asv (S:=λj=>dF.getD j B=M) fg n i hi3 j hc
      rw[EH] at this;simp at this
     ·exact hc
    have abK:∀j,j∈d->dF.getD j B=M->Ind ops g8 need i j:=by
     intro j hj EH;obtain ⟨d1,d2,hd2⟩:=wB hj;rcases (hd (b++i::d1) j d2 (by rw[he,hd2];simp)).2 i (by simp) with hc|hc
     ·have:=Dk (S:=λj=>dF.getD j B=M) fg n j EH i hc
      rw[hi2] at this;simp at this
     ·exact hc
    have hdb:∀j,j∈d->j∉b/\j≠i:=λj hj=>⟨λh=>n3 j h j (dW _ hj) rfl,λe=>n2.1 (e ▸ hj)⟩
    have hst0:mZ g8 b (λ_=>M) s0=mZ g8 l (λj=>U (j∈b)) s0:=by
     unfold mZ;rw[he,uQ,je];have h1:b.filter (λj=>U (j∈b))=b:=D0.2 λx hx=>by simpa using hx
     have h2:d.filter (λj=>U (j∈b))= []:=yg.2 λx hx=>by simpa using (hdb x hx).1
     rw[h1,h2,D0.2 (λ_ _=>rfl)]
     simp[ib]
    have hT:∀t∈oi.looksAt ops,(mZ g8 l (λj=>dF.getD j B) s0).T t=(mZ g8 b (λ_=>M) s0).T t:=by
     intro t htr;rw[hst0];refine abp g8 t _ _ _ _ _ rfl (λj hj AM=> ?_)
     rcases aBj j hj with hb|rfl|hb
     ·cases F3:dF.getD j B with
      |true=>simp[hb]
      |false=>exact absurd htr ((ayC j hb F3).s1 t AM _ hoi)
     ·simp[hi2,ib]
     ·cases F3:dF.getD j B with
      |false=>simp[(hdb j hb).1]
      |true=>exact absurd htr ((abK j hb F3).s2 t AM _ hoi)
    have hB:∀x,need i x->(mZ g8 l (λj=>dF.getD j B) s0).F x=(mZ g8 b (λ_=>M) s0).F x:=by
     intro x hx;rw[hst0];refine abq g8 x _ _ _ _ _ rfl (λj hj AM=> ?_)
     rcases aBj j hj with hb|rfl|hb
     ·cases F3:dF.getD j B with
      |true=>simp[hb]
      |false=>
       have:=(ayC j hb F3).n1 x hx;rw[AM] at this;simp at this
     ·simp[hi2,ib]
     ·cases F3:dF.getD j B with
      |false=>simp[(hdb j hb).1]
      |true=>
       have:=(abK j hb F3).n2 x hx;rw[AM] at this;simp at this
    have l7:∀j,(dF.setIfInBounds i M).getD j B=if j=i then M else dF.getD j B:=λj=>aCm dF i j (by rw[oQ];exact hi1) B
    have hpi:(dF.setIfInBounds i M).getD i B=M:=by rw[l7];simp
    have bi:∀j,j∈l->j∉b++ [i]->j∈d:=λj hj hn=>by
     rcases aBj j hj with h|h|h
     ·exact absurd (iu _ h) hn
     ·exact absurd (by simp[h]) hn
     ·exact h
    have hup:mZ g8 l (λj=>(dF.setIfInBounds i M).getD j B&&U (j∈b++ [i])) s0=(mZ g8 b (λj=>(dF.setIfInBounds i M).getD j B) s0).app (g8 i):=by
     have:=avb g8 (λj=>(dF.setIfInBounds i M).getD j B) (a:=b) (b:=d) (i:=i) nd' hpi s0
     rw[<-he] at this;exact this
    have aFM:(mZ g8 l (λj=>dF.getD j B) s0).app (g8 i)=mZ g8 l (λj=>(dF.setIfInBounds i M).getD j B) s0:=by
     refine DS.ext' (λt=> ?_) (λx=> ?_)
     ·show (if (g8 i).dst=V t then V (g8 i).v else _)=_
      by_cases hdt:(g8 i).dst=V t
      ·have e:=abp g8 t (λj=>(dF.setIfInBounds i M).getD j B) (λj=>(dF.setIfInBounds i M).getD j B&&U (j∈b++ [i])) l s0 s0 rfl (λj hj AM=>by
        by_cases hm:j∈b++ [i]
        ·simp[hm]
        ·cases F3:(dF.setIfInBounds i M).getD j B with
         |false=>simp
         |true=>
          have hjd:=bi j hj hm;rw[l7,aC (hdb j hjd).2] at F3;exact absurd AM ((abK j hjd F3).s3 t hdt))
       rw[e,hup,aF hdt];show _=if (g8 i).dst=V t then V (g8 i).v else _
       rw[aF hdt]
      ·rw[aC hdt];refine abp g8 t _ _ _ _ _ rfl (λj hj AM=> ?_)
       rw[l7];split
       ·rename_i he;subst he;exact absurd AM hdt
       ·rfl
     ·show (if (g8 i).D x=M then (g8 i).H x else _)=_
      by_cases hdx:(g8 i).D x=M
      ·have e:=abq g8 x (λj=>(dF.setIfInBounds i M).getD j B) (λj=>(dF.setIfInBounds i M).getD j B&&U (j∈b++ [i])) l s0 s0 rfl (λj hj AM=>by
        by_cases hm:j∈b++ [i]
        ·simp[hm]
        ·cases F3:(dF.setIfInBounds i M).getD j B with
         |false=>simp
         |true=>
          have hjd:=bi j hj hm;rw[l7,aC (hdb j hjd).2] at F3;have:=(abK j hjd F3).d x hdx;rw[AM] at this;simp at this)
       rw[e,hup,aF hdx];show _=if (g8 i).D x=M then (g8 i).H x else _
       rw[aF hdx]
      ·rw[aC hdx];refine abq g8 x _ _ _ _ _ rfl (λj hj AM=> ?_)
       rw[l7];split
       ·rename_i he;subst he;exact absurd AM hdx
       ·rfl
    have hcl':∀j,(dF.setIfInBounds i M).getD j B=M->∀k∈direct ops j,(dF.setIfInBounds i M).getD k B=M:=by
     intro j hj k hk;rw[l7] at hj ⊢;split
     ·rfl
     ·split at hj
      ·rename_i he;subst he;exact hi3 k hk
      ·exact fg j hj k hk
    have aRz:(l.filter (λj=> !(dF.setIfInBounds i M).getD j B)).length=fuel:=by
     have h1:l.filter (λj=> !(dF.setIfInBounds i M).getD j B)=(l.filter (λj=> !dF.getD j B)).erase i:=by
      have F0:(l.filter (λj=> !dF.getD j B)).Nodup:=List.Pairwise.filter _ nd
      rw[F0.erase_eq_filter,List.filter_filter];refine SH λx hx=> ?_
      rw[l7];by_cases hxi:x=i<;>simp[hxi]
     rw[h1,List.length_erase_of_mem (mD.2 ⟨(hl i).2 hi1,by rw[hi2];rfl⟩),ahp]
     rfl
    have aho:∀x,frp i x->g1.O x=G:=by
     intro x hx;by_cases he:g1.O x=g.O x
     ·rw[he];exact rl i ((hl i).2 hi1) x hx
     ·obtain ⟨k,k1,k2,k3⟩:=arb x he;have cR:i≠k:=λe=>by subst e;rw[hi2] at k2;simp at k2
      have:=Dk (S:=λj=>dF.getD j B=M) fg n k k2 i (hfp i k ((hl i).2 hi1) k1 cR x hx k3)
      rw[hi2] at this;simp at this
    refine hs m g1 _ _ a1 w1 (wpAnyIn (wV ro) m E.P .any ops Q fuel (dF.setIfInBounds i M)) Q hE1 arh Ih hT hB aho (λr w' g' q1 q2 q3 q4=> ?_)
    rw[<-hdst] at q1 ⊢;have e1:eN (mZ g8 l (λj=>dF.getD j B) s0).T (g8 i).dst (g8 i).v=(mZ g8 l (λj=>(dF.setIfInBounds i M).getD j B) s0).T:=by rw[<-aFM];rfl
    have e2:sm (g8 i).D (g8 i).H (mZ g8 l (λj=>dF.getD j B) s0).F=(mZ g8 l (λj=>(dF.setIfInBounds i M).getD j B) s0).F:=by rw[<-aFM];rfl
    rw[e1] at q1;rw[e2] at q2 q3;refine ih (dF.setIfInBounds i M) _ w' g' (by simpa using oQ) hcl' aRz (hE1.mono q3.le) q1 q2 (hf1.trans q3) (by rw[put_defers];exact hdf) (λx hx=> ?_)
    by_cases hn:newp i x
    ·exact ⟨i,(hl i).2 hi1,hpi,hn⟩
    rw[q4 x hn] at hx;obtain ⟨k,k1,k2,k3⟩:=arb x hx;refine ⟨k,k1,?_,k3⟩;rw[l7];split
    ·rfl
    ·exact k2
 have hlen:l.length=ops.size:=by
  have:l.Perm (aa3 ops.size):=(List.perm_ext_iff_of_nodup nd List.nodup_range).2 λj=>by rw[hl,Oy]
  rw[this.length_eq,List.length_range]
 refine wpIn_region_any (F:=wV ro) RJ (key ops.size _ a _ g (by simp[n]) ?_ ?_ hE ?_ ?_ ?_ rfl (λx hx=>absurd rfl hx))
 ·intro j hj;simp[uO,WY] at hj;split at hj<;>simp at hj
 ·have:l.filter (λj=> !(ac4 ops.size B).getD j B)=l:=D0.2 λx hx=>by
   simp[uO,WY];split<;>simp
  rw[this,hlen]
 all_goals
  have hs0:mZ g8 l (λj=>(ac4 ops.size B).getD j B) s0=s0:=by
   unfold mZ;have:l.filter (λj=>(ac4 ops.size B).getD j B)= []:=yg.2 λx hx=>by
    simp[uO,WY];split<;>simp
   rw[this];rfl
  rw[hs0]
 ·exact jx
 ·exact hr.Zp rfl
 ·exact Fr.Zp rfl rfl rfl rfl
end
end Go.bL
namespace Go.bL
variable {l:ep} {x K j n i u sz f9:Nat} {e:ll} {m0:MS} {ob o:List cJ} {r xs vs:bc} {Q:bz} {ro z:Bool} {bs:cZ} {ge:Prop} {sk:bP} {hi lo:Int} {aa svs:bf} {ups:hJ} {o':SO} {L':Ow} {fn:Func}
section
variable {s s' s1:LS} {E:Env} {pn:Nat->Bool} {nt:Nat} {ops:eY}
def EX {l m:bP} (h:wN l m=M):∀x∈l,x∉m:=λx hx hm=>by
 induction l with
 |nil=>cases hx
 |cons y l ih=>
  have h:aS (mW y m) B (wN l m)=M:=h;rw[cI] at h;split at h
  ·cases h
  ·rename_i hy;rcases da.1 hx with rfl|hx
   ·exact hy ((tT _ _).2 hm)
   ·exact ih h hx
structure WOK (w:WS):Prop where
 bd:∀x,w.m.nx<=x->w.m.H x=G
 cn:∀i,w.m.H i=G->w.c i=G
 fr:∀i o,w.F i=V o->w.m.H i=V o/\w.c i=G
def In.wok {w:WS} (h:In s w):WOK w:=⟨h.bd,h.r.cn,λi o hi=>h.r.fr i o hi⟩
def WOK.alive {w:WS} (h:WOK w) (hc:w.c x=V K):w.m.H x≠G/\x<w.m.nx:=
 have h1:w.m.H x≠G:=λe=>by rw[h.cn x e] at hc;cases hc
 ⟨h1,yU λe=>h1 (h.bd x e)⟩
inductive dQ (E:Env) (nt:Nat) (pn:Nat->Bool) (ops:eY):WS->List Ev->WS->Prop
 |nil {w:_} (hw:WOK w):dQ E nt pn ops w [] w
 |cons {w w1 w2 e l:_} (hw:WOK w) (h:Step E nt pn ops e w w1) (t:dQ E nt pn ops w1 l w2):dQ E nt pn ops w (e::l) w2
def dQ.split:∀{a:List Ev} {e:Ev} {b:List Ev} {w w':WS},dQ E nt pn ops w (a++e::b) w'->∃w1 w2,dQ E nt pn ops w a w1/\Step E nt pn ops e w1 w2/\dQ E nt pn ops w2 b w'/\WOK w1
 | [],_,_,_,_,.cons hw h t=>⟨_,_,.nil hw,h,t,hw⟩
 |_::a,_,_,_,_,.cons hw h t=>let ⟨w1,w2,h1,h2,h3,h4⟩:=dQ.split (a:=a) t;⟨w1,w2,.cons hw h h1,h2,h3,h4⟩
def dQ.F:∀{l:List Ev} {w w':WS},dQ E nt pn ops w l w'->od w.F w'.F/\(∀k,pn k=M->w'.g k=w.g k)/\w.m.nx<=w'.m.nx
 |_,_,_,.nil _=>⟨.refl _,λ_ _=>rfl,cS _⟩
 |_,_,_,.cons _ h t=>have ⟨a,b,c⟩:=t.F;⟨h.F.trans a,λk hk=>(b k hk).trans (h.g k hk),kP h.nx c⟩
def dQ.LY:∀{l:List Ev} {w w':WS} {x:Nat},dQ E nt pn ops w l w'->w.m.H x=G->x<w.m.nx->(∀e∈l,x≠e.nw)->w'.m.H x=G
 |_,_,_,_,.nil _,h,_,_=>h
 |e::l,w,w',x,.cons _ st t,h,hx,hn=>t.LY (ql λh1=>by
   rcases st.born x h h1 with e0|e0
   ·exact hn e (by simp) e0
   ·omega) (Bv hx st.nx) λe he=>hn e (dW _ he)
def dQ.apH:∀{l:List Ev} {w w':WS} {x K:Nat},dQ E nt pn ops w l w'->WOK w->w.c x=V K->(∀e∈l,x≠e.nw/\(e.cl=M->K∉e.W))->w'.c x=V K\/w'.m.H x=G
 |_,_,_,_,_,.nil _,_,h,_=>.inl h
 |e::l,w,w',x,K,.cons (w1:=w1) hw st t,qe,hc,hl=>by
  obtain ⟨h,hx⟩:=qe.alive hc;have hx1:=Bv hx st.nx;have dead:w1.m.H x=G->w'.c x=V K\/w'.m.H x=G:=λh1=>.inr (t.LY h1 hx1 λe he=>(hl e (dW _ he)).1)
  have ok1:WOK w1:=by cases t<;>assumption
  have go:w1.c x=V K->w'.c x=V K\/w'.m.H x=G:=λh1=>t.apH ok1 h1 λe he=>hl e (dW _ he)
  cases fg:e.cl with
  |false=>exact ((st.Gg fg).1 x K hc).elim go dead
  |true=>
   obtain ⟨_,h2⟩:=st.fr x h λK' hK' e0=>by
    rw[hc] at e0;exact (hl e (by simp)).2 fg ((lp e0) ▸ hK')
   exact go (h2.trans hc)
structure Good (ops:eY) (e':Ev) (pm:List Ev) (e:Ev):Prop where
 cl:e'.cl=B
 rd:∃r' r,e'.Rd=V r'/\e.Rd=V r/\(∀K∈r'++e'.W,K∉e.W/\∀m∈pm,m.cl=M->K∉m.W)/\∀K∈r,K∉e'.W
 sl:∃o' o,ops[e'.i]? =V o'/\ops[e.i]? =V o/\S7 ops.toList o' o=M
def azw (ops:eY) (p:List Ev) (e:Ev):Prop:=∀pa e' pm,p=pa++e'::pm->e'.i∈Ae ops ops.size e.i\/Good ops e' pm e
def PW (ops:eY):List Ev->List Ev->Prop
 |_,[]=>True
 |p,e::l=>((∀k∈direct ops e.i,k∈p.map (·.i))/\azw ops p e)/\PW ops (p++ [e]) l
def PW.at:∀{l p a:List Ev} {e:Ev} {b:List Ev},PW ops p l->l=a++e::b->(∀k∈direct ops e.i,k∈(p++a).map (·.i))/\azw ops (p++a) e
 |_,p,[],e,b,h,rfl=>by rw[rG];exact h.1
 |_,p,e0::a,e,b,h,rfl=>by
  have:=PW.at (p:=p++ [e0]) (a:=a) (e:=e) (b:=b) h.2 rfl;simpa using this
def Iq (ops:eY) (jQ:List Ev) (i:Nat):Stp:=(lk i (jQ.map λe=>(e.i,e))).elim ⟨G,.undef,λ_=>B,λ_=>G⟩ λe=>⟨(ops[i]?).bind (·.dst),e.r.v,e.r.D,e.r.H⟩
def Pf {jQ:List Ev} (nd:(jQ.map (·.i)).Nodup) {e:Ev} (he:e∈jQ):lk e.i (jQ.map λe=>(e.i,e))=V e:=by
 induction jQ with
 |nil=>cases he
 |cons e0 l ih=>
  rw[ki,dD];obtain ⟨n1,n2⟩:=pG.1 nd;rcases da.1 he with rfl|he
  ·rw[aF rfl]
  ·rw[aC λ(e1:e.i=e0.i)=>n1 (dJ.2 ⟨e,he,e1⟩)]
   exact ih n2 he
def He {jQ:List Ev} (nd:(jQ.map (·.i)).Nodup):∀{l:List Ev} {w w':WS},(∀e∈l,e∈jQ)->dQ E nt pn ops w l w'->mZ (Iq ops jQ) (l.map (·.i)) (λ_=>M) ⟨w.m.T,w.m.H⟩=⟨w'.m.T,w'.m.H⟩
 |_,_,_,_,.nil _=>rfl
 |e::l,w,w',hm,.cons (w1:=w1) _ st t=>by
  obtain ⟨o,ho,s1⟩:=st.st;have ih:=He nd (λe he=>hm e (dW _ he)) t
  rw[<-ih];have e1:(⟨w.m.T,w.m.H⟩:DS).app (Iq ops jQ e.i)=⟨w1.m.T,w1.m.H⟩:=by
   have:Iq ops jQ e.i=⟨(ops[e.i]?).bind (·.dst),e.r.v,e.r.D,e.r.H⟩:=by unfold Iq;rw[Pf nd (hm e (by simp))];rfl
   rw[this,ho];show (⟨eN w.m.T o.dst e.r.v,sm e.r.D e.r.H w.m.H⟩:DS)=_;rw[<-s1.T,<-s1.H]
  show mZ (Iq ops jQ) (e.i::l.map (·.i)) (λ_=>M) _=_
  unfold mZ;rw[je];simp only[ax,wA];rw[e1]
def arW {jQ:List Ev} {w w':WS} {id:Nat} (hT:w.m.T=m0.T) (hH:w.m.H=m0.H) (h0:w.m.nx=m0.nx+ops.size) (qZ:∀x,m0.nx<=x->m0.H x=G) (hc:dQ E nt pn ops w jQ w') (nd:(jQ.map (·.i)).Nodup) (im:∀j,j∈jQ.map (·.i)↔j<ops.size) (hnw:∀e∈jQ,e.nw=m0.nx+e.i) (hp:PW ops [] jQ):gu E nt (.region id ops M) m0 .normal w'.m:=λok ro k g a wo Q n hQ=>by
 have uniq:∀{e e':Ev},e∈jQ->e'∈jQ->e.i=e'.i->e=e':=λh h' e0=>by
  have a:=Pf nd h;rw[e0,Pf nd h'] at a;exact (lp a).symm
 have Ru:∀{e:Ev},e∈jQ->e.nw<w.m.nx/\m0.nx<=e.nw:=λh=>by
  have:=(im _).1 (dJ.2 ⟨_,h,rfl⟩);rw[hnw _ h,h0];omega
 have nwne:∀{a b:List Ev} {e:Ev},jQ=a++e::b->∀e'∈a++b,e.nw≠e'.nw:=λ{a b e} he e' hm e0=>by
  have he1:e∈jQ:=by rw[he];simp
  have he2:e'∈jQ:=by rw[he];simp only[eV,da] at hm ⊢;exact hm.elim .inl λh=>.inr (.inr h)
  rw[hnw e he1,hnw e' he2] at e0;have nd':=nd;rw[he,kh,ki] at nd';obtain ⟨_,n2,n3⟩:=DY.1 nd';rcases eV.1 hm with hm|hm
  ·exact n3 e'.i (dJ.2 ⟨e',hm,rfl⟩) e.i (by simp) (by omega)
  ·exact (pG.1 n2).1 (dJ.2 ⟨e',hm,by omega⟩)
 have un:∀{a b:List Ev} {w1:WS},jQ=a++b->dQ E nt pn ops w a w1->∀e∈b,w1.m.H e.nw=G:=λ{a b w1} he tp e hm=>by
  obtain ⟨b1,b2,rfl⟩:=wB hm;have he1:e∈jQ:=by rw[he];simp
  refine tp.LY ?_ (Ru he1).1 λe' he'=>nwne (a:=a++b1) (b:=b2) (by rw[he];simp) e' (by simp[he'])
  rw[hH];exact qZ _ (Ru he1).2
 let need:Nat->Nat->Prop:=λi x=>∃e,e∈jQ/\e.i=i/\e.r.need x
 let frp:Nat->Nat->Prop:=λi x=>∃e,e∈jQ/\e.i=i/\e.r.frp x
 let newp:Nat->Nat->Prop:=λi x=>∃e,e∈jQ/\e.i=i/\e.r.newp x
 have spl:∀{a:bP} {i:Nat} {b:bP},jQ.map (·.i)=a++i::b->∃ea e eb,jQ=ea++e::eb/\ea.map (·.i)=a/\e.i=i:=λ{a i b} h=>by
  obtain ⟨ea,r,h1,h2,h3⟩:=List.map_eq_append_iff.1 h;obtain ⟨e,eb,h4,h5,h6⟩:=List.map_eq_cons_iff.1 h3;exact ⟨ea,e,eb,by rw[h1,h4],h2,h5⟩
 have anB:∀{e:Ev} {w1 w2:WS} {x:Nat} {r:bP},Step E nt pn ops e w1 w2->WOK w1->e.Rd=V r->e.r.need x->w1.m.H x≠G/\((∃o,w1.F x=V o)\/∃K∈r,w1.c x=V K):=λ{e w1 w2 x r} st ok hr hx=>by
  rcases st.need r hr x hx with h|⟨K,m,h⟩
  ·obtain ⟨o,ho⟩:=uR.1 h;exact ⟨by rw[(ok.fr x o ho).1];simp,.inl ⟨o,ho⟩⟩
  ·exact ⟨(ok.alive h).1,.inr ⟨K,m,h⟩⟩
 have ind:∀{pa pm eb:List Ev} {e' e:Ev},jQ=(pa++e'::pm)++e::eb->Good ops e' pm e->Ind ops (Iq ops jQ) need e'.i e.i:=λ{pa pm eb e' e} he hg=>by
  obtain ⟨r',r,jf,hr,g1,g2⟩:=hg.rd;obtain ⟨o',o,ho',ho,Ig⟩:=hg.sl;have me':e'∈jQ:=by rw[he];simp
  have me:e∈jQ:=by rw[he];simp
  have qE:=hc;rw[he] at qE;obtain ⟨w1,w2,c1,st,_,ok1⟩:=qE.split;obtain ⟨wp,wq,c2,nJ,c3,okp⟩:=c1.split;have okq:WOK wq:=by cases c3<;>assumption
  have nxp:=c2.F.2.2;have nxq:=nJ.nx;have nx1:=c3.F.2.2;have unp:∀m∈e'::pm++e::eb,wp.m.H m.nw=G:=un (a:=pa) (by rw[he];simp) c2
  have une:w1.m.H e.nw=G:=un (a:=pa++e'::pm) he c1 e (by simp)
  have off:∀{x},wp.m.H x≠G->∀m∈e'::pm++e::eb,x≠m.nw:=λhx m hm e0=>hx (e0 ▸ unp m hm)
  have aBd:∀m∈pm++e::eb,e'.nw≠m.nw:=λm hm=>nwne (a:=pa) (b:=pm++e::eb) (by rw[he];simp) m (jo _ hm)
  have cW:∀{K},K∈r'++e'.W->∀m∈pm,m.cl=M->K∉m.W:=λhK m hm fg=>(g1 _ hK).2 m hm fg
  have T0:∀{x K},wp.c x=V K->K∈r'++e'.W->w1.c x=V K\/w1.m.H x=G:=λ{x K} hx hK=>dQ.apH (.cons okp nJ c3) okp hx λm hm=>⟨off (okp.alive hx).1 m (iu _ hm),λfg=>by
   rcases da.1 hm with rfl|hm
   ·rw[hg.cl] at fg;cases fg
   ·exact cW hK m hm fg⟩
  have T1:∀{x},e'.r.D x=M->((∃K∈e'.W,w1.c x=V K)\/w1.m.H x=G)/\x≠e.nw/\x<w1.m.nx:=λ{x} hx=>by
   rcases nJ.D x hx with rfl|⟨h,_⟩|⟨K,m,h⟩
   ·have dz:e'.nw<wq.m.nx:=by have:=(Ru me').1;omega
    refine ⟨?_,aBd e (by simp),by omega⟩
    by_cases hq:wq.m.H e'.nw=G
    ·exact .inr (c3.LY hq dz λm hm=>aBd m (iu _ hm))
    ·obtain ⟨K,m,h⟩:=(nJ.Gg hg.cl).2 hq;exact (c3.apH okq h λm' rU=>⟨aBd m' (iu _ rU),cW (jo _ m) m' rU⟩).imp_left λh=>⟨K,m,h⟩
   ·rw[hg.cl] at h;cases h
   ·obtain ⟨al,lt⟩:=okp.alive h;exact ⟨(T0 h (jo _ m)).imp_left λh=>⟨K,m,h⟩,off al e (by simp),by omega⟩
  have dst:∀{e:Ev} {o:N'},e∈jQ->ops[e.i]? =V o->(Iq ops jQ e.i).dst=o.dst:=λhe ho=>by unfold Iq;rw[Pf nd he];show (ops[_]?).bind _=_;rw[ho];rfl
  have Dv:∀{e:Ev},e∈jQ->(Iq ops jQ e.i).D=e.r.D:=λhe=>by unfold Iq;rw[Pf nd he];rfl
  have sl:=j4.1 (show (wN o'.dst.toList (looks ops.toList o)&&(wN o.dst.toList (looks ops.toList o')&&wN o'.dst.toList o.dst.toList))=M from Ig);have sl2:=j4.1 sl.2;have Dfin:∀{x},e.r.D x=M->x≠e.nw->x<w1.m.nx->∃K∈e.W,w1.c x=V K:=λ{x} hx h1 h2=>by
   rcases st.D x hx with h|⟨_,h⟩|h
   ·exact absurd h h1
   ·omega
   ·exact h
  refine ⟨λt ht o1 h1=> ?_,λt ht o1 h1=> ?_,λt ht h1=> ?_,λx hx=> ?_,λx hx=> ?_,λx hx=> ?_⟩
  ·rw[dst me' ho'] at ht;rw[ho] at h1;cases h1;rw[<-agH];exact EX sl.1 t (by rw[ht];simp)
  ·rw[dst me ho] at ht;rw[ho'] at h1;cases h1;rw[<-agH];exact EX sl2.1 t (by rw[ht];simp)
  ·rw[dst me' ho'] at ht;rw[dst me ho] at h1;exact EX sl2.2 t (by rw[ht];simp) (by rw[h1];simp)
  ·rw[Dv me'] at hx;rw[Dv me];obtain ⟨t1,t2,t3⟩:=T1 hx;cases hd:e.r.D x with
   |false=>rfl
   |true=>
    obtain ⟨K,m,h⟩:=Dfin hd t2 t3;rcases t1 with ⟨K',m',h'⟩|h'
    ·rw[h'] at h;cases h;exact absurd m (g1 _ (jo _ m')).1
    ·exact absurd h' (ok1.alive h).1
  ·rw[Dv me'];obtain ⟨e1,me1,ei,hx⟩:=hx;obtain rfl:=uniq me1 me ei;obtain ⟨n1,n2⟩:=anB st ok1 hr hx;cases hd:e'.r.D x with
   |false=>rfl
   |true=>
    obtain ⟨t1,_,_⟩:=T1 hd;rcases t1 with ⟨K',m',h'⟩|h'
    ·rcases n2 with ⟨o,ho⟩|⟨K,m,h⟩
     ·rw[(ok1.fr x o ho).2] at h';cases h'
     ·rw[h'] at h;cases h;exact absurd m' (g2 _ m)
    ·exact absurd h' n1
  ·rw[Dv me];obtain ⟨e1,me1,ei,hx⟩:=hx;obtain rfl:=uniq me1 me' ei;obtain ⟨n1,n2⟩:=anB nJ okp jf hx;have dz:x<wp.m.nx:=yU λh=>n1 (okp.bd x h)
   cases hd:e.r.D x with
   |false=>rfl
   |true=>
    obtain ⟨K,m,h⟩:=Dfin hd (off n1 e (by simp)) (by omega)
    rcases n2 with ⟨o,ho⟩|⟨K',m',h'⟩
    ·rw[(ok1.fr x o (c3.F.1 x o (nJ.F x o ho))).2] at h;cases h
    ·rcases T0 h' (iu _ m') with h2|h2
     ·rw[h2] at h;cases h;exact absurd m (g1 _ (iu _ m')).1
     ·exact absurd h2 (ok1.alive h).1
 have step:∀{e:Ev},e∈jQ->∃w1 w2 ea eb,jQ=ea++e::eb/\dQ E nt pn ops w ea w1/\Step E nt pn ops e w1 w2/\dQ E nt pn ops w2 eb w':=λhe=>by
  obtain ⟨ea,eb,h⟩:=wB he;have qE:=hc;rw[h] at qE;obtain ⟨w1,w2,h1,h2,h3,_⟩:=qE.split;exact ⟨w1,w2,ea,eb,h,h1,h2,h3⟩
 refine aCM (nt:=nt) (g8:=Iq ops jQ) (need:=need) (frp:=frp) (newp:=newp) (s0:=⟨m0.T,m0.H⟩) nd im n.env.mix (λa i b h=> ?_) (λa i b h=> ?_) (λi k hi hk cR x hx hy=> ?_) n.env n.fr n.hr (λi hi x hx=> ?_) λg' a' w1 q1 q2 q3 q4 q5=> ?_
 ·obtain ⟨ea,e,eb,h1,h2,rfl⟩:=spl h;have me:e∈jQ:=by rw[h1];simp
  have qE:=hc;rw[h1] at qE;obtain ⟨w1,w2,c1,st,_,_⟩:=qE.split;obtain ⟨o,ho,s1⟩:=st.st;have hs:=He nd (λe' he'=>by rw[h1];exact iu _ he') c1
  rw[hT,hH,h2] at hs;have eU:Iq ops jQ e.i=⟨(ops[e.i]?).bind (·.dst),e.r.v,e.r.D,e.r.H⟩:=by unfold Iq;rw[Pf nd me];rfl
  refine ⟨o,ho,by rw[eU,ho];rfl,?_⟩
  rw[hs,eU];exact λm g f T1 a w K Q e1 e2 e3 e4 e5 e6 e7=>s1.st ro m g f T1 a w K Q e1 e2 e3 e4 (λx hx=>e5 x ⟨e,me,rfl,hx⟩) (λx hx=>e6 x ⟨e,me,rfl,hx⟩) λr w' g' k1 k2 k3 k4=>e7 r w' g' k1 k2 k3 λx hx=>k4 x λhn=>hx ⟨e,me,rfl,hn⟩
 ·obtain ⟨ea,e,eb,h1,h2,rfl⟩:=spl h;obtain ⟨p1,p2⟩:=hp.at h1;rw[j0,h2] at p1;refine ⟨p1,λk hk=> ?_⟩
  rw[<-h2] at hk;obtain ⟨e',he',rfl⟩:=dJ.1 hk;obtain ⟨pa,pm,h3⟩:=wB he';rcases p2 pa e' pm (by rw[j0,h3]) with h|h
  ·exact .inl h
  ·exact .inr (ind (by rw[h1,h3]) h)
 ·obtain ⟨e,me,rfl,hx⟩:=hx;obtain ⟨e2,me2,rfl,hy⟩:=hy;have n1:=Ru me;have n2:=Ru me2;have hnn:e.nw≠e2.nw:=by rw[hnw e me,hnw e2 me2];omega
  obtain ⟨ea,eb,he⟩:=wB me;have qE:=hc;have me3:=me2;rw[he] at qE me3;rcases eV.1 me3 with hm|hm
  ·obtain ⟨b1,b2,rfl⟩:=wB hm;obtain ⟨w1,w2,c1,st,_,_⟩:=qE.split;obtain ⟨v1,v2,d1,yu,d2,_⟩:=c1.split;have a1:=d1.F.2.2;have a2:=d2.F.2.2;have a3:=yu.nx;rcases st.frp x hx with h1|⟨_,h1⟩<;>rcases yu.newp x hy with ⟨h2,_⟩|⟨_,h2,h3⟩
   ·exact absurd (h1.symm.trans h2) hnn
   ·omega
   ·omega
   ·omega
  ·rcases da.1 hm with h|hm
   ·exact absurd (bH Ev.i h).symm cR
   obtain ⟨b1,b2,rfl⟩:=wB hm;have he':jQ=(ea++e::b1)++e2::b2:=by rw[he];simp
   rw[show ea++e::(b1++e2::b2)=(ea++e::b1)++e2::b2 by simp] at qE
   obtain ⟨w1,w2,c1,yu,_,_⟩:=qE.split;obtain ⟨v1,v2,d1,st,d2,_⟩:=c1.split;have a1:=d1.F.2.2;have a2:=c1.F.2.2;rcases st.frp x hx with h1|⟨fg,h1⟩<;>rcases yu.newp x hy with ⟨h2,_⟩|⟨_,h2,h3⟩
   ·exact absurd (h1.symm.trans h2) hnn
   ·omega
   ·omega
   ·rcases (hp.at he').2 ea e b1 (by rw[j0]) with h|h
    ·exact h
    ·rw[h.cl] at fg;cases fg
 ·obtain ⟨e,me,rfl,hx⟩:=hx;obtain ⟨w1,w2,ea,eb,he,c1,st,c2⟩:=step me;have a1:=c1.F.2.2;have n1:=Ru me;refine n.fresh x ?_;rcases st.frp x hx with h1|⟨_,h1⟩<;>omega
 ·have nb:∀{x i},newp i x->m0.nx<=x/\x<w'.m.nx:=λ{x i} h=>by
   obtain ⟨e,me,rfl,hx⟩:=h;obtain ⟨w1,w2,ea,eb,he,c1,st,c2⟩:=step me;have a1:=c1.F.2.2;have a2:=c2.F.2.2;have a3:=st.nx;have n1:=Ru me;rcases st.newp x hx with ⟨h1,_⟩|⟨_,h1,h2⟩<;>omega
  have hfin:=He nd (λe he=>he) hc
  rw[hT,hH] at hfin;rw[hfin] at q1 q2 q3;have hle:=hc.F.2.2;refine hQ g' a' w1 _ .normal ⟨n.env.mono q3.le,q1,q2,λx hx=> ?_⟩ ⟨q3,q4,λx hx=>q5 x λi _ h=> ?_,by omega⟩
  ·rw[q5 x λi _ h=>by have:=nb h;omega]
   exact n.fresh x (by omega)
  ·have:=nb h;omega
end
section
variable {s s' s1:LS} {E:Env} {pn:Nat->Bool} {nt:Nat} {ops:eY}
structure Mt where
 i:Nat
 o:N'
 W:bP
 Rd:Option bP
 cl:Bool
def ancL (d:bP) (l:List Mt):bP:=List.rec (λd=>d) (λm _ ih d=>ih (aS (mW m.i d) (Ha m.o++d) d)) l d
def arV (all:nS) (o:N') (f9 W:bP) (Rd:A bP):bP->List Mt->Bool
 |_,[]=>M
 |cw,m::l=>(mW m.i f9||(!m.cl&&((match m.Rd,Rd with|some r',V r=>wN (r'++m.W) (W++cw)&&wN r m.W|_,_=>B)&&S7 all m.o o)))&&arV all o f9 W Rd (aS m.cl (m.W++cw) cw) l
def apN:bP->List Mt->Bool
 | [],_=>M
 |k::l,p=>mW k (p.map (·.i))&&apN l p
def Zv (E:Env) (nt:Nat) (pn:Nat->Bool) (all:nS):bP->LS->Sc E->List cJ->List Mt->A (LS×List cJ×Sc E)
 | [],s,sc,ob,_=>V (s,ob,sc)
 |i::l,s,sc,ob,p=>ay (all[i]?) λo=>ay (apR E nt pn all s o sc) λr=>(λf9:bP=>
  aS (kN (J' p.length) all.length&&(apN (Ha o) p&&(!mW i (p.map (·.i))&&arV all o f9 r.1.r.W r.1.Rd [] p))) (Zv E nt pn all l r.1.r.s r.2 (r.1.r.BN++ob) (⟨i,o,r.1.r.W,r.1.Rd,r.1.cl⟩::p)) G) (ancL (Ha o) p)
structure Fits (ops:eY) (e:Ev) (m:Mt):Prop where
 i:e.i=m.i
 o:ops[e.i]? =V m.o
 W:e.W=m.W
 Rd:e.Rd=m.Rd
 cl:e.cl=m.cl
inductive GC (ops:eY):List Ev->List Mt->Prop
 |nil:GC ops [] []
 |cons {p m e l:_} (h:GC ops p l) (k:Fits ops e m):GC ops (p++ [e]) (m::l)
def GC.map:∀{p:List Ev} {l:List Mt},GC ops p l->∀k,k∈p.map (·.i)↔k∈l.map (·.i)
 |_,_,.nil,k=>Iff.rfl
 |_,_,.cons h f,k=>by simp only[kh,eV,h.map k,ki,da,xf,List.not_mem_nil,or_false,f.i];exact Or.comm
def Us:∀{m n j:Nat},m<=n->∀i∈Ae ops m j,i∈Ae ops n j
 |0,_,_,_,i,h=>by cases h
 |m+1,0,_,h,_,_=>by omega
 |m+1,n+1,j,h,i,hi=>by
  rcases eV.1 (show i∈direct ops j++(direct ops j).flatMap (Ae ops m) from hi) with h1|h1
  ·exact iu _ h1
  ·obtain ⟨k,k1,k2⟩:=wy.1 h1;exact jo _ (wy.2 ⟨k,k1,Us (Nat.le_of_succ_le_succ h) i k2⟩)
def aic:∀{n j i k:Nat},i∈Ae ops n j->k∈direct ops i->k∈Ae ops (n+1) j
 |0,_,_,_,h,_=>by cases h
 |n+1,j,i,k,h,hk=>by
  rcases eV.1 (show i∈direct ops j++(direct ops j).flatMap (Ae ops n) from h) with h1|h1
  ·exact jo _ (wy.2 ⟨i,h1,iu _ hk⟩)
  ·obtain ⟨q,q1,q2⟩:=wy.1 h1;exact jo _ (wy.2 ⟨q,q1,aic q2 hk⟩)
def aop {j:Nat}:∀{p:List Ev} {l:List Mt} {q:Nat} {d:bP},(∀i∈d,i∈Ae ops q j)->GC ops p l->∀i∈ancL d l,i∈Ae ops (q+l.length) j
 |_,_,_,_,hd,.nil,i,hi=>hd i hi
 |_,_,q,d,hd,.cons (m:=m) (l:=l) h k,i,hi=>by
  have:=aop (q:=q+1) (d:=aS (mW m.i d) (Ha m.o++d) d) (λi hi=>by
   rw[cI] at hi;split at hi
   ·rename_i hm;rcases eV.1 hi with hi|hi
    ·exact aic (hd _ ((tT _ _).1 hm)) (by unfold direct;rw[<-k.i,k.o];exact hi)
    ·exact Us (sO _) i (hd i hi)
   ·exact Us (sO _) i (hd i hi)) h i hi
  rwa[show q+1+l.length=q+(m::l).length by rw[iU];omega] at this
def ama {l:List Mt}:∀{d:bP},apN d l=M->∀k∈d,k∈l.map (·.i)
 |k::d,h,j,hj=>by
  have h:=j4.1 (show (mW k (l.map (·.i))&&apN d l)=M from h)
  rcases da.1 hj with rfl|hj
  ·exact (tT _ _).1 h.1
  ·exact ama h.2 j hj
def aoh {o:N'} {f9:bP} {e:Ev} (ho:ops[e.i]? =V o):∀{p:List Ev} {l:List Mt} {cw:bP},GC ops p l->arV ops.toList o f9 e.W e.Rd cw l=M->∀pa e' pm,p=pa++e'::pm->e'.i∈f9\/(Good ops e' pm e/\∃r',e'.Rd=V r'/\∀K∈r'++e'.W,K∉cw)
 |_,_,cw,.nil,_,pa,e',pm,h0=>by
  have:=bH aa8 h0;simp at this
 |_,_,cw,.cons (p:=p) (m:=m) (e:=e0) (l:=l) hf k,h,pa,e',pm,h0=>by
  have h:=j4.1 (show ((mW m.i f9||(!m.cl&&((match m.Rd,e.Rd with|some r',V r=>wN (r'++m.W) (e.W++cw)&&wN r m.W|_,_=>B)&&S7 ops.toList m.o o)))&&arV ops.toList o f9 e.W e.Rd (aS m.cl (m.W++cw) cw) l)=M from h)
  rcases List.eq_nil_or_concat pm with rfl|⟨pm0,e1,rfl⟩
  ·obtain ⟨rfl,h2⟩:=List.append_inj' h0 rfl;obtain rfl:=List.singleton_inj.1 h2;rcases (sU _ _).mp h.1 with h1|h1
   ·left;rw[k.i];exact (tT _ _).1 h1
   ·right;simp only[bJ] at h1;obtain ⟨h1,h2,h3⟩:=h1;rw[<-k.Rd] at h2;split at h2
    ·rename_i r' r e1 e2;rw[bJ,<-k.W] at h2;have d1:=EX h2.1;have d2:=EX h2.2;refine ⟨⟨by rw[k.cl];simpa using h1,⟨r',r,e1,e2,λK hK=>⟨λhm=>d1 K hK (iu _ hm),λm hm=>(by cases hm)⟩,d2⟩,⟨m.o,o,k.o,ho,h3⟩⟩,r',e1,λK hK hm=>d1 K hK (jo _ hm)⟩
    ·cases h2
  ·rw[List.concat_eq_append,show pa++e'::(pm0++ [e1])=(pa++e'::pm0)++ [e1] by simp] at h0
   obtain ⟨h1,h2⟩:=List.append_inj' h0 rfl;obtain rfl:=List.singleton_inj.1 h2;rcases aoh ho hf h.2 pa e' pm0 h1 with h3|⟨⟨g1,⟨r',r,e1,e2,g2,g3⟩,g4⟩,r'',e3,g5⟩
   ·exact .inl h3
   ·right;rw[e1] at e3;cases e3;rw[cI] at g5;refine ⟨⟨g1,⟨r',r,e1,e2,λK hK=>⟨(g2 K hK).1,λm' rU fg=> ?_⟩,g3⟩,g4⟩,r',e1,λK hK hm=>g5 K hK ?_⟩
    ·rw[List.concat_eq_append] at rU;rcases eV.1 rU with rU|rU
     ·exact (g2 K hK).2 m' rU fg
     ·rw[gg] at rU;subst rU;intro hKW;refine g5 K hK ?_;rw[aF (by rw[<-k.cl];exact fg)]
      exact iu _ (k.W ▸ hKW)
    ·split
     ·exact jo _ hm
     ·exact hm
def Ku {base:Nat}:∀{l:bP} {s:LS} {sc:Sc E} {ob:List cJ} {pm:List Mt} {r:LS×List cJ×Sc E},Zv E nt pn ops.toList l s sc ob pm=V r->jA r.2.1->jA ob/\∀(p:List Ev) (w:WS),GC ops p pm->(p.map (·.i)).Nodup->In s w->base+ops.size<=w.m.nx->(∀i,i<ops.size->i∉p.map (·.i)->w.m.H (base+i)=G)->
  ∃jQ w',dQ E nt pn ops w jQ w'/\In r.1 w'/\jQ.map (·.i)=l/\(∀e∈jQ,e.nw=base+e.i)/\PW ops p jQ/\((p++jQ).map (·.i)).Nodup/\(pn uv=M->∀x,w.m.H x≠G->w'.m.H x=w.m.H x/\w'.c x=w.c x)
 | [],s,sc,ob,pm,r,h,ho=>by
  cases h;exact ⟨ho,λp w _ nd hw _ _=>⟨[],w,.nil hw.wok,hw,rfl,λe he=>(by cases he),trivial,by simpa using nd,λ_ _ _=>⟨rfl,rfl⟩⟩⟩
 |i::l,s,sc,ob,pm,r,h,ho=>by
  obtain ⟨o,hi,h⟩:=aq h;obtain ⟨q,hq,h⟩:=aq h;obtain ⟨hc,h⟩:=aZ h;simp only[bJ] at hc;obtain ⟨k1,k2,k3,k4⟩:=hc;rw[mC] at hi;obtain ⟨h1,h2⟩:=Ku h ho;obtain ⟨h3,h4⟩:=pD h1;refine ⟨h4,λp w hf nd hw nN hun=> ?_⟩
  have dz:i<ops.size:=(oI.1 hi).1;have hip:i∉p.map (·.i):=λhm=>JW k3 ((hf.map i).1 hm)
  obtain ⟨r1,w1,st,in1,n1,q9⟩:=aee (new:=base+i) (nx':=w.m.nx) hi hq h3 hw (hun i dz hip) (cS _) (by omega) λ_=>.inr rfl
  have dird:∀k∈Ha o,k∈direct ops i:=λk hk=>by unfold direct;rw[hi];exact hk
  have fit:Fits ops ⟨i,base+i,r1,q.1.r.W,q.1.Rd,q.1.cl⟩ ⟨i,o,q.1.r.W,q.1.Rd,q.1.cl⟩:=⟨rfl,hi,rfl,rfl,rfl⟩;have nd':((p++ [(⟨i,base+i,r1,q.1.r.W,q.1.Rd,q.1.cl⟩:Ev)]).map (·.i)).Nodup:=by
   rw[kh];exact DY.2 ⟨nd,by simp,λa ha b hb e=>hip (by rw[show b=i by simpa using hb] at e;exact e ▸ ha)⟩
  obtain ⟨jQ,w',c1,c2,c3,c4,c5,c6,c9⟩:=h2 _ w1 (.cons hf fit) nd' in1 (kP nN st.nx) λj hj hjp=>ql λcR=>by
   rw[kh,eV,not_or] at hjp;rcases st.born (base+j) (hun j hj hjp.1) cR with e|e
   ·exact hjp.2 (by have e:base+j=base+i:=e;simp;omega)
   ·have e:w.m.nx<=base+j:=e;omega
  refine ⟨⟨i,base+i,r1,q.1.r.W,q.1.Rd,q.1.cl⟩::jQ,w',.cons hw.wok st c1,c2,by rw[ki,c3],λe he=> ?_,⟨⟨λk hk=> ?_,λpa e' pm' hp=> ?_⟩,c5⟩,by simpa using c6,λhp x hx=>have ⟨a1,a2⟩:=q9 hp x hx;have ⟨b1,b2⟩:=c9 hp x (a1 ▸ hx);⟨b1.trans a1,b2.trans a2⟩⟩
  ·rcases da.1 he with rfl|he
   ·rfl
   ·exact c4 e he
  ·refine (hf.map k).2 (ama k2 k ?_);have hk:k∈((ops[i]?).map Ha).getD []:=hk;rw[hi] at hk;exact hk
  ·rcases aoh (e:=⟨i,base+i,r1,q.1.r.W,q.1.Rd,q.1.cl⟩) hi hf k4 pa e' pm' hp with h|⟨h,_⟩
   ·refine .inl (Us ?_ _ (aop (q:=1) (λk hk=>iu _ (dird k hk)) hf _ h))
    have:=(bN _ _).1 k1;have e:ops.toList.length=ops.size:=Oz;omega
   ·exact .inr h
def ordS (n:Nat) (sc:Sc E):bP×Sc E:=
 match sc with
 |(0,.ord l)::sc=>(l,sc)
 |_=>(aa3 n,sc)
def aGI (E:Env) (nt:Nat) (pn:Nat->Bool) (all:nS) (n:Nat) (s:LS) (sc:Sc E) (ob:List cJ):A (LS×List cJ×Sc E):=
 (λq:LS×List cJ×Sc E=>(λσ:bP×Sc E=>aS ((aa3 n).all λj=>mW j σ.1) (Zv E nt pn all σ.1 q.1 σ.2 q.2.1 []) G) (ordS n q.2.2)) (EP pn sc s ob)
def aCN {id:Nat} {sc:Sc E} {r:LS×List cJ×Sc E} (h:aGI E nt pn ops.toList ops.size s sc ob=V r) (ho:jA r.2.1):jA ob/\∀w,In s w->∃w',gu E nt (.region id ops M) w.m .normal w'.m/\In r.1 w'/\Ext pn w w':=by
 obtain ⟨h1,h⟩:=aZ h;obtain ⟨h2,h3⟩:=Ku (base:=0) h ho;obtain ⟨h4,h5,h9⟩:=M4 sc s ob h2;refine ⟨h4,λw hw=> ?_⟩
 obtain ⟨w1,k1,k2,k3⟩:=hw.Rg h5 h9;let w2:WS:=⟨w1.F,w1.g,w1.Y,w1.c,⟨w1.m.T,w1.m.H,w1.m.nx+ops.size⟩⟩;have in2:In (EP pn sc s ob).1 w2:=⟨k1.r,λx hx=>k1.bd x (by have hx:w1.m.nx+ops.size<=x:=hx;omega)⟩
 obtain ⟨_,h3⟩:=Ku (base:=w1.m.nx) h ho;obtain ⟨jQ,w',c1,c2,c3,c4,c5,c6,c9⟩:=h3 [] w2 .nil (by simp) in2 (cS _) λi _ _=>k1.bd _ (by omega)
 have c6:(jQ.map (·.i)).Nodup:=by simpa using c6
 have dz:∀j∈jQ.map (·.i),j<ops.size:=λj hj=>by
  obtain ⟨e,he,rfl⟩:=dJ.1 hj;obtain ⟨a,b,he'⟩:=wB he;rw[he'] at c1;obtain ⟨_,_,_,st,_⟩:=c1.split;obtain ⟨o,ho,_⟩:=st.st;exact (oI.1 ho).1
 have hF:=c1.F;have nN:w1.m.nx<=w'.m.nx:=kP (Ox _ _) hF.2.2;refine ⟨w',?_,c2,k2.trans ⟨hF.1,hF.2.1,nN,λx hx cR h0=> ?_,c9⟩⟩
 ·rw[<-k3];exact arW (w:=w2) rfl rfl rfl k1.bd c1 c6 (λj=>⟨dz j,λhj=>by rw[c3];exact (tT _ _).1 ((j1.1 h1) j (Oy.2 hj))⟩) c4 c5
 ·refine cR (c1.LY h0 (show x<w1.m.nx+ops.size by omega) λe he e0=> ?_)
  rw[c4 e he] at e0;omega
end
section
variable {s s' s1:LS} {E:Env} {nt:Nat}
def FH:Mn->Nat->Mn
 | .seq a _,0=>a
 | .seq _ b,_=>b
 | .cond _ a _,0=>a
 | .cond _ _ b,_=>b
 | .block _ c,_=>c
 | .loop c,_=>c
 |_,_=>.skip
def sf (c:Mn):bP->Mn
 | []=>c
 |i::p=>FH (sf c p) i
inductive KP where
 |code (p:bP) (c:Mn)|block (id:Nat)|loop (p:bP) (c:Mn)
def kG (c:Mn):bP->List KP
 | []=> []
 |i::p=>
  match sf c p with
  | .seq _ b=>(match i with|0=>.code (1::p) b::kG c p|_=>kG c p)
  | .block id _=>.block id::kG c p
  | .loop b=>.loop p b::kG c p
  |_=>kG c p
structure Fx (E:Env) where
 fn:Func
 code:Mn
 Mm:bP
 ro:Bool
def y9 (X:Fx E) (k:Nat):Bool:=aS (iX k uv) X.ro (pnL X.Mm k)
inductive Md where
 |zn (c:Mn) (p:bP) (kC:Bool)|out (e:Ex)
inductive Stop where
 |at (p:bP) (s:LS)|ret (y:AV) (bs:cZ)
def eqP:bP->bP->Bool
 | []=>λq=>(match q with| []=>M|_=>B)
 |a::p=>λq=>(match q with| []=>B|b::q=>aS (iX a b) (eqP p q) B)
def aCs (p:bP) (st:Stop):A LS:=
 match st with
 | .at q s=>aS (eqP q p) (V s) G
 |_=>G
def Rj (E:Env) (s:LS):ab0->AV
 | .tmp t=>(lk t s.ts).getD .undef
 | .cell t ty=>(cj (lk t s.ts) (E.ty.get ty) λa i=>JY i s.bs a).getD .undef
def kb:bc->AV
 | [v]=>v
 |vs=>.dq vs
abbrev CJ:=A (Stop×List cJ)
def aAT (X:Fx E) (st:Stop) (s:LS) (o:List cJ):CJ:=
 match st with
 | .ret y bs=>(λys:bc=>ay (Nl s.bs bs) λbs=>aS (rD ys) (V (.ret (cv y (kb ys)) bs,o)) G) (X.fn.results.toList.map (Rj E s))
 |_=>G
def retG (X:Fx E) (st:Stop) (s:LS) (sc:Sc E) (o:List cJ):CJ:=(λq:LS×List cJ×Sc E=>aAT X st q.1 q.2.1) (EP (y9 X) sc s o)
abbrev Nz (E:Env):=Md->List KP->LS->Sc E->List cJ->CJ
def regK (X:Fx E) (ih:Nz E) (ops:nS) (n:Nat) (draw:Bool) (ks:List KP) (s:LS) (sc:Sc E) (o:List cJ):CJ:=
 ay (aS draw (aGI E X.fn.ntmps (y9 X) ops n s sc o) (afS E X.fn.ntmps (y9 X) ops ops s sc o)) λr=>ih (.out .normal) ks r.1 r.2.2 r.2.1
def Uc (X:Fx E) (st:Stop) (ih:Nz E) (c:Mn) (p:bP) (ks:List KP) (s:LS) (sc:Sc E) (o:List cJ):CJ:=
 match c with
 | .skip=>ih (.out .normal) ks s sc o
 | .seq a b=>ih (.zn a (0::p) M) (.code (1::p) b::ks) s sc o
 | .region _ ops draw=>regK X ih ops.toList ops.size draw ks s sc o
 | .cond x a b=>(match dN s.ts x with
  | .lit (.bool t)=>aS t (ih (.zn a (0::p) M) ks s sc o) (ih (.zn b (1::p) M) ks s sc o)
  |_=>G)
 | .block id c=>ih (.zn c (0::p) M) (.block id::ks) s sc o
 | .loop c=>ih (.zn c (0::p) M) (.loop p c::ks) s sc o
 | .exit id=>ih (.out (.exit id)) ks s sc o
 | .ret=>ih (.out .ret) ks s sc o
 |_=>G
def agL (X:Fx E) (st:Stop) (ih:Nz E) (e:Ex) (ks:List KP) (s:LS) (sc:Sc E) (o:List cJ):CJ:=
 match ks with
 | []=>aS (TP e) (retG X st s sc o) G
 | .code p c::ks=>aS (tU e) (ih (.zn c p M) ks s sc o) (ih (.out e) ks s sc o)
 | .block id::ks=>ih (.out (leave id e)) ks s sc o
 | .loop p c::ks=>aS (tU e) (ih (.zn (.loop c) p M) ks s sc o) (ih (.out e) ks s sc o)
def aQF (ro:Bool) (p:bP) (w:LS) (q:LS×List cJ×Sc E):CJ:=aS ro G (ay (Nl q.1.bs w.bs) λbs=>V (.at p ⟨cvT w.ts q.1.ts,bs⟩,q.2.1))
def YR (X:Fx E) (st:Stop) (ih:Nz E) (m:Md) (ks:List KP) (s:LS) (sc:Sc E) (o:List cJ):CJ:=
 match m with
 | .zn c p kC=>aS kC (match aCs p st with
  |some w=>aQF (y9 X uv) p w (EP (y9 X) sc s o)
  |none=>Uc X st ih c p ks s sc o) (Uc X st ih c p ks s sc o)
 | .out e=>agL X st ih e ks s sc o
def runK (X:Fx E) (st:Stop) (n:Nat):Nz E:=Nat.rec (λ_ _ _ _ _=>G) (λ_ ih=>YR X st ih) n
def sJ (X:Fx E) (st:Stop) (p:bP) (s:LS) (sc:Sc E):CJ:=runK X st 100000 (.zn (sf X.code p) p B) (kG X.code p) s sc []
def KT (E:Env) (nt:Nat):List KP->Ex->MS->Ex->MS->Prop
 | [],e,m,e',m'=>e=e'/\m=m'
 | .code _ c::ks,e,m,e',m'=>if tU e=M then ∃e1 m1,gu E nt c m e1 m1/\KT E nt ks e1 m1 e' m' else KT E nt ks e m e' m'
 | .block id::ks,e,m,e',m'=>KT E nt ks (leave id e) m e' m'
 | .loop _ c::ks,e,m,e',m'=>if tU e=M then ∃e1 m1,gu E nt (.loop c) m e1 m1/\KT E nt ks e1 m1 e' m' else KT E nt ks e m e' m'
def KTC (E:Env) (nt:Nat) (c:Mn) (ks:List KP) (m:MS) (e':Ex) (m':MS):Prop:=∃e1 m1,gu E nt c m e1 m1/\KT E nt ks e1 m1 e' m'
def MdT (E:Env) (nt:Nat) (md:Md) (ks:List KP) (m:MS) (e':Ex) (m':MS):Prop:=
 match md with
 | .zn c _ _=>KTC E nt c ks m e' m'
 | .out e=>KT E nt ks e m e' m'
def Holds (X:Fx E) (Q:Ex->WS->Prop) (ks:List KP) (s:LS) (md:Md):Prop:=∀w,In s w->∃e' w',MdT E X.fn.ntmps md ks w.m e' w'.m/\Ext (y9 X) w w'/\Q e' w'
def Fin (X:Fx E) (y:AV) (gP:cZ) (e:Ex) (w:WS):Prop:=TP e=M/\(∃vs,AA E w.m.T w.m.H X.fn.results.toList=V vs/\VA w.F w.g (oneOf vs) y)/\Rel w.F w.g w.Y w.c ⟨[],gP⟩ noT w.m.H/\∀x,w.m.nx<=x->w.m.H x=G
def AtQ (X:Fx E) (p:bP) (s:LS) (Q:Ex->WS->Prop):Prop:=Holds X Q (kG X.code p) s (.zn (sf X.code p) p B)
def At (X:Fx E) (p:bP) (s:LS) (y:AV) (gP:cZ):Prop:=AtQ X p s (Fin X y gP)
def Holds.step {X:Fx E} {Q:Ex->WS->Prop} {ks MC:List KP} {md md':Md} (h:Holds X Q MC s md') (k:∀{m e m'},MdT E X.fn.ntmps md' MC m e m'->MdT E X.fn.ntmps md ks m e m'):Holds X Q ks s md:=λw hw=>
 let ⟨e,w',h1,h2,h3⟩:=h w hw
 ⟨e,w',k h1,h2,h3⟩
def Holds.lead {X:Fx E} {Q:Ex->WS->Prop} {ks MC:List KP} {md md':Md} (h:Holds X Q MC s' md') (k:∀w,In s w->∃w1,In s' w1/\Ext (y9 X) w w1/\∀{e m'},MdT E X.fn.ntmps md' MC w1.m e m'->MdT E X.fn.ntmps md ks w.m e m'):Holds X Q ks s md:=λw hw=>
 let ⟨w1,k1,k2,k3⟩:=k w hw
 let ⟨e,w',h1,h2,h3⟩:=h w1 k1
 ⟨e,w',k3 h1,k2.trans h2,h3⟩
def Holds.Rg {X:Fx E} {Q:Ex->WS->Prop} {ks:List KP} {md:Md} (h:Holds X Q ks s' md) (k:kJ (y9 X) s s') (BU:y9 X uv=M->s'=s):Holds X Q ks s md:=h.lead λw hw=>
 let ⟨w1,k1,k2,k3⟩:=hw.Rg k BU
 ⟨w1,k1,k2,λh=>k3 ▸ h⟩
def aal {e:Ex} (h:tU e=M):e= .normal:=by cases e<;>first|rfl|cases h
def KTC.seq {a b:Mn} {p:bP} {ks:List KP} {m m':MS} {e:Ex} (h:KTC E nt a (.code p b::ks) m e m'):KTC E nt (.seq a b) ks m e m':=by
 obtain ⟨e1,m1,h1,h2⟩:=h;unfold KT at h2;split at h2
 ·rename_i hn;obtain rfl:=aal hn;obtain ⟨e2,m2,h3,h4⟩:=h2;exact ⟨e2,m2,.seq h1 h3,h4⟩
 ·rename_i hn;exact ⟨e1,m1,.avU (by simpa using hn) h1,h2⟩
def KTC.loop {c:Mn} {p:bP} {ks:List KP} {m m':MS} {e:Ex} (h:KTC E nt c (.loop p c::ks) m e m'):KTC E nt (.loop c) ks m e m':=by
 obtain ⟨e1,m1,h1,h2⟩:=h;unfold KT at h2;split at h2
 ·rename_i hn;obtain rfl:=aal hn;obtain ⟨e2,m2,h3,h4⟩:=h2;exact ⟨e2,m2,.loop h1 h3,h4⟩
 ·rename_i hn;exact ⟨e1,m1,.aJd (by simpa using hn) h1,h2⟩
def KOK (X:Fx E):List KP->Prop
 | []=>True
 | .code p c::ks=>c=sf X.code p/\ks=kG X.code p/\KOK X ks
 | .loop p c::ks=>Code.loop c=sf X.code p/\ks=kG X.code p/\KOK X ks
 | .block _::ks=>KOK X ks
def MD (X:Fx E):∀p,KOK X (kG X.code p)
 | []=>trivial
 |i::p=>by
  have ih:=MD X p;unfold kG;split
  ·rename_i a b hc;split
   ·exact ⟨by simp[sf,hc,FH],by simp[kG,hc],ih⟩
   ·exact ih
  ·exact ih
  ·rename_i b hc;exact ⟨hc.symm,rfl,ih⟩
  ·exact ih
def uj (X:Fx E) (ks:List KP):Md->Prop
 | .zn c p _=>c=sf X.code p/\ks=kG X.code p
 | .out _=>True
def acf (X:Fx E) (Q:Ex->WS->Prop):Stop->Prop
 | .at p s=>AtQ X p s Q
 | .ret y bs=>∀e w,Fin X y bs e w->Q e w
def asU (X:Fx E) (Q:Ex->WS->Prop) (ih:Nz E):Prop:=
 ∀m ks s sc o r,ih m ks s sc o=V r->jA r.2->KOK X ks->uj X ks m->acf X Q r.1->jA o/\Holds X Q ks s m
def aIM {F:Hf} {g:Gb} {Y:Nat->Ow} {c:Nat->cB} {T:Tf} {H:Hf} (r:Rel F g Y c s T H) {x:ab0} (hu:Rj E s x≠ .undef):∃v,Tb E T H x=V v/\VA F g v (Rj E s x):=by
 cases x with
 |tmp t=>
  have hu:(lk t s.ts).getD .undef≠ .undef:=hu;show ∃v,T t=V v/\VA F g v ((lk t s.ts).getD .undef);cases h:lk t s.ts with
  |none=>rw[h] at hu;exact absurd rfl hu
  |some x=>rw[h] at hu;exact r.tm t x h hu
 |cell t ty=>
  have hu:(cj (lk t s.ts) (E.ty.get ty) λa i=>JY i s.bs a).getD .undef≠ .undef:=hu
  show ∃v,ay (T t) (rR E H ty)=V v/\VA F g v ((cj (lk t s.ts) (E.ty.get ty) λa i=>JY i s.bs a).getD .undef)
  cases h:cj (lk t s.ts) (E.ty.get ty) λa i=>JY i s.bs a with
  |none=>rw[h] at hu;exact absurd rfl hu
  |some x=>
   obtain ⟨a,i,h1,h2,h3⟩:=bT h;obtain ⟨v,v1,v2⟩:=r.tm t a h1 (λe=>by subst e;cases h3)
   obtain ⟨u,u1,u2⟩:=anH (E:=E) (t:=ty) h2 h3 r v2;refine ⟨u,?_,u2⟩;rw[v1];show rR E H ty v=_;cases hl:rR E H ty v with
   |none=>rw[hl] at u1;cases u1
   |some z=>rw[hl] at u1;cases u1;rfl
def amQ {F:Hf} {g:Gb} {Y:Nat->Ow} {c:Nat->cB} {T:Tf} {H:Hf} (r:Rel F g Y c s T H):∀{l:List ab0},rD (l.map (Rj E s))=M->∃vs,AA E T H l=V vs/\dK F g vs (l.map (Rj E s))
 | [],_=>⟨[],rfl,.nil⟩
 |x::l,h=>by
  have h:aS (tj (Rj E s x)) B (rD (l.map (Rj E s)))=M:=h;rw[cI] at h;split at h
  ·cases h
  ·rename_i hx;obtain ⟨v,v1,v2⟩:=aIM (E:=E) r (J1 (by simpa using hx))
   obtain ⟨vs,w1,w2⟩:=amQ r h;exact ⟨v::vs,by show cj _ _ _=_;rw[v1,w1];rfl,.cons v2 w2⟩
def aIL {X:Fx E} {Q:Ex->WS->Prop} {st:Stop} {sc:Sc E} {r:Stop×List cJ} {e:Ex} (he:TP e=M) (h:retG X st s sc o=V r) (ho:jA r.2) (hp:acf X Q r.1):jA o/\Holds X Q [] s (.out e):=by
 have h:aAT X st (EP (y9 X) sc s o).1 (EP (y9 X) sc s o).2.1=V r:=h;unfold aAT at h;split at h
 ·rename_i y bs _;obtain ⟨gP,h1,h⟩:=aq h;obtain ⟨h2,h⟩:=aZ h;cases h;obtain ⟨k1,k2,k3⟩:=M4 sc s o ho;refine ⟨k1,Holds.Rg (λw hw=>⟨e,w,⟨rfl,rfl⟩,.refl w,hp e w ⟨he,?_,?_,hw.bd⟩⟩) k2 k3⟩
  ·obtain ⟨vs,v1,v2⟩:=amQ (E:=E) hw.r h2;refine ⟨vs,v1,Gd ?_⟩;generalize X.fn.results.toList.map _=ys at v2;cases v2 with
   |nil=>exact .dq .nil
   |cons a b=>cases b with
    |nil=>exact a
    |cons b c=>exact .dq (.cons a (.cons b c))
  ·have:=hw.r.cv (w:=⟨[],bs⟩) h1;exact {this with tm:=λt x hx=>(by cases hx)}
 ·cases h
def aat {X:Fx E} {Q:Ex->WS->Prop} {st:Stop} {ih:Nz E} {c:Mn} {p:bP} {ks:List KP} {sc:Sc E} {r:Stop×List cJ} {kC:Bool} (EI:asU X Q ih) (h:Uc X st ih c p ks s sc o=V r) (ho:jA r.2) (hk:KOK X ks) (h1:c=sf X.code p) (h2:ks=kG X.code p) (hp:acf X Q r.1):jA o/\Holds X Q ks s (.zn c p kC):=by
 unfold Uc at h;split at h
 ·obtain ⟨q1,q2⟩:=EI _ _ _ _ _ _ h ho hk trivial hp;exact ⟨q1,q2.step λh=>⟨_,_,.skip,h⟩⟩
 ·rename_i a b;obtain ⟨q1,q2⟩:=EI _ _ _ _ _ _ h ho ⟨by simp[sf,<-h1,FH],by simp[kG,<-h1,h2],hk⟩ ⟨by simp[sf,<-h1,FH],by simp[kG,<-h1,h2]⟩ hp
  exact ⟨q1,q2.step λh=>KTC.seq h⟩
 ·rename_i id ops draw;obtain ⟨q,h3,h⟩:=aq h;obtain ⟨q1,q2⟩:=EI _ _ _ _ _ _ h ho hk trivial hp;rw[cI] at h3;split at h3
  ·rename_i hd;subst hd;obtain ⟨q3,q4⟩:=aCN (id:=id) h3 q1;exact ⟨q3,q2.lead λw hw=>let ⟨w1,a,b,c⟩:=q4 w hw;⟨w1,b,c,λh=>⟨_,_,a,h⟩⟩⟩
  ·rename_i hd;obtain rfl:draw=B:=by simpa using hd
   obtain ⟨q3,q4⟩:=aaf (i:=0) (ops:=ops) (by simp) (ru _) h3 q1
   exact ⟨q3,q2.lead λw hw=>let ⟨w1,a,b,c⟩:=q4 w hw;⟨w1,b,c,λh=>⟨_,_,.region a,h⟩⟩⟩
 ·rename_i x a b;split at h
  ·rename_i t hv;have hc:∀w,In s w->dt w.m.T x=V (.bool t):=λw hw=>by
    obtain ⟨v,v1,v2⟩:=hw.r.val hv (by simp)
    cases v2;exact v1
   rw[cI] at h;split at h
   ·rename_i ht;subst ht;obtain ⟨q1,q2⟩:=EI _ _ _ _ _ _ h ho hk ⟨by simp[sf,<-h1,FH],by simp[kG,<-h1,h2]⟩ hp
    exact ⟨q1,q2.lead λw hw=>⟨w,hw,.refl w,λ⟨e1,m1,k1,k2⟩=>⟨e1,m1,.cond (b:=M) (hc w hw) k1,k2⟩⟩⟩
   ·rename_i ht;obtain rfl:t=B:=by simpa using ht
    obtain ⟨q1,q2⟩:=EI _ _ _ _ _ _ h ho hk ⟨by simp[sf,<-h1,FH],by simp[kG,<-h1,h2]⟩ hp
    exact ⟨q1,q2.lead λw hw=>⟨w,hw,.refl w,λ⟨e1,m1,k1,k2⟩=>⟨e1,m1,.cond (b:=B) (hc w hw) k1,k2⟩⟩⟩
  ·cases h
 ·rename_i id c;obtain ⟨q1,q2⟩:=EI _ _ _ _ _ _ h ho hk ⟨by simp[sf,<-h1,FH],by simp[kG,<-h1,h2]⟩ hp
  exact ⟨q1,q2.step λ⟨e1,m1,k1,k2⟩=>⟨_,m1,.block k1,k2⟩⟩
 ·rename_i c;obtain ⟨q1,q2⟩:=EI _ _ _ _ _ _ h ho ⟨h1,h2,hk⟩ ⟨by simp[sf,<-h1,FH],by simp[kG,<-h1,h2]⟩ hp
  exact ⟨q1,q2.step λh=>KTC.loop h⟩
 ·obtain ⟨q1,q2⟩:=EI _ _ _ _ _ _ h ho hk trivial hp;exact ⟨q1,q2.step λh=>⟨_,_,.exit,h⟩⟩
 ·obtain ⟨q1,q2⟩:=EI _ _ _ _ _ _ h ho hk trivial hp;exact ⟨q1,q2.step λh=>⟨_,_,.ret,h⟩⟩
 ·cases h
def axb {X:Fx E} {Q:Ex->WS->Prop} {st:Stop} {ih:Nz E} {e:Ex} {ks:List KP} {sc:Sc E} {r:Stop×List cJ} (EI:asU X Q ih) (h:agL X st ih e ks s sc o=V r) (ho:jA r.2) (hk:KOK X ks) (hp:acf X Q r.1):jA o/\Holds X Q ks s (.out e):=by
 unfold agL at h;split at h
 ·obtain ⟨he,h⟩:=aZ h;exact aIL he h ho hp
 ·rename_i p c ks;obtain ⟨k1,k2,k3⟩:=hk;rw[cI] at h;split at h
  ·rename_i he;obtain ⟨q1,q2⟩:=EI _ _ _ _ _ _ h ho k3 ⟨k1,k2⟩ hp;exact ⟨q1,q2.step λh=>by show KT E _ (.code p c::ks) e _ _ _;unfold KT;rw[aF he];exact h⟩
  ·rename_i he;obtain ⟨q1,q2⟩:=EI _ _ _ _ _ _ h ho k3 trivial hp;exact ⟨q1,q2.step λh=>by show KT E _ (.code p c::ks) e _ _ _;unfold KT;rw[aC he];exact h⟩
 ·rename_i id ks;obtain ⟨q1,q2⟩:=EI _ _ _ _ _ _ h ho hk trivial hp;exact ⟨q1,q2.step λh=>h⟩
 ·rename_i p c ks;obtain ⟨k1,k2,k3⟩:=hk;rw[cI] at h;split at h
  ·rename_i he;obtain ⟨q1,q2⟩:=EI _ _ _ _ _ _ h ho k3 ⟨k1,k2⟩ hp;exact ⟨q1,q2.step λh=>by show KT E _ (.loop p c::ks) e _ _ _;unfold KT;rw[aF he];exact h⟩
  ·rename_i he;obtain ⟨q1,q2⟩:=EI _ _ _ _ _ _ h ho k3 trivial hp;exact ⟨q1,q2.step λh=>by show KT E _ (.loop p c::ks) e _ _ _;unfold KT;rw[aC he];exact h⟩
def YS (X:Fx E) (st:Stop) (Q:Ex->WS->Prop):∀n,asU X Q (runK X st n)
 |0=>λm ks s sc o r h=>by
  have h:G=V r:=h;cases h
 |n+1=>λm ks s sc o r h ho hk hm hp=>by
  have ih:=YS X st Q n;have h:YR X st (runK X st n) m ks s sc o=V r:=h;cases m with
  |out e=>exact axb ih h ho hk hp
  |zn c p kC=>
   obtain ⟨m1,m2⟩:=hm;unfold YR at h;dsimp only at h;rw[cI] at h;split at h
   ·split at h
    ·rename_i l hl;have h:aS (y9 X uv) G (ay (Nl (EP (y9 X) sc s o).1.bs l.bs) λbs=>V (Stop.at p ⟨cvT l.ts (EP (y9 X) sc s o).1.ts,bs⟩,(EP (y9 X) sc s o).2.1))=V r:=h
     rw[cI] at h;split at h
     ·cases h
     rename_i hr;obtain ⟨bs,h1,h⟩:=aq h;cases h;obtain ⟨k1,k2,_⟩:=M4 sc s o ho;subst m1;subst m2;exact ⟨k1,Holds.Rg hp (k2.trans (kJ.cv h1)) λh=>absurd h hr⟩
    ·exact aat ih h ho hk m1 m2 hp
   ·exact aat ih h ho hk m1 m2 hp
abbrev Shw:=A (Stop×List Prop)
def JH (r:CJ):Shw:= @Option.rec (Stop×List cJ) (λ_=>Shw) G (λq=>V (q.1,q.2.map cJ.need)) r
def JI (st:Stop) (r:CJ):Shw:= @Option.rec (Stop×List cJ) (λ_=>Shw) (V (st,[])) (λq=>V (st,q.2.map cJ.got)) r
def aoq:∀{l:List cJ},l.map cJ.need=l.map cJ.got->jA l
 | [],_=>trivial
 |q::l,h=>by
  rw[ki,ki,List.cons.injEq] at h;exact ⟨h.1 ▸ q.pf,aoq h.2⟩
def avW {st:Stop} {r:CJ} (h:JH r=JI st r):∃o,r=V (st,o)/\jA o:=by
 cases r with
 |none=>cases h
 |some q=>
  have h:V (q.1,q.2.map cJ.need)=V (st,q.2.map cJ.got):=h;rw[WX,Prod.mk.injEq] at h;exact ⟨q.2,by rw[<-h.1],aoq h.2⟩
def afR {X:Fx E} {p p':bP} {s s':LS} {sc:Sc E} {y:AV} {gP:cZ} (h:JH (sJ X (.at p' s') p s sc)=JI (.at p' s') (sJ X (.at p' s') p s sc)) (k:At X p' s' y gP):At X p s y gP:=by
 obtain ⟨o,h1,h2⟩:=avW h;exact (YS X _ _ _ _ _ _ _ _ _ h1 h2 (MD X p) ⟨rfl,rfl⟩ k).2
def amP {X:Fx E} {p:bP} {s:LS} {sc:Sc E} {y:AV} {gP:cZ} (h:JH (sJ X (.ret y gP) p s sc)=JI (.ret y gP) (sJ X (.ret y gP) p s sc)):At X p s y gP:=by
 obtain ⟨o,h1,h2⟩:=avW h;exact (YS X _ _ _ _ _ _ _ _ _ h1 h2 (MD X p) ⟨rfl,rfl⟩ λe w h=>h).2
end
section
section
variable {F F':Hf} {g g':Gb} {s s' s1:LS} {E:Env} {nt:Nat}
def Gs:Nat->bc->fq
 |_,[]=> []
 |i,x::l=>(i,x)::Gs (i+1) l
def ahZ:∀{xs:bc} {aa:bf},dK F g aa xs->∀{i t:Nat} {x:AV},lk t (Gs i xs)=V x->∃v,i<=t/\t<i+aa.length/\aa[t-i]? =V v/\VA F g v x
 | [],_,_,i,t,x,h=>by cases h
 |y::l,_,.cons (vs:=vs) hv q,i,j,x,h=>by
  rw[show Gs i (y::l)=(i,y)::Gs (i+1) l from rfl,dD] at h;split at h
  ·rename_i e;cases h;subst e;exact ⟨_,cS _,by simp,by simp,hv⟩
  ·obtain ⟨v,a1,a2,a3,a4⟩:=ahZ q h;refine ⟨v,by omega,by rw[iU];omega,?_,a4⟩
   rw[show j-i=(j-(i+1))+1 by omega,uo]
   exact a3
def ayK {e:Ex} (h:TP e=M):aGH e=V G:=by cases e<;>first|rfl|cases h
def Kz [K7 E] {X:Fx E} {f:Nat} {s:LS} {y:AV} {gP:cZ} (h1:E.fn.get f=V X.fn) (h2:X.fn.body=V X.code) (h3:MH X.fn.name=B) (hn:kN xs.length X.fn.ntmps=M) (hp:xq s.bs=X.Mm) (hs:(⟨Gs 0 xs,s.bs⟩:LS)=s) (h:At X [] s y gP):kX X.ro E f s.bs xs y gP:=.mk λ{F g Y c H nx aa} r nO has=>by
 have r0:Rel F g Y c s (setArgs aa 0 .nil).get H:={r with tm:=λt x hx cR=>(by
  rw[<-hs] at hx;obtain ⟨v,a1,a2,a3,a4⟩:=ahZ has hx;exact ⟨v,by rw[GR,aF ⟨a1,a2⟩];exact a3,a4⟩)}
 obtain ⟨e,w',k1,k2,k3,⟨vs,k4,k5⟩,k6,k7⟩:=h ⟨F,g,Y,c,⟨(setArgs aa 0 .nil).get,H,nx⟩⟩ ⟨r0,nO⟩;obtain ⟨e1,m1,k8,rfl,rfl⟩:=k1;rw[hp];refine ⟨w'.F,w'.g,w'.Y,w'.c,oneOf vs,w'.m.H,w'.m.nx,?_,k2.nx,k7,k2.F,λk hk=>k2.g k ?_,k5,k6,k2.old,λhr=>k2.ro (by show aS (iX uv uv) X.ro (pnL X.Mm uv)=M;rw[show iX uv uv=M from (beq_iff _ _).2 rfl];exact hr)⟩
 rotate_left
 ·show aS (iX k uv) X.ro (pnL X.Mm k)=M;rw[cI];split
  ·rename_i e;rw[(beq_iff _ _).1 e] at hk;have:oc uv=B/\evK uv=B:=⟨rfl,rfl⟩;unfold pnL at hk;rw[this.1,this.2] at hk;cases hk
  ·exact hk
 exact gu.sem (fi:= []) (aa:=aa) (ca:= []) h1 h2 h3 (by rw[j0,rG,has.length];exact (bN _ _).1 hn) (ayK k3) (by rw[j0,rG];exact k8) k4
end
def iA.aGK {E:Env} {f:Nat} {gP:cZ} {xs':bc} {y:AV} (h:kX ro E f bs xs y gP) (e:xs=xs'):kX ro E f bs xs' y gP:=e ▸ h
def arX {E:Env} {ro':Bool} (e:ro=ro') {f:Nat} {gP:cZ} {y:AV} (h:kX ro E f bs xs y gP):kX ro' E f bs xs y gP:=e ▸ h
variable {E:Env} {X:Fx E} {p p':bP} {s s':LS} {y:AV} {gP:cZ} {J g7 R:Type}
def ra (k:At X p' s' y gP) (sc:Sc E) (h:JH (sJ X (.at p' s') p s sc)=JI (.at p' s') (sJ X (.at p' s') p s sc):=by kernel_rfl):At X p s y gP:=afR h k
def rr {f:J->AV} {g:J->cZ} {v r:J} (h:V v=V r) (sc:Sc E) (e:JH (sJ X (.ret (f v) (g v)) p s sc)=JI (.ret (f v) (g v)) (sJ X (.ret (f v) (g v)) p s sc):=by kernel_rfl):At X p s (f r) (g r):=by
 cases h;exact amP e
def cC (k:At X p' s' y gP) (a b:Sc E) (h:JH (sJ X (.at p' s') p s (a++b))=JI (.at p' s') (sJ X (.at p' s') p s (a++b)):=by kernel_rfl):At X p s y gP:=afR h k
def bu {f:J->AV} {g:J->cZ} {v r:J} (h:V v=V r) (a b:Sc E) (e:JH (sJ X (.ret (f v) (g v)) p s (a++b))=JI (.ret (f v) (g v)) (sJ X (.ret (f v) (g v)) p s (a++b)):=by kernel_rfl):At X p s (f r) (g r):=rr h (a++b) e
def be {x:A g7} {f:g7->A J} {r:J} (h:x.bind f=V r) (k:∀y,x=V y->f y=V r->ge):ge:=by
 cases x with
 |none=>simp at h
 |some y=>exact k y rfl h
def ie {b:Bool} {x y:A J} {r:J} (h:(if b=M then x else y)=V r) (k1:b=M->x=V r->ge) (k2:b=B->y=V r->ge):ge:=by
 cases b with
 |true=>exact k1 rfl (by simpa using h)
 |false=>exact k2 rfl (by simpa using h)
def nz {r:J} (h:G=V r):ge:=by cases h
def fx (E:Env) (fn:Func) (Mm:bP):Fx E:=⟨fn,fn.body.getD .skip,Mm,B⟩
def fxR (E:Env) (fn:Func) (Mm:bP):Fx E:=⟨fn,fn.body.getD .skip,Mm,M⟩
def Cx (E:Env) (k:Nat) (f:R->AV) (g:R->cZ) (s:LS) (r:R):Prop:=iA E k s.bs (s.ts.map (·.2)) (f r) (g r)
def ca [K7 E] {k:Nat} {r:R} {f:R->AV} {g:R->cZ} (h:At X [] s (f r) (g r)) (h1:E.fn.get k=V X.fn:=by kernel_rfl) (h2:X.fn.body=V X.code:=by kernel_rfl) (h3:MH X.fn.name=B:=by kernel_rfl)
  (h9:kN (s.ts.map (·.2)).length X.fn.ntmps=M:=by kernel_rfl) (h10:xq s.bs=X.Mm:=by kernel_rfl) (h11:(⟨Gs 0 (s.ts.map (·.2)),s.bs⟩:LS)=s:=by kernel_rfl) (h0:X.ro=B:=by kernel_rfl):Cx E k f g s r:=
 arX h0 (Kz h1 h2 h3 h9 h10 h11 h)
def wI (sk:bP) (bs:cZ):cZ:=sk.map λk=>(k,(lk k bs).getD (.map []))
def CxSR (E:Env) (k:Nat) (sk:bP) (f:R->AV) (g:R->cZ) (s:LS) (r:R):Prop:=kX M E k s.bs (s.ts.map (·.2)) (f r) (g r++wI sk s.bs)
def caSR [K7 E] {k:Nat} {r:R} {f:R->AV} {g:R->cZ} (h:At X [] s (f r) (g r++wI sk s.bs)) (h1:E.fn.get k=V X.fn:=by kernel_rfl) (h2:X.fn.body=V X.code:=by kernel_rfl) (h3:MH X.fn.name=B:=by kernel_rfl) (h9:kN (s.ts.map (·.2)).length X.fn.ntmps=M:=by kernel_rfl) (h10:xq s.bs=X.Mm:=by kernel_rfl) (h11:(⟨Gs 0 (s.ts.map (·.2)),s.bs⟩:LS)=s:=by kernel_rfl) (h0:X.ro=M:=by kernel_rfl):CxSR E k sk f g s r:=
 arX h0 (Kz h1 h2 h3 h9 h10 h11 h)
def auS {J:Type} (s:List J):A (J×List J):=match s with| []=>G|x::l=>V (x,l)
def auR {J:Type} {s:List J} {y:J×List J} (h:auS s=V y):s=y.1::y.2:=by
 cases s with
 |nil=>cases h
 |cons x l=>cases h;rfl
def aSu (k:Nat):AV:=match k with|0=>.vf|n+1=>.fn (n+1) [] []
def Ax (X:Fx E) (f:R->AV) (g:R->cZ) (p:bP) (s:LS) (r:R):Prop:=At X p s (f r) (g r)
class dw (κ:Type) where z:κ
instance {R:Type}:dw (A R):=⟨G⟩
instance {T κ:Type} [dw κ]:dw (T->κ):=⟨λ_=>dw.z⟩
class KC (σ κ R:Type) [dw κ] where
 K:(LS->R->Prop)->σ->κ->Prop
 h:∀{f9 s},K f9 s dw.z
instance {R:Type}:KC LS (A R) R:=⟨λf9 s k=>∀ ⦃r⦄,k=V r->f9 s r,λh=>nz h⟩
instance {T σ κ R:Type} [dw κ] [KC σ κ R]:KC (T->σ) (T->κ) R:=⟨λf9 s k=>∀ ⦃a⦄,KC.K f9 (s a) (k a),KC.h⟩
abbrev KK {σ κ R:Type} [dw κ] [KC σ κ R]:(LS->R->Prop)->σ->κ->Prop:=KC.K
def Lu {f:J->AV} {g:J->cZ} {v r:J} (h:V v=V r) (sc:Sc E) (e:JH (sJ X (.ret (f v) (g v++wI sk s.bs)) p s sc)=JI (.ret (f v) (g v++wI sk s.bs)) (sJ X (.ret (f v) (g v++wI sk s.bs)) p s sc):=by kernel_rfl):At X p s (f r) (g r++wI sk s.bs):=by
 cases h;exact amP e
def AxS (X:Fx E) (sk:bP) (f:R->AV) (g:R->cZ) (p:bP) (s:LS) (r:R):Prop:=At X p s (f r) (g r++wI sk s.bs)
def CxS (E:Env) (k:Nat) (sk:bP) (f:R->AV) (g:R->cZ) (s:LS) (r:R):Prop:=iA E k s.bs (s.ts.map (·.2)) (f r) (g r++wI sk s.bs)
def caS [K7 E] {k:Nat} {r:R} {f:R->AV} {g:R->cZ} (h:At X [] s (f r) (g r++wI sk s.bs)) (h1:E.fn.get k=V X.fn:=by kernel_rfl) (h2:X.fn.body=V X.code:=by kernel_rfl) (h3:MH X.fn.name=B:=by kernel_rfl) (h9:kN (s.ts.map (·.2)).length X.fn.ntmps=M:=by kernel_rfl) (h10:xq s.bs=X.Mm:=by kernel_rfl) (h11:(⟨Gs 0 (s.ts.map (·.2)),s.bs⟩:LS)=s:=by kernel_rfl) (h0:X.ro=B:=by kernel_rfl):CxS E k sk f g s r:=
 arX h0 (Kz h1 h2 h3 h9 h10 h11 h)
def HV {g:cZ} (k:At X p' s' y (g++wI sk s'.bs)) (hs:wI sk s'.bs=wI sk s.bs) (sc:Sc E) (h:JH (sJ X (.at p' s') p s sc)=JI (.at p' s') (sJ X (.at p' s') p s sc):=by kernel_rfl):At X p s y (g++wI sk s.bs):=afR h (hs ▸ k)
end
section
def idx {J:Type} (xs:List J) (i:Int):A J:=if 0<=i then xs[i.toNat]? else G
def app {J:Type} (xs ys:List J):A (List J):=if xs.length<=1000000/\ys.length<=1000000 then V (xs++ys) else G
def KG {J:Type} (xs:List J) (n:Nat) (ys:List J):A (List J):=if n<=xs.length/\n<=1000000/\ys.length<=1000000 then V (xs.take n++ys) else G
def cut {J:Type} (xs:List J) (lo hi:A Int):A (List J):=
 if 0<=lo.getD 0/\0<=hi.getD 0/\(lo.getD 0).toNat<=(hi.map Int.toNat).getD xs.length/\(hi.map Int.toNat).getD xs.length<=xs.length then
  V ((xs.take ((hi.map Int.toNat).getD xs.length)).drop (lo.getD 0).toNat) else G
def cat (a b:Z):A Z:=if a.size+b.size<=1000000 then V (a++b) else G
def G3 (s:Z) (i:Int):A UInt8:=if 0<=i then s.data.toList[i.toNat]? else G
def rem (a b:Int):A Int:=if b=0 then G else V (a.tmod b)
def eh (n:Nat) (i:Int):cB:=if 0<=i/\i.toNat<n then V i.toNat else G
def setAt {J:Type} (xs:List J) (i:Nat) (x:J):A (List J):=if i<xs.length then V (xs.set i x) else G
def rh {J:Type} (n:Int) (x:J):A (List J):=if 0<=n/\n<=1000000 then V (P' n.toNat x) else G
abbrev aV (x:Int):Int:=IntKind.i64.wrap x
structure RowsK {J:Type} (enc:J->bc) (rows:List J->bz):Prop where
 map:∀xs,rows xs=xs.map enc
section
variable {J:Type} {enc:J->bc} {rows:List J->bz} {E:Env}
def RowsK.len (R:RowsK enc rows) (xs:List J):(rows xs).length=xs.length:=by rw[R.map,my]
def RowsK.get (R:RowsK enc rows) {xs:List J} {x:J} (h:xs[j]? =V x):(rows xs)[j]? =V (enc x):=by rw[R.map,oe,h];rfl
def RowsK.idx' (R:RowsK enc rows) {xs:List J} {n:Int} {x:J} (h:idx xs n=V x):B4 (rows xs) n=V (enc x):=by
 unfold Go.bL.idx at h;unfold B4;split at h
 ·rename_i h0;rw[aF h0];exact R.get h
 ·cases h
def RowsK.idx (R:RowsK enc rows) {xs:List J} {n:Int} {x:J} (h:idx xs n=V x):It E:=.op (R.idx' h) (.row (enc x) [])
def RowsK.row (R:RowsK enc rows) {xs:List J} {j:Nat} {x:J} (h:xs[j]? =V x):It E:=.op (R.get h) (.row (enc x) [])
def aDc {i:Int} {k:Nat} (h:eh n i=V k):i=(k:Int)/\k<n:=by
 unfold eh at h;split at h
 ·rename_i h0;cases h;exact ⟨by omega,h0.2⟩
 ·cases h
def de {n:Nat} {i:Int} {k:Nat} (h:eh n i=V k):It E:=.op (aDc h) (.nat k)
def C4 {xs zs:List J} {y:J} (h:setAt xs i y=V zs):zs=xs.set i y/\i<xs.length:=by
 unfold setAt at h;split at h
 ·cases h;exact ⟨rfl,by assumption⟩
 ·cases h
def mH {xs zs:List J} {y:J} (h:setAt xs i y=V zs):zs.length=xs.length:=by rw[(C4 h).1,kp]
def uh {xs ys zs:List J} (h:app xs ys=V zs):xs.length<=1000000/\ys.length<=1000000/\zs=xs++ys:=by
 unfold app at h;split at h
 ·rename_i h0;cases h;exact ⟨h0.1,h0.2,rfl⟩
 ·cases h
def RowsK.appP (R:RowsK enc rows) {xs ys zs:List J} (h:Go.bL.app xs ys=V zs):Lj M (rows xs) xs.length (rows zs) zs.length (rows ys):=
 ⟨λ_=>(R.len xs).symm,by rw[R.len];exact cS _,(uh h).1,by rw[R.len];exact (uh h).2.1,by rw[<-R.len xs,nF,(uh h).2.2,R.map,R.map,R.map,kh],R.len zs⟩
def RowsK.app (R:RowsK enc rows) {xs ys zs:List J} (h:Go.bL.app xs ys=V zs):It E:=.op (R.appP h) (.app M (rows ys) (rows zs) zs.length)
def RowsK.jU (R:RowsK enc rows) {xs ys zs:List J} (h:Go.bL.app xs ys=V zs):It E:=
 .op (P:=Lj M (rows xs) xs.length (rows zs) zs.length (rows ys)/\((rows ys).drop 0).take ys.length=rows ys/\0+ys.length<=(rows ys).length) ⟨R.appP h,by rw[pF,<-R.len,nF],by rw[R.len];omega⟩ (.app M (rows ys) (rows zs) zs.length)
def RowsK.eB (R:RowsK enc rows) (K:Nat) (xs:List J):It E:=.gh ⟨R.len xs,.eB K 0 xs.length⟩
end
abbrev eb {E:Env} {a b:Bool} (h:a=b):It E:=.op (bH AV.bool h) (.eqv (.bool b))
def cb {E:Env} {f:Nat} {gP:cZ} {a b:Bool} (h:iA E f bs xs (.bool a) gP) (e:a=b):iA E f bs xs (.bool b) gP:=e ▸ h
def Ky {a b c:Z} (h:cat a b=V c):a.size+b.size<=1000000/\a++b=c:=by
 unfold cat at h;split at h
 ·rename_i h0;cases h;exact ⟨h0,rfl⟩
 ·cases h
def aga {a b c:Int} (h:rem a b=V c):b≠0/\a.tmod b=c:=by
 unfold rem at h;split at h
 ·cases h
 ·rename_i h0;cases h;exact ⟨h0,rfl⟩
section
variable {E:Env}
def It.nz {y:Int} (h:y≠0):It E:=.op h (.val 0)
def It.cat {x y:Z} (h:x.size+y.size<=1000000):It E:=.op h (.val 0)
def aBA {s:Z} {i:Int} {c:UInt8} (h:G3 s i=V c):(B4 s.data.toList i).map UInt8.toNat=V c.toNat:=by
 have h:B4 s.data.toList i=V c:=h;rw[h];rfl
def It.chr {s:Z} {i:Int} {c:UInt8} (h:G3 s i=V c):It E:=.op (aBA h) (.val c.toNat)
def It.eqv {x y:AV} (h:x=y):It E:=.op h (.eqv y)
def It.laid {b b':Bx} (h:b=b'):It E:=.op (bH V h) (.laid b')
def It.ja (K K':Nat):It E:=.gh ⟨trivial,.ja K K'⟩
def It.born (ts:bP) (cs:List (Nat×Nat)) (K:Nat) (z:Bool) (e sz:Nat):It E:=.gh ⟨trivial,.born ts cs K z e sz⟩
def It.seq (t:Nat) {x y:AV} (h:x=y):It E:=.gh ⟨h,.gx t y⟩
def It.beq (K:Nat) {x y:Bx} (h:x=y):It E:=.gh ⟨h,.bis K y⟩
def It.qc (t:Nat) (w:AV):It E:=.gh ⟨trivial,.qc t w⟩
def It.nQ (K:Nat) (w:Bx):It E:=.gh ⟨trivial,.nQ K w⟩
def int_eq {k:IntKind} {a b:Int} (h:(a==b)=M):AV.int k a=AV.int k b:=by rw[eq_of_beq h]
def en {k:IntKind} {a b:Int} (h:(a==b)=M):It E:=It.eqv (int_eq (k:=k) h)
end
end
section
def nilAt {J:Type} (xs:List (List J)) (j:Nat):A Unit:=match xs[j]? with|some []=>V ()|_=>G
def iP (a b:Nat):A Unit:=if a=b then V () else G
def pq {a b:Nat} {u:Unit} (h:iP a b=V u):a=b:=by
 unfold iP at h;split at h
 ·assumption
 ·cases h
def so (n:Nat) (hi:Int):cB:=if 0<=hi/\hi.toNat<=n then V hi.toNat else G
def EY (n:Nat) (lo:Int):cB:=if 0<=lo/\lo.toNat<=n then V lo.toNat else G
def tM (h:so n hi=V u):hi=(u:Int)/\u<=n:=by
 unfold so at h;split at h
 ·rename_i h0;cases h;exact ⟨by omega,h0.2⟩
 ·cases h
def Nn (h:EY n lo=V u):lo=(u:Int)/\u<=n:=by
 unfold EY at h;split at h
 ·rename_i h0;cases h;exact ⟨by omega,h0.2⟩
 ·cases h
def aJx {m:Nat} (h:EY n lo=V u) (le:n<=m):0+u+(n-u)<=m:=by
 have:=(Nn h).2;omega
def yp {J:Type} {xs:List J} (h:u<=xs.length):(xs.take u).length=u:=by rw[dE];omega
def aCT {J:Type} {xs zs:List J} {lo hi:A Int} (h:cut xs lo hi=V zs):∃l u:Nat,ajC (lo.getD 0) (hi.getD (xs.length:Nat)) xs.length l u/\zs=(xs.drop l).take (u-l):=by
 unfold cut at h;split at h
 ·rename_i h0;cases h;obtain ⟨a,b,c,d⟩:=h0;refine ⟨(lo.getD 0).toNat,(hi.map Int.toNat).getD xs.length,⟨by omega,?_,c,d⟩,by rw[wx]⟩
  cases hi with
  |none=>rfl
  |some v=>have:0<=v:=b;show v=((v.toNat:Nat):Int);omega
 ·cases h
def Gt {J:Type} {xs ys zs:List J} (h:KG xs n ys=V zs):n<=xs.length/\n<=1000000/\ys.length<=1000000/\zs=xs.take n++ys:=by
 unfold KG at h;split at h
 ·rename_i h0;cases h;exact ⟨h0.1,h0.2.1,h0.2.2,rfl⟩
 ·cases h
def vK {J:Type} {n:Int} {x:J} {zs:List J} (h:rh n x=V zs):n=(n.toNat:Int)/\n.toNat<=1000000/\zs=P' n.toNat x:=by
 unfold rh at h;split at h
 ·rename_i h0;cases h;exact ⟨by omega,by omega,rfl⟩
 ·cases h
def JK {J:Type} {n:Int} {x:J} {zs:List J} (h:rh n x=V zs):n.toNat=zs.length:=by rw[(vK h).2.2,uN]
section
variable {J:Type} {enc:J->bc} {rows:List J->bz} {E:Env}
def RowsK.take (R:RowsK enc rows) (xs:List J) (u:Nat):(rows xs).take u=rows (xs.take u):=by rw[R.map,R.map,vD]
def RowsK.isE (R:RowsK enc rows) (xs:List J):(rows xs).isEmpty=xs.isEmpty:=by rw[R.map];cases xs<;>rfl
def RowsK.nilB (R:RowsK enc rows) (xs:List J):AV.bool (rows xs).isEmpty= .bool xs.isEmpty:=by rw[R.isE]
def D5 {f:Nat} (h:j<Q.length):GQ (Q.set j r) j f xs=V (Q.set j (ic r f xs)):=by
 unfold GQ;rw[j3 h];show V _=_;rw[uM]
def RowsK.aAH (R:RowsK enc rows) {xs:List J} {x:J} {f:Nat} (h:xs[j]? =V x):GQ (rows xs) j f vs=V ((rows xs).set j (ic (enc x) f vs)):=by unfold GQ;rw[R.get h];rfl
def RowsK.aAO (R:RowsK enc rows) {xs zs:List J} {y:J} (h:setAt xs j y=V zs) (he:r=enc y):(rows xs).set j r=rows zs:=by rw[(C4 h).1,he,R.map,R.map,DX]
def RowsK.lt (R:RowsK enc rows) {xs:List J} {x:J} (h:xs[j]? =V x):j<(rows xs).length:=by rw[R.len];exact (bK.1 h).1
def RowsK.ltS (R:RowsK enc rows) {xs zs:List J} {y:J} (h:setAt xs j y=V zs):j<(rows xs).length:=by rw[R.len];exact (C4 h).2
def aed {Q Q':bz} {j f:Nat} {vs:bc} (h:GQ Q j f vs=V Q'):It E:=.op h (.ur Q')
def RowsK.ur (R:RowsK enc rows) {xs zs:List J} {j:Nat} {x y:J} (f:Nat) (vs:bc) (h0:xs[j]? =V x) (h1:setAt xs j y=V zs) (he:ic (enc x) f vs=enc y:=by kernel_rfl):It E:=aed (Q:=rows xs) (Q':=rows zs) (j:=j) (f:=f) (vs:=vs) (by rw[R.aAH h0,R.aAO h1 he])
def RowsK.hol (R:RowsK enc rows) {xs:List J} {j:Nat} {x:J} (f:Nat) (h0:xs[j]? =V x):It E:=aed (R.aAH (f:=f) (vs:= [.undef]) h0)
def RowsK.holF (R:RowsK enc rows) {xs:List J} {j:Nat} {x:J} (f:Nat) (r':bc) (h:xs[j]? =V x) (hr:ic (enc x) f [.undef]=r':=by kernel_rfl):It E:=aed (Q:=rows xs) (Q':=(rows xs).set j r') (j:=j) (f:=f) (vs:= [.undef]) (by rw[R.aAH h,hr])
def RowsK.zi (R:RowsK enc rows) {xs:List J} {j:Nat} {x:J} (f:Nat) (r r':bc) (h:xs[j]? =V x) (hr:ic r f [.undef]=r':=by kernel_rfl):It E:=aed (Q:=(rows xs).set j r) (Q':=(rows xs).set j r') (j:=j) (f:=f) (vs:= [.undef]) (by rw[D5 (R.lt h),hr])
def RowsK.hrwS (R:RowsK enc rows) {xs:List J} {j:Nat} {x:J} (r r':bc) (h:xs[j]? =V x) (hr:ic r 0 r'=r':=by kernel_rfl):It E:=aed (Q:=(rows xs).set j r) (Q':=(rows xs).set j r') (j:=j) (f:=0) (vs:=r') (by rw[D5 (R.lt h),hr])
def RowsK.atS (R:RowsK enc rows) {xs:List J} {x:J} (h:xs[j]? =V x):((rows xs).set j r)[j]? =V r:=j3 (R.lt h)
def RowsK.rowS (R:RowsK enc rows) {xs:List J} {j:Nat} {x:J} (r:bc) (h:xs[j]? =V x):It E:=.op (R.atS (r:=r) h) (.row r [])
def RowsK.Cq (R:RowsK enc rows) {xs:List J} {j:Nat} {x:J} (fs:bP) (r:bc) (h:xs[j]? =V x):It E:=.op (R.atS (r:=r) h) (.row r fs)
def RowsK.cut (R:RowsK enc rows) {xs zs:List J} {lo hi:A Int} (h:Go.bL.cut xs lo hi=V zs):It E:=.op (P:=CutR (rows xs) (lo.getD 0) (hi.getD (xs.length:Nat)) (rows zs) zs.length) (by
 obtain ⟨l,u,h1,rfl⟩:=aCT h;exact ⟨l,u,by rw[R.len];exact h1,by rw[R.map,R.map,vD,Bz],R.len _⟩) (.cut 0 0 (rows zs) zs.length)
def RowsK.so (R:RowsK enc rows) {xs:List J} {n u:Nat} {hi:Int} (h:Go.bL.so n hi=V u) (le:n<=xs.length):It E:=.op (P:=ajC 0 hi n 0 u/\0+n<=(rows xs).length) ⟨⟨rfl,(tM h).1,ru _,(tM h).2⟩,by rw[R.len];omega⟩ (.cut 0 u [] 0)
def RowsK.EY (R:RowsK enc rows) {xs:List J} {n u:Nat} {lo:Int} (h:Go.bL.EY n lo=V u) (le:n<=xs.length):It E:=.op (P:=ajC lo (n:Int) n u n/\0+n<=(rows xs).length) ⟨⟨(Nn h).1,rfl,(Nn h).2,cS _⟩,by rw[R.len];omega⟩ (.cut u n [] 0)
def RowsK.appQ (R:RowsK enc rows) {xs ys zs:List J} (h:Go.bL.KG xs n ys=V zs):Lj B (rows xs) n (rows zs) zs.length (rows ys):=
 ⟨λh=>(by cases h),by rw[R.len];exact (Gt h).1,(Gt h).2.1,by rw[R.len];exact (Gt h).2.2.1,by rw[(Gt h).2.2.2,R.map,R.map,R.map,kh,vD],R.len zs⟩
def Hb {J:Type} (xs:List J) (hi mx:Int):A (List J):=if hi=mx/\0<=hi/\hi.toNat<=xs.length then V (xs.take hi.toNat) else G
def RowsK.Hb (R:RowsK enc rows) {xs zs:List J} {hi mx:Int} (h:Go.bL.Hb xs hi mx=V zs):It E:=.op (P:=CutF (rows xs) hi mx (rows zs) zs.length) (by
 unfold Go.bL.Hb at h;split at h
 ·rename_i h0;cases h;exact ⟨hi.toNat,by omega,by omega,by rw[R.len];exact h0.2.2,by rw[R.take],R.len _⟩
 ·cases h) (.aCS (rows zs) zs.length)
def RowsK.aHi (R:RowsK enc rows) {xs ys zs:List J} (h:Go.bL.app xs ys=V zs) (cR:ys≠ []):Lj B (rows xs) xs.length (rows zs) zs.length (rows ys)/\rows ys≠ []:=
 ⟨⟨λh=>(by cases h),by rw[R.len];exact cS _,(uh h).1,by rw[R.len];exact (uh h).2.1,by rw[(uh h).2.2,R.map,R.map,R.map,kh,iT (by rw[my];exact cS _)],R.len zs⟩,by rw[R.map];intro h;exact cR (List.map_eq_nil_iff.1 h)⟩
def RowsK.appF (R:RowsK enc rows) {xs ys zs:List J} (h:Go.bL.app xs ys=V zs) (cR:ys≠ []):It E:=.op (R.aHi h cR) (.ast (rows ys) (rows zs) zs.length)
def RowsK.aVW (R:RowsK enc rows) {xs ys zs:List J} (h:Go.bL.app xs ys=V zs) (cR:ys≠ []):It E:=
 .op (P:=(Lj B (rows xs) xs.length (rows zs) zs.length (rows ys)/\rows ys≠ [])/\((rows ys).drop 0).take ys.length=rows ys/\0+ys.length<=(rows ys).length) ⟨R.aHi h cR,by rw[pF,iT (by rw[R.len];exact cS _)],by rw[R.len];omega⟩ (.ast (rows ys) (rows zs) zs.length)
def RowsK.aVX (R:RowsK enc rows) {ys:List J} (h:ys= []):It E:=.op (P:=rows ys= []) (by rw[h,R.map];rfl) (.ass (rows ys))
def Ge {J:Type} (xs ys:List J):A (List J):=if xs= [] then G else V (ys.take (min ys.length xs.length)++xs.drop (min ys.length xs.length))
def EZ {xs ys zs:List J} (h:Go.bL.Ge xs ys=V zs):xs≠ []/\zs=ys.take (min ys.length xs.length)++xs.drop (min ys.length xs.length):=by
 unfold Go.bL.Ge at h;split at h
 ·cases h
 ·rename_i h0;cases h;exact ⟨h0,rfl⟩
def RowsK.Ge (R:RowsK enc rows) {xs ys zs:List J} (h:Go.bL.Ge xs ys=V zs):It E:=.op (P:=aDJ (rows xs) (rows zs) 0 xs.length (min ys.length xs.length) (rows ys))
 ⟨by rw[R.len];omega,by have:=HE.2 (EZ h).1;omega,by rw[R.len],by rw[(EZ h).2,R.map,R.map,R.map,kh,vD,Bz,yV,j0,cq]⟩ (.Ge (rows ys) (rows zs) (min ys.length xs.length))
def RowsK.cpyW (R:RowsK enc rows) {xs ys zs:List J} (h:Go.bL.Ge xs ys=V zs):It E:=.op (P:=aDJ (rows xs) (rows zs) 0 xs.length (min ys.length xs.length) (rows ys)/\((rows ys).drop 0).take ys.length=rows ys/\0+ys.length<=(rows ys).length)
 ⟨⟨by rw[R.len];omega,by have:=HE.2 (EZ h).1;omega,by rw[R.len],by rw[(EZ h).2,R.map,R.map,R.map,kh,vD,Bz,yV,j0,cq]⟩,by rw[pF,<-R.len,nF],by rw[R.len];omega⟩ (.Ge (rows ys) (rows zs) (min ys.length xs.length))
def aJz {xs ys zs:List J} (h:Go.bL.Ge xs ys=V zs):zs.length=xs.length:=by
 rw[(EZ h).2,gf,dE,jq];omega
def RowsK.appB (R:RowsK enc rows) {xs ys zs:List J} {lo m n:Nat} (h:Go.bL.KG xs n ((ys.drop lo).take m)=V zs) (hm:lo+m<=ys.length):It E:=
 .op (P:=Lj B (rows xs) n (rows zs) zs.length (rows ((ys.drop lo).take m))/\((rows ys).drop lo).take m=rows ((ys.drop lo).take m)/\lo+m<=(rows ys).length) ⟨R.appQ h,by rw[R.map,R.map,vD,Bz],by rw[R.len];exact hm⟩ (.app B (rows ((ys.drop lo).take m)) (rows zs) zs.length)
def RowsK.made (R:RowsK enc rows) {n:Int} {x:J} {zs:List J} (h:rh n x=V zs) (sh:ep:= []):It E:=
 .op (P:=MkP n n (enc x) (rows zs) n.toNat) ⟨n.toNat,(vK h).1,(vK h).1,cS _,(vK h).2.1,by rw[(vK h).2.2,R.map,List.map_replicate]⟩ (.mk (enc x) (rows zs) n.toNat sh)
def RowsK.aQZ (R:RowsK enc rows) {n:Int} {x:J} {zs:List J} (h:rh n x=V zs) (sh:ep:= []):It E:=
 .op (P:=MkP 0 n (enc x) (rows []) 0) ⟨n.toNat,rfl,(vK h).1,ru _,(vK h).2.1,by rw[R.map];rfl⟩ (.mk (enc x) (rows []) 0 sh)
def It.shr (K:Nat) {Q P:bz} {u:Nat} (h:Q.take u=P):It E:=.gh ⟨h,.shr K u P⟩
def RowsK.L5 (R:RowsK enc rows) {xs ys zs:List J} (h:Go.bL.app xs ys=V zs):It E:=.op (P:=TapP (rows xs) xs.length) ⟨(R.len xs).symm,(uh h).1⟩ .L5
def RowsK.apS (R:RowsK enc rows) {xs zs:List J} {y:J} (h:Go.bL.app xs [y]=V zs):rows xs++ [r]=(rows zs).set xs.length r:=by
 rw[(uh h).2.2,R.map,R.map,kh,wv _ _ (by rw[my];exact cS _),my,rF]
 rfl
def RowsK.apL (R:RowsK enc rows) {xs zs:List J} {y:J} (h:Go.bL.app xs [y]=V zs):xs.length+1=zs.length:=by
 rw[(uh h).2.2,gf];rfl
def RowsK.tfr (R:RowsK enc rows) (b:Bool) (K:Nat) (xs:List J):It E:=.gh ⟨R.len xs,.eB K (aS b 2 0) xs.length⟩
def RowsK.frzN (R:RowsK enc rows) {n:Nat} (b:Bool) (K:Nat) (xs:List J) (h:n=xs.length):It E:=.gh ⟨(R.len xs).trans h.symm,.eB K (aS b 2 0) n⟩
def RowsK.noDR (R:RowsK enc rows) (h:∀x,vM (enc x)=M) (xs:List J):aDq (rows xs):=λr hr=>by
 rw[R.map] at hr;obtain ⟨x,_,rfl⟩:=dJ.1 hr;exact h x
def It.gi (x:It E):GI:=match x with| .gh g=>g|_=>⟨trivial,.ja 0 0⟩
def It.thw {E:Env} (K:Nat):It E:=.gh ⟨trivial,.thw K⟩
def It.bsF (d s n:Nat) (fz:List (It E)):It E:=.opF (P:=AV.ms d s 0 n= .ms d s 0 n) rfl (.eqv (.ms d s 0 n)) (fz.map It.gi)
def It.zw {f:Nat} {bs gP:cZ} {ys:bc} {y:AV} {P:Prop} (h:iA E f bs ys y gP) (gs:List (It E)) (hd:P) (ps rs:iJ) (fz:List (It E):= []):It E:=.aGL h (gs.map It.gi) hd ps rs (fz.map It.gi)
def aqt (K K2:Nat) {j f e2 s2 n:Nat} {x:Bool} {Q Q2 Q':bz} (h:aDp Q j f x e2 s2 n Q2 Q'):It E:=.gh ⟨h,.opn K K2 j f e2 s2 n Q2 Q'⟩
def clsO (K K2:Nat) {j f n:Nat} {y:AV} {Q Q2 Q':bz} (h:Q2.length=n/\Z2 Q j f y Q'):It E:=.gh ⟨h,.cls K K2 j f n Q'⟩
def cldO (K:Nat) {j f:Nat} (y:AV) {Q Q':bz} (h:Z2 Q j f y Q'):It E:=.gh ⟨h,.cld K j f y Q'⟩
variable {g7:Type} {ni:List g7->bz} {RS:g7->bc}
def RowsK.oC (R:RowsK enc rows) (N:RowsK RS ni) {xs:List J} {j:Nat} {x:J} (K K2 f:Nat) (b:Bool) (e' s:Nat) (y:List g7) (h:xs[j]? =V x) (r':bc) (hx:(enc x)[f]? =V (y5 b e' s y.length (ni y)):=by kernel_rfl) (hr:ic (enc x) f [.undef]=r':=by kernel_rfl):It E:=
 aqt (Q:=rows xs) (Q2:=ni y) (Q':=(rows xs).set j r') K K2 ⟨enc x,R.get h,hx,by rw[hr]⟩
def RowsK.xC (R:RowsK enc rows) (N:RowsK RS ni) {xs:List J} {j:Nat} {x:J} {r:bc} (K K2 f:Nat) (b:Bool) (e' s:Nat) (y:List g7) (h:xs[j]? =V x) (r':bc) (hx:r[f]? =V (y5 b e' s y.length (ni y)):=by kernel_rfl) (hr:ic r f [.undef]=r':=by kernel_rfl):It E:=
 aqt (Q:=(rows xs).set j r) (Q2:=ni y) (Q':=(rows xs).set j r') K K2 ⟨r,R.atS h,hx,by rw[hr,uM]⟩
def RowsK.kF (R:RowsK enc rows) (N:RowsK RS ni) {xs zs:List J} {j:Nat} {z:J} {r:bc} (K K2 f:Nat) (b:Bool) (e' s:Nat) (y:List g7) (h:setAt xs j z=V zs) (r':bc) (hr:ic r f [y5 b e' s y.length (ni y)]=r':=by kernel_rfl):It E:=
 clsO (Q:=(rows xs).set j r) (Q2:=ni y) (Q':=(rows xs).set j r') (y:=y5 b e' s y.length (ni y)) K K2 ⟨N.len y,by show GQ _ _ _ _=_;rw[D5 (R.ltS h),hr]⟩
def RowsK.iN (R:RowsK enc rows) (N:RowsK RS ni) {xs zs:List J} {j:Nat} {z:J} {r:bc} (K K2 f:Nat) (b:Bool) (e' s:Nat) (y:List g7) (h:setAt xs j z=V zs) (hr:ic r f [y5 b e' s y.length (ni y)]=enc z:=by kernel_rfl):It E:=
 clsO (Q:=(rows xs).set j r) (Q2:=ni y) (Q':=rows zs) (y:=y5 b e' s y.length (ni y)) K K2 ⟨N.len y,by show GQ _ _ _ _=_;rw[D5 (R.ltS h),R.aAO h hr]⟩
def RowsK.clo (R:RowsK enc rows) {xs zs:List J} {j:Nat} {x y:J} (K:Nat) (f:Nat) (q:AV) (u:AV) (h0:xs[j]? =V x) (h1:setAt xs j y=V zs) (he:ic (ic (enc x) f [u]) f [q]=enc y:=by kernel_rfl):It E:=
 cldO (Q:=(rows xs).set j (ic (enc x) f [u])) (Q':=rows zs) K q (by show GQ _ _ _ _=_;rw[D5 (R.lt h0),R.aAO h1 he])
end
def gone (l:ep) (g:Nat) (Q:bz):bz:=(Q.take g).map (JG l)++Q.drop g
def aLA:Q=gone l 0 Q:=rfl
def ahu {g:Nat} (h:Q[g]? =V r):(gone l g Q)[g]? =V r:=by
 have dz:=(bK.1 h).1;unfold gone;rw[nY (by rw[my,dE];omega),my,dE,fh,fu (by omega),rF,oH]
 exact h
def aCk {g:Nat} (h:Q[g]? =V r):(gone l g Q).set g (JG l r)=gone l (g+1) Q:=by
 have dz:=(bK.1 h).1;have hr:Q[g]=r:=(bK.1 h).2;have hl:((Q.take g).map (JG l)).length=g:=by rw[my,dE];omega
 unfold gone;rw[wv _ _ (by omega),hl,rF,uL dz,qk,cX dz,hr]
 simp
section
variable {J g7:Type} {enc:J->bc} {rows:List J->bz} {ni:List g7->bz} {RS:g7->bc} {E:Env}
def ahv {g:Nat} {r0:bc} {u:Unit} (hg:iP j g=V u) (h:Q[j]? =V r0):((gone l g Q).set j r)[j]? =V r:=by
 have:=pq hg;subst this;exact j3 (bK.1 (ahu h)).1
def RowsK.aKt (R:RowsK enc rows) (N:RowsK RS ni) {xs:List J} {j g:Nat} {x:J} {u:Unit} (l:ep) (hg:iP j g=V u) (K K2 f:Nat) (b:Bool) (e' s:Nat) (y:List g7) (h:xs[j]? =V x) (r':bc) (hx:(enc x)[f]? =V (y5 b e' s y.length (ni y)):=by kernel_rfl) (hr:ic (enc x) f [.undef]=r':=by kernel_rfl):It E:=
 aqt (Q:=gone l g (rows xs)) (Q2:=ni y) (Q':=(gone l g (rows xs)).set j r') K K2 ⟨enc x,by have:=pq hg;subst this;exact ahu (R.get h),hx,by rw[hr]⟩
def RowsK.auU (R:RowsK enc rows) (N:RowsK RS ni) {xs:List J} {j g:Nat} {x:J} {u:Unit} (l:ep) (hg:iP j g=V u) (r:bc) (K K2 f:Nat) (b:Bool) (e' s:Nat) (y:List g7) (h:xs[j]? =V x) (r':bc) (hx:r[f]? =V (y5 b e' s y.length (ni y)):=by kernel_rfl) (hr:ic r f [.undef]=r':=by kernel_rfl):It E:=
 aqt (Q:=(gone l g (rows xs)).set j r) (Q2:=ni y) (Q':=(gone l g (rows xs)).set j r') K K2 ⟨r,ahv hg (R.get h),hx,by rw[hr,uM]⟩
def RowsK.aQD (R:RowsK enc rows) {xs:List J} {j g:Nat} {x:J} {u:Unit} (l:ep) (hg:iP j g=V u) (fs:bP) (r:bc) (h:xs[j]? =V x):It E:=.op (ahv (l:=l) (r:=r) hg (R.get h)) (.row r fs)
def RowsK.arn (R:RowsK enc rows) {xs zs:List J} {g:Nat} {z:J} {u:Unit} (hg:iP j g=V u) (h:setAt xs j z=V zs) (hr:JG l (enc z)=r:=by kernel_rfl):(gone l g (rows xs)).set j r=gone l (g+1) (rows zs):=by
 have:=pq hg;subst this;obtain ⟨e,dz⟩:=C4 h;have hz:zs[j]? =V z:=by rw[e,j3 dz]
 rw[<-aCk (R.get hz),hr];have e2:gone l j (rows zs)=(gone l j (rows xs)).set j (enc z):=by
  have hl:(rows xs).length=xs.length:=R.len xs;unfold gone;rw[e,R.map,DX,<-R.map,List.take_set_of_le (cS _)];rw[wv _ _ (by rw[my,dE];omega),my,dE,fu (by omega),rF]
  rw[List.drop_set,aC (by omega),rF]
 rw[e2,uM]
end
class xd (κ:Type) [DecidableEq κ] where
 kf:κ->AV
 eq:∀a b,TO (kf a) (kf b)=V (U (a=b))
instance:xd Z:=⟨.str,λ_ _=>rfl⟩
instance:xd Int:=⟨.int .i64,λ_ _=>rfl⟩
section
variable {κ g7:Type} [DecidableEq κ] [xd κ] {f:g7->AV} {k:κ} {d v:g7}
def np (m:List (κ×g7)) (k:κ) (d:g7):g7:=match m with| []=>d|p::m=>if k=p.1 then p.2 else np m k d
def nk (m:List (κ×g7)) (k:κ) (v:g7):List (κ×g7):=match m with| []=> [(k,v)]|p::m=>if k=p.1 then (k,v)::m else p::nk m k v
def gn (f:g7->AV) (m:List (κ×g7)):List (AV×AV):=m.map λp=>(xd.kf p.1,f p.2)
def T6 (p:κ×g7) (m:List (κ×g7)):ud (xd.kf k) (gn f (p::m))=(match V (U (k=p.1)) with
   |some M=>V (V (0,f p.2))
   |some B=>(match ud (xd.kf k) (gn f m) with|some (V q)=>V (V (q.1+1,q.2))|r=>r)
   |none=>G):=by
 show (match TO (xd.kf k) (xd.kf p.1) with
  |some M=>V (V (0,f p.2))
  |some B=>(match ud (xd.kf k) (gn f m) with|some (V q)=>V (V (q.1+1,q.2))|r=>r)
  |none=>G)=_
 rw[xd.eq]<;>rfl
def M8:∀m:List (κ×g7),∃r,ud (xd.kf k) (gn f m)=V r/\T3 B (V (f d)) r=V (f (np m k d))
 | []=>⟨G,rfl,rfl⟩
 |p::m=>by
  obtain ⟨r,h1,h2⟩:=M8 m;have step:=T6 (f:=f) (k:=k) p m;by_cases hk:k=p.1
  ·refine ⟨V (0,f p.2),by rw[step];simp[hk],?_⟩
   show V (f p.2)=V (f (np (p::m) k d));unfold np;rw[aF hk]
  ·have hg:np (p::m) k d=np m k d:=by rw[np,aC hk]
   rw[hg];cases r with
   |none=>exact ⟨G,by rw[step];simp[hk,h1],h2⟩
   |some q=>exact ⟨V (q.1+1,q.2),by rw[step];simp[hk,h1],h2⟩
def B6:∀m:List (κ×g7),∃r,ud (xd.kf k) (gn f m)=V r/\adV (gn f m) (xd.kf k) (f v) r=gn f (nk m k v)
 | []=>⟨G,rfl,rfl⟩
 |p::m=>by
  obtain ⟨r,h1,h2⟩:=B6 m;have step:=T6 (f:=f) (k:=k) p m;by_cases hk:k=p.1
  ·refine ⟨V (0,f p.2),by rw[step];simp[hk],?_⟩
   unfold nk;rw[aF hk];rfl
  ·have hg:nk (p::m) k v=p::nk m k v:=by rw[nk,aC hk]
   rw[hg];have hc:gn f (p::nk m k v)=(xd.kf p.1,f p.2)::gn f (nk m k v):=rfl;have yI:gn f (p::m)=(xd.kf p.1,f p.2)::gn f m:=rfl;cases r with
   |none=>exact ⟨G,by rw[step];simp[hk,h1],by rw[hc,<-h2,yI];rfl⟩
   |some q=>exact ⟨V (q.1+1,q.2),by rw[step];simp[hk,h1],by rw[hc,<-h2,yI];rfl⟩
def Dg {d b:Bool} {m:List (κ×Bool)} (h:np m k d=b):∃r,ud (xd.kf k) (gn AV.bool m)=V r/\T3 B (V (.bool d)) r=V (.bool b):=h ▸ M8 m
end
def It.lkp {E:Env} {es:List (AV×AV)} {k x z:AV} (ok:Bool) (h:∃f,ud k es=V f/\T3 ok (V z) f=V x):It E:=.op h (.lkp x [])
def It.kS {E:Env} {es LB:List (AV×AV)} {k x:AV} (h:∃f,ud k es=V f/\adV es k x f=LB):It E:=.op h (.lkp .undef LB)
def It.nxt {E:Env} {b:Z} {pos:Nat} (h:pos<b.size):It E:=.op h (.val 1)
def It.fin {E:Env} {b:Z} {pos:Nat} (h:¬pos<b.size):It E:=.op h (.val 0)
def It.eB {E:Env} {Q:bz} {n:Nat} (K:Nat) (h:Q.length=n):It E:=.gh ⟨h,.eB K 0 n⟩
def cd {E:Env} {f:Nat} {gP:cZ} (h:iA E f bs xs (.ms K sz 0 n) gP) (hq:Q.length=n) (hl:lk K gP=V (.rows z e sz Q):=by kernel_rfl) (hb:Y8 K sz gP= []:=by kernel_rfl):
  iA E f bs xs (CD 0 n (.rows z e sz Q) sz 0) (LS.ahx ⟨[],gP⟩ K 0 n (.rows z e sz Q)).bs:=.mk λr nO has=>by
 obtain ⟨F',g',φ',c',v,H',nx',h1,h2,h3,h4,h5,h6,h7,h8,_⟩:=h.go r nO has;have r0:=h7.put (V 0) λ_=>h6
 have kk:iX K K=M:=(beq_iff _ _).2 rfl;have ss:iX sz sz=M:=(beq_iff _ _).2 rfl;have ho:jA (ahw ((⟨[],gP⟩:LS).put (V 0) (.ms K sz 0 n)) K n (.rows z e sz Q) λP=>⟨P,True,trivial⟩):=by
  refine ⟨hq,?_⟩;show jA ((((aS (iX K K&&(iX sz sz&&iX 0 0)) [n] [])++ [])++Y8 K sz gP).map _);rw[hb,kk,ss];exact ⟨hq,trivial⟩
 obtain ⟨F2,c2,a1,_,r2⟩:=r0.eB (m:=0) (λ_=>rfl) hl ho
 have e0:Kj K (CD 0 n (.rows z e sz Q)) (Ki (.rows z e sz Q)) (.ms K sz 0 n)=CD 0 n (.rows z e sz Q) sz 0:=by
  show aS (iX K K) _ _=_;rw[kk]
 have cR:CD 0 n (.rows z e sz Q) sz 0≠ .undef:=by
  show aS (iX sz sz&&iX 0 0) _ _≠_;rw[ss];exact λh=>by cases h
 obtain ⟨v',v1,v2⟩:=r2.tm 0 (Kj K (CD 0 n (.rows z e sz Q)) (Ki (.rows z e sz Q)) (.ms K sz 0 n)) (show lk 0 [((0:Nat),_)]=V _ from by rw[dD,aF rfl]) (by rw[e0];exact cR)
 obtain rfl:v=v':=by simpa[eN] using v1
 rw[e0] at v2;exact ⟨F2,g',φ',c2,v,H',nx',h1,h2,h3,h4.trans a1,h5,v2,{r2 with tm:=λt x hx=>(by cases hx)},h8,λh=>by cases h⟩
def iA.res {E:Env} {f:Nat} {gP:cZ} {y:AV} (w:AV) (h:kX ro E f bs xs y gP):kX ro E f bs xs (cv w y) gP:=.mk λr nO has=>by
 obtain ⟨F',g',φ',c',v,H',nx',h1,h2,h3,h4,h5,h6,h7,h8⟩:=h.go r nO has;exact ⟨F',g',φ',c',v,H',nx',h1,h2,h3,h4,h5,Gd h6,h7,h8⟩
end
section
variable {F F':Hf} {g g':Gb} {Y:Nat->Ow} {c:Nat->cB} {s s':LS} {T:Tf} {H:Hf} {E:Env}
def En {k c nx:Nat} (hP:KJ E k c) {v:SV} (ho:xE E c H nx aa=V (v,ups)):rE E B (.fn (.func k) [] []) aa H nx v (hZ H ups) (nx+1):=λm g w u us hE hr nN hu oA=>by
 cases hu with
 | @fn _ first kz _ _ ED Ie=>
 have Bl:nD g (first.toList++us++kz.toList) ([]++aa++ []):=(ED.append oA).append Ie
 rw[j0,rG] at Bl;have xV:first++us.toArray++kz=(first.toList++us++kz.toList).toArray:=by apply Bt;simp
 obtain ⟨EJ,arj⟩:=awo hE hP hr (nN nx (cS _)) Bl ho m;refine ⟨{target:=.fn (.func k) kz,args:=first++us.toArray},rfl,.inl ⟨k,first++us.toArray++kz,aCl EJ _ w,?_⟩⟩
 rw[xV];refine CallsIn.mono arj ?_;rintro e w' ⟨r,g',rfl,hp⟩;exact ⟨r,rfl,g',hp.val,hp.hr,hp.fr,λx hx=>hp.ro x (by omega),λx hx=>by rw[hp.ro x (by omega)];exact nN x (by omega)⟩
def JU {v:SV} {s:Nat} (h:VA F g v (.ms K s 0 n)) (hn:0<n):(g K).b=M/\v= .sl (g K).n 0 n (g K).c:=by
 cases h with
 |sA _ hb=>omega
 |ms _ _ _ hb=>exact ⟨hb,by rw[ng];cases (g K).c<;>rfl⟩
 |zb _ _ hl=>omega
def Pa {s:Nat} (hb:(g K).b=M):VA F g (.sl (g K).n 0 n (g K).c) (.ms K s 0 n):=by
 have:=VA.ms (F:=F) (g:=g) (K:=K) s 0 n hb;rw[ng,show Ai (g K).c 0=(g K).c from by cases (g K).c<;>rfl] at this
 exact this
def pN {a b:Nat} (h:a<=b):kN a b=M:=(bN _ _).2 h
def aJw {id:Nat} {cp:Cp} (hf:H id=V (SO.cells e svs)) (hi:i<j) (hj:j<=n) (hl:n*sz<=svs.length):
  arL sz H [.sl id 0 n cp,.int .i64 (.lit (i:Int)),.int .i64 (.lit (j:Int))]=V (.sl id 0 (n-(j-i)) cp,[(id,V (SO.cells e (CE (i*sz) (j*sz) (n*sz) svs)))]):=by
 show ug (V i) (V j) (mM (H id)) (λi j p=>aS (kN (J' i) j&&(kN j n&&kN (p8 0 (A' n sz)) p.2.length)) (V (SV.sl id 0 (X' n (X' j i)) cp,[(id,V (SO.cells p.1 (CE (p8 0 (A' i sz)) (p8 0 (A' j sz)) (p8 0 (A' n sz)) p.2)))])) G)=_
 rw[hf];show aS (kN (J' i) j&&(kN j n&&kN (p8 0 (n*sz)) svs.length)) _ G=_;rw[pN hi,pN hj,show p8 0 (n*sz)=n*sz from cq _,pN hl];simp only[Nat.add_eq,Nat.mul_eq,Nat.sub_eq,cq];rfl
def ayO {g6 C:Nat} (h1:f9<=g6) (h2:g6<=C) (h3:C<=svs.length):(CE f9 g6 C svs).take (f9+(C-g6))=(svs.take C).take f9++(svs.take C).drop g6:=by
 have e0:CE f9 g6 C svs=svs.take f9++((svs.drop g6).take (C-g6)++(P' (g6-f9) SV.undef++svs.drop C)):=rfl;have e1:(svs.take f9).length=f9:=by simp;omega
 have e2:((svs.drop g6).take (C-g6)).length=C-g6:=by simp;omega
 have e3:(svs.take C).take f9=svs.take f9:=by rw[lX,fu (by omega)]
 have e4:(svs.take C).drop g6=(svs.drop g6).take (C-g6):=by rw[wx]
 rw[e0,e3,e4,<-lr,HD (by rw[gf,e1,e2])]
def Ui {s n' len:Nat} {c:Cp} (hc:zQ e s n len c) (h:n'<=n):zQ e s n' len c:=by
 cases c with
 |k m=>exact ⟨by have:=hc.1;omega,hc.2⟩
 |u e'=>exact ⟨hc.1,by have:=jn s h;have:=hc.2;omega⟩
def Rel.wr0 {b b':Bx} {id nx:Nat} (r:Rel F g Y c ⟨[],[(0,b)]⟩ noT H) (nO:∀x,nx<=x->H x=G) (jw:H id≠G) (hc:c id=V 0) (hb:eQ F g 0 b' L') (nd:(L'.map (·.1)).Nodup) (hL:∀p∈L',p=(id,o')\/p.1≠id/\H p.1=V p.2/\c p.1=V 0):
  ∃φ' c',(∀x,nx+1<=x->jB H (id,V o') x=G)/\Rel F g φ' c' ⟨[],[(0,b')]⟩ noT (jB H (id,V o'))/\∀x,x<nx->jB H (id,V o') x≠G->H x≠G:=by
 have hn:∀x,x≠id->jB H (id,V o') x=H x:=λx hx=>aC hx
 have lt:id<nx:=yU λh=>jw (nO _ h)
 obtain ⟨c',h1,_⟩:=r.chg (K:=0) (b':=b') (L':=L') (H':=jB H (id,V o')) hb nd (λp hp=>(hL p hp).elim (λe=>e ▸ ⟨aF rfl,.inl hc⟩) λh=>⟨(hn _ h.1).trans h.2.1,.inl h.2.2⟩) (λi hi=>.inl (ql λh=>hi (hn i λe=>h (e ▸ hc)))) (.inl rfl)
 refine ⟨_,c',λx hx=>(hn x (by omega)).trans (nO x (by omega)),h1.sub (λt x h=>(by cases h)) λk b h=> ?_,λx hx cR=> ?_⟩
 ·show lk k [(0,b'),(0,_)]=_;rw[dD] at h ⊢;split
  ·rename_i e;rw[aF e] at h;exact h
  ·rename_i e;rw[aC e] at h;cases h
 ·by_cases e:x=id
  ·exact e ▸ jw
  ·rwa[hn x e] at cR
def iA.del {k c:Nat} {ie:TI} (hP:KJ E k c) (h9:kN 1048576 c=B) (h0:O' c 2=e) (h1:iX (aa1 c 2) 0=M) (hie:E.ty.get e=V ie) (hs:ie.size=sz) (hn:Q.length=n) (hi:i<j) (hj:j<=n):
  iA E k [(0,.bY B e sz l Q [])] [.ms 0 sz 0 n,.int .i64 (i:Int),.int .i64 (j:Int)] (.ms 0 sz 0 (n-(j-i))) [(0,.bY B e sz l (Q.take i++Q.drop j) [])]:=.mk λ{F g Y c0 H nx aa} r nO has=>by
 cases has with|cons q1 t1=>
 cases t1 with|cons q2 t2=>
 cases t2 with|cons q3 t3=>
 cases t3;obtain ⟨hb,rfl⟩:=JU q1 (by omega)
 cases q2;cases q3;have hlk:lk 0 [((0:Nat),Bx.bY B e sz l Q [])]=V (.bY B e sz l Q []):=by rw[dD,aF rfl]
 rcases r.bY hlk with ⟨_,_,nP,_⟩|⟨_,svs,L,hφ,hH,_,hu,jH,q,_⟩
 ·rw[hb] at nP;cases nP
 obtain ⟨_,nd,own⟩:=r.bx 0 _ hlk;rw[hφ] at nd own;subst hn;have hl:=oU jH;have hA:i*sz<=j*sz:=jn _ (by omega)
 have hB:j*sz<=Q.length*sz:=jn _ hj;have ho:xE E c H nx [.sl (g 0).n 0 Q.length (g 0).c,.int .i64 (.lit (i:Int)),.int .i64 (.lit (j:Int))]=V (.sl (g 0).n 0 (Q.length-(j-i)) (g 0).c,[((g 0).n,V (SO.cells e (CE (i*sz) (j*sz) (Q.length*sz) svs)))]):=by
  unfold xE;rw[h9];show ay (E.ty.get (O' c 2)) _=_;rw[h0,hie];show aS (iX (aa1 c 2) 0) (arL ie.size H _) _=_;rw[h1,hs];exact aJw hH hi hj hl
 obtain ⟨f9,g6,e1,a1,a2⟩:=q.cut j hu;obtain ⟨A1,A2,rfl,b1,b2⟩:=a1.cut i λr hr=>hu r (og hr)
 rw[lX,fu hA,show (Q.take j).take i=Q.take i by rw[lX,fu (by omega)]] at b1
 have G4:(A1++g6).Sublist L:=by
  rw[e1];exact List.Sublist.append (List.sublist_append_left _ _) (.refl _)
 have r1:(Q.take i++Q.drop j).length=Q.length-(j-i):=by simp;omega
 have r3:(Q.length-(j-i))*sz=i*sz+(Q.length*sz-j*sz):=by rw[show Q.length-(j-i)=i+(Q.length-j) by omega,fS,Bw]
 have jw:=(own ((g 0).n,_) kg);have key:=r.wr0 (b':=.bY B e sz l (Q.take i++Q.drop j) []) (id:=(g 0).n) (o':=SO.cells e (CE (i*sz) (j*sz) (Q.length*sz) svs)) (L':=((g 0).n,SO.cells e (CE (i*sz) (j*sz) (Q.length*sz) svs))::(A1++g6)) nO (by rw[hH];simp) jw.2 (.bY hb (λh=>by cases h) (λr hr=> ?_) ?_ ?_ λp hp=>by cases hp) ?_ λp hp=> ?_
 ·obtain ⟨φ',c',k1,k2,k3⟩:=key;exact ⟨F,g,φ',c',_,_,nx+1,En hP ho,sO _,k1,.refl _,λ_ _=>rfl,Pa hb,k2,k3,λh=>by cases h⟩
 ·rcases eV.1 hr with hr|hr
  ·exact hu r (og hr)
  ·exact hu r (oG hr)
 ·rw[r1,aCQ hA hB hl];exact Ui jH (by omega)
 ·rw[r1,r3,ayO hA hB hl];exact b1.append a2
 ·exact ((G4.cons_cons _).map _).nodup nd
 ·rcases da.1 hp with e|hp
  ·exact .inl e
  ·have hp:=G4.subset hp;exact .inr ⟨λe=>(pG.1 nd).1 (dJ.2 ⟨p,hp,e⟩),own p (dW _ hp)⟩
def aJn {id FY q new:Nat} {c c2:Cp} {e2:ll} {L7:bf} (hf:H id=V (SO.cells e svs)) (hf2:H FY=V (SO.cells e2 L7)) (hi:i<=n) (hq:0<q) (Ac:n<=1000000) (hq6:q<=1000000) (cR:id≠FY) (hl:n*sz<=svs.length) (CV:q*sz<=L7.length) (hc:arY 0 svs.length sz c=M):
  aqQ e sz H new [.sl id 0 n c,.int .i64 (.lit (i:Int)),.sl FY 0 q c2]=V (.sl new 0 (n+q) (.u e),[(id,G),(new,V (SO.cells e (CB (svs.take (n*sz)) (i*sz) (L7.take (q*sz)))))]):=by
 show ug (V i) (mM (H id)) (mM (H FY)) (λi p p2=>aS (kN i n&&(kN 1 q&&(kN n 1000000&&(kN q 1000000&&(!iX id FY&&(iX p.1 e&&(kN (p8 0 (A' n sz)) p.2.length&&(kN (p8 0 (A' q sz)) p2.2.length&&arY 0 p.2.length sz c)))))))) (V (SV.sl new 0 (p8 n q) (.u e),[(id,G),(new,V (SO.cells e (CB ((p.2.drop 0).take (A' n sz)) (A' i sz) ((p2.2.drop 0).take (A' q sz)))))])) G)=_
 rw[hf,hf2];show aS (kN i n&&(kN 1 q&&(kN n 1000000&&(kN q 1000000&&(!iX id FY&&(iX e e&&(kN (p8 0 (A' n sz)) svs.length&&(kN (p8 0 (A' q sz)) L7.length&&arY 0 svs.length sz c)))))))) _ G=_;rw[show p8 0 (A' n sz)=n*sz from cq _,show p8 0 (A' q sz)=q*sz from cq _];rw[pN hi,pN hq,pN Ac,pN hq6,pN hl,pN CV,hc,(beq_iff _ _).2 rfl,show iX id FY=B from adN.2 λh=>cR ((beq_iff _ _).1 h)]
 rfl
def iA.ins {k c q:Nat} {e2:ll} {ie:TI} {f7:bz} (hP:KJ E k c) (h9:kN 1048576 c=B) (h0:O' c 2=e) (h1:iX (aa1 c 2) 0=B) (hie:E.ty.get e=V ie) (hs:ie.size=sz) (hn:Q.length=n) (hq:f7.length=q) (hi:i<=n) (hn0:0<n) (hq0:0<q) (Ac:n<=1000000) (hq6:q<=1000000):
  iA E k [(2,.rows z e2 sz f7),(4294967296,.rows B e sz Q)] [.ms 4294967296 sz 0 n,.int .i64 (i:Int),.ms 2 sz 0 q] (.ms 4294967296 sz 0 (n+q)) [(4294967296,.rows B e sz (Q.take i++f7++Q.drop i)),(2,.rows z e2 sz f7)]:=.mk λ{F g Y c0 H nx aa} r nO has=>by
 generalize hK:(4294967296:Nat)=K at*;have hK2:K≠2:=by rw[<-hK];decide
 have hpn:pnL (xq [(2,Bx.rows z e2 sz f7),(K,Bx.rows B e sz Q)]) K=B:=by rw[<-hK];rfl
 cases has with|cons q1 t1=>
 cases t1 with|cons q2 t2=>
 cases t2 with|cons q3 t3=>
 cases t3;obtain ⟨hb,rfl⟩:=JU q1 hn0;obtain ⟨hb2,rfl⟩:=JU q3 hq0;cases q2;have hlk:lk K [((2:Nat),Bx.rows z e2 sz f7),(K,Bx.rows B e sz Q)]=V (.rows B e sz Q):=by rw[dD,aC hK2,dD,aF rfl]
 have hlk2:lk 2 [((2:Nat),Bx.rows z e2 sz f7),(K,Bx.rows B e sz Q)]=V (.rows z e2 sz f7):=by rw[dD,aF rfl]
 rcases r.bY hlk with ⟨_,_,nP,_⟩|⟨_,svs,L,hφ,hH,_,hu,jH,w1,_⟩
 ·rw[hb] at nP;cases nP
 rcases r.bY hlk2 with ⟨_,_,nP,_⟩|⟨_,L7,L2,hφ2,hH2,_,hu2,aFR,w2,_⟩
 ·rw[hb2] at nP;cases nP
 have own:=(r.bx K _ hlk).2.2;have agn:=(r.bx 2 _ hlk2).2.2;rw[hφ] at own;rw[hφ2] at agn;have cK:=(own (_,_) kg).2;have c2:=(agn (_,_) kg).2;subst hn;subst hq;have hl:=oU jH;have CV:=oU aFR;have cR:(g K).n≠(g 2).n:=λe=>by
  have cK:c0 (g K).n=V K:=cK;have c2:c0 (g 2).n=V 2:=c2;rw[e,c2] at cK;exact hK2 (lp cK).symm
 have jD:i*sz<=Q.length*sz:=jn _ hi;have ho:xE E c H nx [.sl (g K).n 0 Q.length (g K).c,.int .i64 (.lit (i:Int)),.sl (g 2).n 0 f7.length (g 2).c]=V (.sl nx 0 (Q.length+f7.length) (.u e),[((g K).n,G),(nx,V (SO.cells e (CB (svs.take (Q.length*sz)) (i*sz) (L7.take (f7.length*sz)))))]):=by
  unfold xE;rw[h9];show ay (E.ty.get (O' c 2)) _=_;rw[h0,hie];show aS (iX (aa1 c 2) 0) _ (aqQ e ie.size H nx _)=_;rw[h1,hs];refine aJn hH hH2 hi hq0 Ac hq6 cR hl CV ?_;cases hκ:(g K).c with
  |k m=>
   rw[hκ] at jH;show kN (p8 0 (A' m sz)) svs.length=M;rw[jH.2];exact pN (by show 0+m*sz<=_;omega)
  |u e'=>rfl
 have nN:=nO nx (cS _);generalize hX:CB (svs.take (Q.length*sz)) (i*sz) (L7.take (f7.length*sz))=X at ho;have hXe:X=((svs.take (Q.length*sz)).take (i*sz))++(L7.take (f7.length*sz)++(svs.take (Q.length*sz)).drop (i*sz)):=hX.symm;let H':Hf:=jB (jB H ((g K).n,G)) (nx,V (SO.cells e X));have Ke:∀x,x≠(g K).n->x≠nx->H' x=H x:=λx h1 h2=>by
  show (if x=nx then _ else if x=(g K).n then _ else H x)=_
  rw[aC h2,aC h1]
 have o9:(Q.take i++f7++Q.drop i).length=Q.length+f7.length:=by simp;omega
 have hru:∀r∈Q.take i++f7++Q.drop i,r.length=sz:=λr hr=>by
  rcases eV.1 hr with hr|hr
  ·rcases eV.1 hr with hr|hr
   ·exact hu r (og hr)
   ·exact hu2 r hr
  ·exact hu r (oG hr)
 have hXl:X.length=(Q.length+f7.length)*sz:=by
  rw[hXe];simp only[gf,dE,jq,fS];rw[fu hl,fu CV,fu jD];omega
 have hXv:dK F lU X (Q.take i++f7++Q.drop i).flatten:=by
  rw[hXe,List.flatten_append,List.flatten_append,lr,F8 hu,F9 hu];exact (w1.dat.take _).append (w2.dat.append (w1.dat.drop _))
 let g':Gb:=kS g K ⟨nx,.u e,M⟩;have gK:g' K=⟨nx,.u e,M⟩:=aF rfl;obtain ⟨c',k1,_⟩:=r.chg (K:=K) (g':=g') (b':=.rows B e sz (Q.take i++f7++Q.drop i)) (L':= [(nx,.cells e X)]) (H':=H') (by
   have:=eQ.bY (F:=F) (g:=g') (K:=K) (z:=B) (e:=e) (s:=sz) (l:= []) (Q:=Q.take i++f7++Q.drop i) (o:= []) (svs:=X) (by rw[gK]) (λh=>by cases h) hru (by rw[gK,o9,hXl];exact ⟨rfl,cS _⟩) (.te hru (by rw[o9,<-hXl,nF];exact hXv)) λp hp=>by cases hp
   rwa[gK] at this) (by simp) (λp hp=>by rw[gg.1 hp];exact ⟨aF rfl,.inr nN⟩)
  (λx hx=>by
   by_cases h1:x=(g K).n
   ·exact .inl (h1 ▸ cK)
   ·by_cases h2:x=nx
    ·exact .inr (h2 ▸ nN)
    ·exact absurd (Ke x h1 h2) hx)
  (.inr ⟨⟨λt x h=>(by cases h),λk b hk h=>by
   rw[dD] at h;split at h
   ·cases h;exact λhm=>by cases hm
   ·rw[dD] at h;split at h
    ·rename_i e;exact absurd e hk
    ·cases h⟩,λk hk=>aC hk⟩)
 refine ⟨F,g',_,c',_,H',nx+1,En hP ho,sO _,λx hx=> ?_,.refl _,λk hk=>aC λe=>(by rw[e,hpn] at hk;cases hk),?_,k1.sub (λt x h=>(by cases h)) λk b h=> ?_,λx hx h=> ?_,λh=>by cases h⟩
 ·by_cases h1:x=(g K).n
  ·have:H (g K).n=V _:=hH;rw[<-h1,nO x (by omega)] at this;cases this
  ·exact (Ke x h1 (by omega)).trans (nO x (by omega))
 ·have:=Pa (F:=F) (g:=g') (K:=K) (s:=sz) (n:=Q.length+f7.length) (by rw[gK])
  rw[gK] at this;exact this
 ·show lk k [(K,_),(2,_),(K,_)]=_;rw[dD] at h ⊢;split
  ·rename_i e;rw[aF e] at h;exact h
  ·rename_i e;rw[aC e] at h;rw[dD] at h ⊢;split
   ·rename_i e;rw[aF e] at h;exact h
   ·rename_i e;rw[aC e] at h;cases h
 ·by_cases h1:x=(g K).n
  ·rw[h1];have:H (g K).n=V _:=hH;rw[this];simp
  ·rwa[Ke x h1 (by omega)] at h
def qQ (xs:List Int):bz:=xs.map λx=> [AV.int .i64 x]
def Db (z:Bool) (xs:List Int):List Int:=aS z (fo xs) (l8 xs)
def apV (x:Int) (xs:List Int):(qQ (x::xs)).flatten=AV.int .i64 x::(qQ xs).flatten:=rfl
def Rh:∀xs:List Int,dK F g (fE xs) (qQ xs).flatten
 | []=>.nil
 |x::xs=>.cons (.lit _) (Rh xs)
def aag:∀{xs:List Int} {vs:bf},dK F g vs (qQ xs).flatten->vs=fE xs
 | [],vs,h=>by cases h;rfl
 |x::xs,vs,h=>by
  rw[apV] at h;cases h with|cons q t=>
  cases q;rw[aag t];rfl
def J2:∀xs:List Int,J3 (fE xs)=V xs
 | []=>rfl
 |x::xs=>by
  show cj (Mz (.int .i64 (.lit x))) (J3 (fE xs)) (λx r=>V (x::r))=_
  rw[J2 xs];rfl
def aqM (z:Bool) (xs:List Int) (l:bf):(fE (Dc z xs)++l).take (Db z xs).length=fE (Db z xs):=by
 cases z
 ·show (fE (l8 xs++P' (xs.length-(l8 xs).length) 0)++l).take (l8 xs).length=fE (l8 xs);have e:fE (l8 xs++P' (xs.length-(l8 xs).length) 0)=fE (l8 xs)++fE (P' (xs.length-(l8 xs).length) 0):=by simp[fE]
  rw[e,lr,HD (by simp[fE])]
 ·show (fE (fo xs)++l).take (fo xs).length=fE (fo xs);rw[HD (by simp[fE])]
def Zx:∀xs:List Int,(l8 xs).length<=xs.length
 | []=>cS _
 | [x]=>cS _
 |x::y::l=>by
  have:=Zx (y::l);show (if x=y then l8 (y::l) else x::l8 (y::l)).length<=_
  split
  ·exact Nat.le_succ_of_le this
  ·exact Nat.succ_le_succ this
def QS (x:Int):∀ys:List Int,(CA x ys).length=ys.length+1
 | []=>rfl
 |y::ys=>by
  unfold CA;split
  ·rfl
  ·rw[iU,QS x ys];rfl
def yZ:∀xs:List Int,(fo xs).length=xs.length
 | []=>rfl
 |x::xs=>by rw[fo,QS,yZ xs];rfl
def aBv (z:Bool) (xs:List Int):(Db z xs).length<=xs.length:=by
 cases z
 ·exact Zx xs
 ·exact tP (yZ xs)
def agT (b:Bool) (xs:List Int):(Dc b xs).length=xs.length:=by
 cases b
 ·have:=Zx xs;show (l8 xs++P' (xs.length-(l8 xs).length) 0).length=_;rw[gf,uN];omega
 ·exact yZ xs
def FG (xs:List Int):∀r∈qQ xs,r.length=1:=λr hr=>by
 obtain ⟨x,_,rfl⟩:=dJ.1 hr;rfl
def iA.ints {k c:Nat} {xs:List Int} (hP:KJ E k c) (h0:kN 1048576 c=M) (h1:iX c 1048576=z) (hn:xs.length=n) (h6:n<=4294967295):
  iA E k [(0,.rows B e 1 (qQ xs))] [.ms 0 1 0 n] (aS z (.dq []) (.ms 0 1 0 (Db z xs).length)) [(0,.rows B e 1 (qQ (Db z xs)))]:=.mk λ{F g Y c0 H nx aa} r nO has=>by
 cases has with| @cons _ v _ _ _ q1 t1=>
 cases t1;have hpr:∀f new aa,xE E c f new aa=abI z f aa:=λf new aa=>by
  unfold xE;rw[h0,h1,cI,aF rfl]
 subst hn;rcases SF xs.length with hz|G5
 ·obtain rfl:xs= []:=sP.1 hz;have e0:Db z []= []:=by cases z<;>rfl
  rw[e0];have hv:v= .cr\/∃id c',v= .sl id 0 0 c':=by
   cases q1 with
   |sA=>exact .inl rfl
   |ms _ _ _ hb=>exact .inr ⟨(g 0).n,_,by rw[ng];rfl⟩
   |zb _ _ hl=>omega
  have ho:xE E c H nx [v]=V (aS z (.dq []) v,[]):=by
   rw[hpr];rcases hv with rfl|⟨id,c',rfl⟩
   ·cases z<;>rfl
   ·cases z<;>rfl
  refine ⟨F,g,Y,c0,_,_,nx+1,En hP ho,sO _,λx hx=>nO x (by omega),.refl _,λ_ _=>rfl,?_,r,λx _ h=>h,λh=>by cases h⟩
  cases z
  ·exact q1
  ·exact .dq .nil
 ·obtain ⟨hb,rfl⟩:=JU q1 G5;have hlk:lk 0 [((0:Nat),Bx.rows B e 1 (qQ xs))]=V (.rows B e 1 (qQ xs)):=by rw[dD,aF rfl]
  rcases r.bY hlk with ⟨_,_,nP,_⟩|⟨_,svs,L,hφ,hH,_,hu,jH,q,_⟩
  ·rw[hb] at nP;cases nP
  have own:=(r.bx 0 _ hlk).2.2;rw[hφ] at own;have o9:(qQ xs).length=xs.length:=by simp[qQ]
  have hl:=oU jH;have q:=q.dat;rw[o9,Hs] at hl q;rw[o9] at jH;have e1:svs.take xs.length=fE xs:=aag q;have e2:(svs.drop 0).take xs.length=fE xs:=by rw[pF];exact e1
  have ho:xE E c H nx [.sl (g 0).n 0 xs.length (g 0).c]=V (aS z (.dq []) (.sl (g 0).n 0 (l8 xs).length (g 0).c),[((g 0).n,V (SO.cells e (svs.take 0++(fE (Dc z xs)++svs.drop (p8 0 xs.length)))))]):=by
   rw[hpr];show aS (iX xs.length 0) _ (ay (mM (H (g 0).n)) _)=_;rw[show H (g 0).n=_ from hH,show iX xs.length 0=B from adN.2 λh=>by have:=(beq_iff _ _).1 h;omega]
   show ay (J3 ((svs.drop 0).take xs.length)) _=_;rw[e2,J2];show aS (kN 1 xs.length&&(kN (p8 0 xs.length) svs.length&&kN xs.length 4294967295)) _ G=_;rw[pN G5,pN h6,show p8 0 xs.length=xs.length from cq _,pN hl];rfl
  have hol:(qQ (Db z xs)).length=(Db z xs).length:=by simp[qQ]
  generalize hX:(svs.take 0++(fE (Dc z xs)++svs.drop (p8 0 xs.length)))=X at ho;have hlen:X.length=svs.length:=by
   have:=agT z xs;have e3:p8 0 xs.length=xs.length:=cq _;rw[<-hX,e3];simp[fE,this];omega
  have key:=r.wr0 (b':=.rows B e 1 (qQ (Db z xs))) (id:=(g 0).n) (o':=.cells e X) (L':= [((g 0).n,.cells e X)]) nO (by rw[show H (g 0).n=_ from hH];simp) (own (_,_) kg).2
   (.bY hb (λhc=>by cases hc) (FG _) (by rw[hol,hlen];exact Ui jH (aBv z xs)) (.te (FG _) (by
    rw[hol,Hs,<-hX,yV,j0,aqM];exact Rh _)) λp hp=>by cases hp) (by simp) (λp hp=>.inl (gg.1 hp))
  obtain ⟨φ',c',k1,k2,k3⟩:=key;refine ⟨F,g,φ',c',_,_,nx+1,En hP ho,sO _,k1,.refl _,λ_ _=>rfl,?_,k2,k3,λh=>by cases h⟩
  cases z
  ·exact Pa hb
  ·exact .dq .nil
def iA.cmp {k:Nat} {a b:Z} (MW:E.P.funcs[k]? =V fn) (hb:fn.body=G) (hn:(fn.name== "runtime.NumGoroutine")=B) (e1:Extern.findNext fn=G) (e2:Extern.find fn=V Extern.BytealgCompare.compare):iA E k [] [.str a,.str b] (.int .i64 (Np a b)) []:=.mk λ{F g Y c H nx aa} r nO has=>by
 cases has with|cons h1 t1=>
 cases t1 with|cons h2 t2=>
 cases t2;cases h1;cases h2;refine ⟨F,g,Y,c,.int .i64 (.lit (Np a b)),H,nx,λm g w u us hE hr nN hu oA=> ?_,cS _,nO,.refl _,λ_ _=>rfl,.lit _,r,λ_ _ h=>h,λh=>by cases h⟩
 cases hu with
 | @fn _ first kz _ _ ED Ie=>
 have Bl:nD g (first.toList++us++kz.toList) [.str a,.str b]:=(ED.append oA).append Ie
 have xV:first++us.toArray++kz=(first.toList++us++kz.toList).toArray:=by apply Bt;simp
 obtain ⟨v1,v2,e,h1,h2⟩:=HH Bl;rw[e] at xV;cases h1;cases h2;refine ⟨{target:=.fn (.func k) kz,args:=first++us.toArray},rfl,.inr (.inr ⟨.int .i64 (Lib.compareBytes a.data.toList b.data.toList),w,?_,_,rfl,g,.int _ _ ?_,hr,Fr.refl _ _ _,λ_ _=>rfl,nN⟩)⟩
 ·show (callFunc k (first++us.toArray++kz)).run E.P w=_
  rw[xV,run_callFunc_extern MW hn (by rw[hb];rfl) e1 e2,Lib.run_compareString]
  rfl
 ·rw[aax];rfl
end
end Go.bL
namespace Go.bL
open Go.RowKit
variable {nb nx:Nat} {v:BL} {H:Hf} {k f:FuncId} {aa:bf} {us:fM} {xs:bc}
section
def uB (nb:Nat):BL->SV
 | .bool b=>.bool b
 | .int k n=>.int k (.lit n)
 | .string s=>.str s
 | .slice a n c=>
  if n=0 then (if a=G/\c=0 then .cr else .sle)
  else (match a with
   |some ⟨b,o,G⟩=>if b<nb/\n<=c then .sl b o n (.k c) else .undef
   |_=>.undef)
 |_=>.undef
def aha (nb:Nat):BL->SV
 | .agg cs=>.agg (cs.toList.map (uB nb))
 |v=>uB nb v
def aqR (nb:Nat):Obj->A SO
 | .cells cur _ _=>V (.ro (cur.toList.map (uB nb)))
 |_=>G
def mir (nb:Nat):List Obj->Nat->Hp
 | [],_=>.nil
 |o::l,i=>(mir nb l (i+1)).set i (aqR nb o)
def xa (W:World):Hp:=mir W.heap.size W.heap.toList 0
def gW (P:E') (W:World):Gh:=⟨λ_=>0,P.cellsOf,λid=>if id<W.heap.size then V (id,0) else G,λ_=>0,λ_=>0,λb=>W.heap[b]?⟩
def anE (nb:Nat):∀(l:List Obj) (i x:Nat),(mir nb l i).get x=if x<i then G else (l[x-i]?).bind (aqR nb)
 | [],i,x=>by show (Tr.nil:Hp).get x=_;simp;rfl
 |o::l,i,x=>by
  show ((mir nb l (i+1)).set i (aqR nb o)).get x=_;rw[Tr.anS];by_cases hx:x=i
  ·subst hx;simp
  ·rw[aC hx,anE nb l (i+1) x];by_cases dz:x<i
   ·rw[aF dz,aF (by omega)]
   ·rw[aC dz,aC (by omega),show x-i=(x-(i+1))+1 by omega,uo]
def JV (W:World) (x:Nat):(xa W).get x=(W.heap[x]?).bind (aqR W.heap.size):=by
 unfold xa;rw[anE];simp
variable {P:E'} {W:World}
def ayA (v:BL):VR (gW P W) v (uB W.heap.size v):=by
 unfold uB;split
 ·exact .bool _
 ·exact .int _ _ rfl
 ·exact .str _
 ·rename_i a n c;split
  ·rename_i hn;subst hn;split
   ·rename_i h;obtain ⟨rfl,rfl⟩:=h;exact .cr
   ·exact .sle
  ·split
   ·rename_i b o;split
    ·rename_i h;have:=VR.sl (g:=gW P W) (id:=b) (off:=o) (n:=n) (b:=b) (o:=0) (c:=c) (cap:=.k c) (by show (if b<W.heap.size then V (b,0) else G)=_;rw[aF h.1]) h.2 (λm hm=>by cases hm;rfl) (λe he=>by cases he)
     rwa[cq] at this
    ·exact .undef _
   ·exact .undef _
 ·exact .undef _
def aJo (h:Ly (uB nb v)=B):v.oneCell'=M:=by
 cases v<;>first|rfl|(cases h;done)
def aLs:HR (gW P W) (xa W).get W:=by
 refine ⟨λid o ho=> ?_,λi j x y b c d hx hy h1 h2=> ?_⟩
 ·rw[JV] at ho;cases hb:W.heap[id]? with
  |none=>rw[hb] at ho;cases ho
  |some ob=>
   have dz:id<W.heap.size:=(oI.1 hb).1;refine ⟨id,0,aF dz,dz,?_⟩;rw[hb] at ho;cases ob with
   |cells cur e fz=>
    cases ho;refine ⟨cur,e,fz,hb,hb,λj x hx=> ?_⟩
    rw[oe] at hx;cases hv:cur.toList[j]? with
    |none=>rw[hv] at hx;cases hx
    |some v=>
     rw[hv] at hx;cases hx;exact ⟨v,by rw[cq];simpa using hv,λhu=>⟨aJo hu,ayA v⟩⟩
   |_=>cases ho
 ·have k1:(if i<W.heap.size then V (i,0) else G)=V (b,c):=h1
  have k2:(if j<W.heap.size then V (j,0) else G)=V (b,d):=h2
  split at k1
  ·split at k2
   ·cases k1;cases k2;rfl
   ·cases k2
  ·cases k1
variable {E:Env} {g:Gh} {w:World}
def aIH [hF:K7 E] {H':Hf} {nx':Nat} {v:SV} (sem:rE E B (.fn (.func k) [] []) aa H nx v H' nx') (EJ:aro E (.fn (.func k) [] [])=M) (hE:fR E g) (hr:HR g H w) (jx:∀x,nx<=x->g.O x=G) (oA:nD g us aa) (m:Nat):CallsIn Fence.wide m E.P k us.toArray w λe w'=>∃r g',e= .returned r/\VR g' r v/\HR g' H' w'/\Fr g H w g' H' w':=by
 obtain ⟨k',fi,ca,fn,e1,MW,TX⟩:=ayD EJ;cases e1;obtain ⟨d,EL,hd2⟩:=sem m g w (.func (.func k) #[] #[]) us hE hr jx (.fn .nil .nil) oA;have hd:d={target:=.fn (.func k) #[],args:= #[]++us.toArray}:=by
  rw[agw] at EL;cases EL;rfl
 subst hd;have abJ:∀(args:jP) (w:World),(invoke (.fn (.func k) #[]) args).run E.P w=(callFunc k (args++ #[])).run E.P w:=λ_ _=>rfl
 rcases y7 (hF.fn k fn MW).1 TX (#[]++us.toArray++ #[]) w with ⟨hc,_⟩|hc
 ·rcases hd2 with ⟨k',as',q1,q2⟩|⟨l,k',t',as',b',q1,_⟩|⟨r,w',q1,_⟩<;>(rw[abJ,hc] at q1;cases q1)
 ·rcases hd2 with ⟨k',as',q1,q2⟩|⟨l,k',t',as',b',q1,_⟩|⟨r,w',q1,_⟩
  ·rw[abJ,hc] at q1;cases q1;have e: #[]++us.toArray++ #[]=us.toArray:=by simp
   rw[e] at q2;refine CallsIn.mono q2 ?_;rintro e w' ⟨r,rfl,g',h1,h2,h3,_,_⟩;exact ⟨r,g',rfl,h1,h2,h3⟩
  ·rw[abJ,hc] at q1;cases q1
  ·rw[abJ,hc] at q1;cases q1
def arZ {E:Env} [K7 E] (hE:fR E (gW E.P W)) {b:Bool} (hc:iA E f [] xs (.bool b) []) (EJ:aro E (.fn (.func f) [] [])=M) (hx:dK (xa W).get lU aa xs) (oA:nD (gW E.P W) us aa):Calls E.P f us.toArray W λe W'=>e= .returned (.bool b)/\Below W.heap.size W W':=by
 have nO:∀x,W.heap.size<=x->(xa W).get x=G:=λx hx=>by
  rw[JV,Ht hx];rfl
 have aCc:Rel (xa W).get lU (λ_=> []) (λ_=>G) ⟨[],[]⟩ noT (xa W).get:=⟨λt x hx=>(by cases hx),λk b hb=>(by cases hb),λi o h=>⟨h,rfl⟩,λ_ _=>rfl⟩
 obtain ⟨F',g',φ',c',v,H',nx',sem,nN,hbd',hF,_,hv,hrel,_,_⟩:=hc.go aCc nO hx;have:=callsIn_wide.1 (aIH sem EJ hE aLs (λx hx=>aC (Nat.not_lt.2 hx)) oA 0)
 refine this.mono ?_;rintro e W' ⟨r,g2,rfl,k1,k2,k3⟩;cases hv;cases k1;refine ⟨rfl,k3.os,k3.tape,k3.output,k3.size,λx hx=> ?_⟩
 cases hm:(xa W).get x with
 |none=>
  refine k3.old x hx λ⟨id,o,c,z1,z2⟩=> ?_
  have z2:(if id<W.heap.size then V (id,0) else G)=V (x,c):=z2
  split at z2
  ·cases z2;have z1:(xa W).get x=V o:=z1;rw[hm] at z1;cases z1
  ·cases z2
 |some o=>
  obtain ⟨b',c',y1,y2,y3⟩:=k2.ob x o (hrel.fr x o (hF x o hm)).1;have y0:g2.O x=V (x,0):=k3.le.O x (x,0) (aF hx);rw[y0] at y1;cases y1;rw[JV] at hm;cases hb:W.heap[x]? with
  |none=>rw[hb] at hm;cases hm
  |some ob=>
   rw[hb] at hm;cases ob with
   |cells cur e fz=>
    cases hm;obtain ⟨j6,e',fz',w1,w2,_⟩:=y3;have w3:g2.wb x=W.heap[x]? :=congrFun k3.le.wb x;rw[w1,<-w2,w3,hb]
   |_=>cases hm
end
end Go.bL
namespace Go.bL
open Go.RowKit Go.Proofs.YtbnkhmoelnfjoaaGreat
variable {a vs:fM} {x xs:bc} {v:BL} {J:Type} {c s nb:Nat} {e t:ll} {ps:List MemPlace}
section
mutual
def Pz:AV->Nat
 | .lit (.str s)=>s.size+1
 | .sl _ _ _ _ rows=>AW rows+1
 |_=>1
def AW:bz->Nat
 | []=>0
 |r::rs=>nX r+AW rs
def nX:bc->Nat
 | []=>0
 |x::xs=>Pz x+nX xs
end
def Nq (xs ys:bc):nX (xs++ys)=nX xs+nX ys:=by
 induction xs with
 |nil=>simp[nX]
 |cons x xs ih=>simp[nX,ih];omega
def zL {J g7:Type} (R:J->g7->Prop):List J->List g7->Prop
 | [],[]=>True
 |a::l,b::m=>R a b/\zL R l m
 |_,_=>False
def kW (P:E'):Nat->ll->bc->Prop
 |0,_,_=>False
 |n+1,t,xs=>
  match P.underlying t with
  |some .bool=>∃b,xs= [.bool b]
  |some (.int k)=>∃i,xs= [.int k i]/\(Lit.int k i).wf=M
  |some .string=>∃s:Z,xs= [.str s]/\s.size<=maxLen
  |some (.slice e)=>∃rows,xs= [.sy e (P.cellsOf e) rows.length rows]/\∀r∈rows,kW P n e r
  |some (.struct fs)=>∃sV:bz,xs=sV.flatten/\zL (λf ys=>kW P n f.type ys) fs.toList sV
  |some (.array m e)=>∃sV:bz,xs=sV.flatten/\sV.length=m/\∀ys∈sV,kW P n e ys
  |_=>False
def yo (P:E') (S:ll->Bool) (total:Nat):Nat->List Field->Bool
 |off,[]=>off==total
 |off,f::fs=>f.offset==off&&S f.type&&yo P S total (off+P.cellsOf f.type) fs
def L4 (P:E') (S:ll->Bool) (t:ll):Bool:=
 match P.underlying t with
 |some .bool|some (.int _)|some .string=>M
 |some (.struct fs)=>yo P S (P.cellsOf t) 0 fs.toList
 |some (.array n e)=>P.cellsOf t==n*P.cellsOf e&&S e
 |some (.slice e)=>S e&&U (0<P.cellsOf e)
 |_=>B
def CR (W:World) (cs:fM) (xs:bc):Prop:=dK (xa W).get lU (cs.map (uB W.heap.size)) xs/\∀v∈cs,Ly (uB W.heap.size v)=B
section
variable {H:Type} {enc:ll×BL->H} {P:E'} {S:ll->Bool} {w:World} {base:Nat} {spare:Nat->Bool} {held:Bool}
def CR.nil:CR w [] []:=⟨.nil,λv hv=>by cases hv⟩
def CR.append {b:fM} {y:bc} (h:CR w a x) (k:CR w b y):CR w (a++b) (x++y):=⟨by rw[kh];exact h.1.append k.1,λv hv=>(eV.1 hv).elim (h.2 v) (k.2 v)⟩
def CR.one {x:AV} (h:VA (xa w).get lU (uB w.heap.size v) x) (hu:Ly (uB w.heap.size v)=B):CR w [v] [x]:=⟨.cons h .nil,λu uD=>by rw[gg.1 uD];exact hu⟩
def CR.length (h:CR w a x):a.length=x.length:=by have:=h.1.length;simpa using this
def BP {J g7:Type} {f:J->A g7}:∀{l:List J} {r:List g7},l.mapM f=V r->zL (λa b=>f a=V b) l r
 | [],r,h=>by simp at h;subst h;trivial
 |a::l,r,h=>by
  rw[WW] at h;cases ha:f a with
  |none=>simp[ha] at h
  |some b=>
   cases hl:l.mapM f with
   |none=>simp[ha,hl] at h
   |some m=>
    simp[ha,hl] at h;subst h;exact ⟨ha,BP hl⟩
def Q0 {J g7:Type} {R:J->g7->Prop}:∀{l:List J} {m:List g7},zL R l m->l.length=m.length
 | [],[],_=>rfl
 |_::_,_::_,h=>by simp[Q0 h.2]
 | [],_::_,h=>h.elim
 |_::_,[],h=>h.elim
def R2 {J g7:Type} {R:J->g7->Prop}:∀{l:List J} {m:List g7},zL R l m->∀{i:Nat} {b:g7},m[i]? =V b->∃a,l[i]? =V a/\R a b
 | [],[],_,_,_,h=>by simp at h
 |a::l,b::m,h,i,x,hx=>by
  cases i with
  |zero=>simp at hx;subst hx;exact ⟨a,rfl,h.1⟩
  |succ i=>simp at hx;obtain ⟨y,h1,h2⟩:=R2 h.2 hx;exact ⟨y,by simpa using h1,h2⟩
 | [],_::_,h,_,_,_=>h.elim
 |_::_,[],h,_,_,_=>h.elim
def aDh {g7:Type} {R:J->g7->Prop} {l:List J} {m:List g7} (h:zL R l m) {b:g7} (hb:b∈m):∃a,R a b:=by
 obtain ⟨i,hi⟩:=List.mem_iff_getElem?.1 hb;obtain ⟨a,_,ha⟩:=R2 h hi;exact ⟨a,ha⟩
def Lt (n:Nat)
  (ih:∀t cs x,S t=M->aa9 enc P w base spare held n t cs=V x->∃xs,CR w cs xs/\kW P n t xs/\nX xs<=Rows.uptoBulk x.1) (total:Nat):
  ∀(fs:List Field) (off:Nat) (cs:fM) (ys:List (DataW H×List MemPlace)),yo P S total off fs=M->cs.length=total->
   zL (λf y=>aa9 enc P w base spare held n f.type ((cs.drop f.offset).take (P.cellsOf f.type))=V y) fs ys->off<=total->
   ∃sV:bz,CR w (cs.drop off) sV.flatten/\zL (λf zs=>kW P n f.type zs) fs sV/\nX sV.flatten<=Rows.uptoBulkAll (ys.map (·.1))
 | [],off,cs,ys,ht,hl,h2,_=>by
  simp[yo] at ht;refine ⟨[],?_,trivial,by simp[nX]⟩
  rw[uq (by omega)]
  exact .nil
 |f::fs,off,cs,[],_,_,h2,_=>h2.elim
 |f::fs,off,cs,y::ys,ht,hl,h2,ho=>by
  simp only[yo,bJ,sR] at ht;obtain ⟨⟨ht0,htt⟩,ht1⟩:=ht;obtain ⟨h0,h1⟩:=h2;obtain ⟨xs,c1,c2,c3⟩:=ih _ _ _ htt h0;have hle:∀(fs:List Field) (o:Nat),yo P S total o fs=M->o<=total:=by
   intro fs;induction fs with
   |nil=>intro o h;simp[yo] at h;omega
   |cons g gs ihg=>intro o h;simp only[yo,bJ] at h;have:=ihg _ h.2;omega
  have hle':=hle fs _ ht1;obtain ⟨sV,d1,d2,d3⟩:=Lt n ih total fs (off+P.cellsOf f.type) cs ys ht1 hl h1 hle';refine ⟨xs::sV,?_,⟨c2,d2⟩,?_⟩
  ·rw[ht0] at c1;have:cs.drop off=(cs.drop off).take (P.cellsOf f.type)++cs.drop (off+P.cellsOf f.type):=by
    rw[<-sS];exact (yh _ _).symm
   rw[this];exact c1.append d1
  ·simp only[qm,ki,Rows.uptoBulkAll,Nq];omega
def Nt (n:Nat) (e:ll) (he:S e=M)
  (ih:∀t cs x,S t=M->aa9 enc P w base spare held n t cs=V x->∃xs,CR w cs xs/\kW P n t xs/\nX xs<=Rows.uptoBulk x.1) (cs:fM):
  ∀(m k:Nat) (ys:List (DataW H×List MemPlace)),cs.length=(k+m)*P.cellsOf e->
   zL (λi y=>aa9 enc P w base spare held n e ((cs.drop (i*P.cellsOf e)).take (P.cellsOf e))=V y) (List.range' k m) ys->
   ∃sV:bz,CR w (cs.drop (k*P.cellsOf e)) sV.flatten/\sV.length=m/\(∀zs∈sV,kW P n e zs)/\nX sV.flatten<=Rows.uptoBulkAll (ys.map (·.1))
 |0,k,ys,hl,h2=>by
  refine ⟨[],?_,rfl,by simp,by simp[nX]⟩
  rw[uq (by simp at hl;omega)]
  exact .nil
 |m+1,k,[],_,h2=>by simp[Bu,zL] at h2
 |m+1,k,y::ys,hl,h2=>by
  rw[Bu] at h2;obtain ⟨h0,h1⟩:=h2;obtain ⟨xs,c1,c2,c3⟩:=ih _ _ _ he h0;obtain ⟨sV,d1,d2,d3,d4⟩:=Nt n e he ih cs m (k+1) ys (by rw[hl];congr 1;omega) h1
  refine ⟨xs::sV,?_,by simp[d2],?_,?_⟩
  ·have:cs.drop (k*P.cellsOf e)=(cs.drop (k*P.cellsOf e)).take (P.cellsOf e)++cs.drop ((k+1)*P.cellsOf e):=by
    rw[fS,sQ,<-sS];exact (yh _ _).symm
   rw[this];exact c1.append d1
  ·intro zs hz;rcases da.1 hz with rfl|hz
   ·exact c2
   ·exact d3 zs hz
  ·simp only[qm,ki,Rows.uptoBulkAll,Nq];omega
def aJR (a:Addr) (k j:Nat) (h:a.spot=G\/0<k):(a.add k).add j=⟨a.block,a.off+k+j,G⟩:=by
 obtain ⟨b,o,s⟩:=a;by_cases hk:k=0
 ·subst hk;simp at h;subst h;by_cases hj:j=0<;>simp[Addr.add,hj]
 ·by_cases hj:j=0<;>simp[Addr.add,hk,hj]
def Mf (n:Nat) (e:ll) (he:S e=M) (a:Addr)
  (ih:∀t cs x,S t=M->aa9 enc P w base spare held n t cs=V x->∃xs,CR w cs xs/\kW P n t xs/\nX xs<=Rows.uptoBulk x.1) (hs:0<P.cellsOf e):
  ∀(m k:Nat) (ys:List (DataW H×List MemPlace)),
   zL (λi y=>((w.cells? base (a.add (i*P.cellsOf e)) (P.cellsOf e)).bind (aa9 enc P w base spare held n e))=V y) (List.range' k m) ys->
   ∃(rows:bz) (vs:fM),CR w vs rows.flatten/\vs.length=m*P.cellsOf e/\(∀j v,vs[j]? =V v->w.cell? ⟨a.block,a.off+k*P.cellsOf e+j,G⟩=V v)/\rows.length=m/\(∀zs∈rows,kW P n e zs/\zs.length=P.cellsOf e)/\AW rows<=Rows.uptoBulkAll (ys.map (·.1))/\(k=0->0<m->a.spot=G)
 |0,k,ys,h2=>⟨[],[],.nil,by simp,λj v hv=>(by simp at hv),rfl,by simp,by simp[AW],by simp⟩
 |m+1,k,[],h2=>by simp[Bu,zL] at h2
 |m+1,k,y::ys,h2=>by
  rw[Bu] at h2;obtain ⟨h0,h1⟩:=h2;obtain ⟨rows,vs,d1,dl,dc,d2,d3,d4,d5⟩:=Mf n e he a ih hs m (k+1) ys h1;cases hc:w.cells? base (a.add (k*P.cellsOf e)) (P.cellsOf e) with
  |none=>simp[hc] at h0
  |some cs=>
   simp only[hc,ak] at h0;obtain ⟨xs,c1,c2,c3⟩:=ih _ _ _ he h0;unfold World.cells? at hc;split at hc
   ·have im:=BP hc;have hlen:cs.length=P.cellsOf e:=by have:=Q0 im;simpa using this.symm
    have pb:∀j v,cs[j]? =V v->w.cell? ((a.add (k*P.cellsOf e)).add j)=V v:=by
     intro j v hj;obtain ⟨i,hi,hv⟩:=R2 im hj;have qD:i=j:=by
      have:=(bK.1 hi);obtain ⟨q1,q2⟩:=this;simpa using q2.symm
     rw[<-qD];exact hv
    have aFK:a.spot=G\/0<k*P.cellsOf e:=by
     by_cases hk:0<k*P.cellsOf e
     ·exact .inr hk
     ·have hk0:k*P.cellsOf e=0:=by omega
      have h00:=pb 0 (cs[0]'(by omega)) (by simp)
      rw[hk0] at h00;simp only[Addr.add,ax] at h00;unfold World.cell? at h00;split at h00
      ·split at h00
       ·simp at h00
       ·rename_i q;left;simpa using q
      ·simp at h00
    refine ⟨xs::rows,cs++vs,?_,?_,λj v hj=> ?_,by simp[d2],?_,?_,?_⟩
    ·rw[qm];exact c1.append d1
    ·rw[gf,hlen,dl,fS];omega
    ·by_cases gy:j<cs.length
     ·rw[pE gy] at hj;have h:=pb j v hj;rw[aJR a _ j aFK] at h;exact h
     ·rw[nY (by omega)] at hj
      have h:=dc _ v hj;rw[hlen] at h;rw[hlen] at gy;rw[fS,sQ] at h;rw[show a.off+k*P.cellsOf e+j=a.off+(k*P.cellsOf e+P.cellsOf e)+(j-P.cellsOf e) by omega]
      exact h
    ·intro zs hz;rcases da.1 hz with rfl|hz
     ·exact ⟨c2,by rw[<-c1.length,hlen]⟩
     ·exact d3 zs hz
    ·simp only[AW,ki,Rows.uptoBulkAll];omega
    ·intro hk0 _;rcases aFK with h|h
     ·exact h
     ·subst hk0;simp at h
   ·simp at hc
def aAM {b o n:Nat} {rows:bz} (h:CR w vs rows.flatten) (hl:vs.length=n*s) (hc:∀j v,vs[j]? =V v->w.cell? ⟨b,o+j,G⟩=V v) (hn:rows.length=n) (hn0:0<n) (hs:0<s) (hu:∀r∈rows,r.length=s) (jH:n<=c):
  VA (xa w).get lU (uB w.heap.size (.slice (V ⟨b,o,G⟩) n c)) (.sy e s rows.length rows)/\Ly (uB w.heap.size (.slice (V ⟨b,o,G⟩) n c))=B:=by
 have G5:0<n*s:=Nat.mul_pos hn0 hs;have hb:∃cur et fz,w.heap[b]? =V (.cells cur et fz):=by
  have h0:=hc 0 (vs[0]'(by omega)) (by simp)
  unfold World.cell? at h0;split at h0
  ·rename_i cur et fz q;exact ⟨cur,et,fz,q⟩
  ·simp at h0
 obtain ⟨cur,et,fz,hb⟩:=hb;have dz:b<w.heap.size:=(oI.1 hb).1;have G6:∀j v,vs[j]? =V v->cur[o+j]? =V v:=λj v hj=>by
  have:=hc j v hj;unfold World.cell? at this;rw[hb] at this;simpa using this
 have hle:o+n*s<=cur.size:=by
  have h0:=G6 (n*s-1) (vs[n*s-1]'(by omega)) (by simp)
  have:=(oI.1 h0).1;omega
 have heq:(cur.toList.drop o).take (n*s)=vs:=by
  apply wu;intro j;rw[fw];split
  ·rename_i hj;rw[fh];have:=G6 j (vs[j]'(by omega)) (by simp)
   rw[mC,this];simp
  ·rename_i hj;rw[oW (by omega)]
 have himg:uB w.heap.size (.slice (V ⟨b,o,G⟩) n c)= .sl b o n (.k c):=by
  show (if n=0 then _ else if b<w.heap.size/\n<=c then SV.sl b o n (.k c) else .undef)=_
  rw[aC (by omega),aF ⟨dz,jH⟩]
 have hwin:((cur.toList.map (uB w.heap.size)).drop o).take (n*s)=vs.map (uB w.heap.size):=by
  rw[<-Bz,<-vD,heq]
 have hF:jy ((xa w).get b) o (n*s)=V (0,cur.toList.map (uB w.heap.size)):=by
  rw[JV,hb];show aS (xv (((cur.toList.map (uB w.heap.size)).drop o).take (n*s))) (V (0,cur.toList.map (uB w.heap.size))) G=_;rw[hwin,cI,aF (Ni λj x hx=> ?_)]
  rw[oe] at hx;cases hv:vs[j]? with
  |none=>rw[hv] at hx;cases hx
  |some v=>rw[hv] at hx;cases hx;exact h.2 v (bU hv)
 rw[himg];subst hn;exact ⟨.sl rfl hF jH ⟨λh=>(by cases h),λh=>(by cases h)⟩ hu (by simpa using hle) (by rw[hwin];exact h.1),rfl⟩
def MJ {a:A Addr} {F:Hf}:VA F lU (uB nb (.slice a 0 c)) (.sy e s 0 [])/\Ly (uB nb (.slice a 0 c))=B:=by
 have h:uB nb (.slice a 0 c)=if a=G/\c=0 then SV.cr else .sle:=by simp[uB]
 rw[h];split
 ·exact ⟨.nil _ _ _,rfl⟩
 ·exact ⟨.sle _ _,rfl⟩
def SM (hP:∀t,S t=M->L4 P S t=M):∀(n:Nat) (t:ll) (cs:fM) (x:DataW H×List MemPlace),S t=M->aa9 enc P w base spare held n t cs=V x->
  ∃xs,CR w cs xs/\kW P n t xs/\nX xs<=Rows.uptoBulk x.1
 |0,_,_,_,_,h=>by simp[aa9] at h
 |n+1,t,cs,x,dz,h=>by
  have ih:=SM hP n;have sL:=hP t dz;unfold aa9 at h;unfold L4 at sL;split at h
  ·rename_i b hu;simp at h;subst h;exact ⟨[.bool b],.one (.lit (.bool b)) rfl,by simp[kW,hu],by simp[nX,Pz,Rows.uptoBulk]⟩
  ·rename_i k k' i hu;split at h
   ·rename_i hc;obtain ⟨rfl,hw⟩:=hc;simp at h;subst h;exact ⟨[.int k' i],.one (.lit (.int _ (.lit _))) rfl,by simp[kW,hu,hw],by simp[nX,Pz,Rows.uptoBulk]⟩
   ·simp at h
  ·rename_i k k' i hu;rw[hu] at sL;cases sL
  ·rename_i s hu;split at h
   ·rename_i hc;simp at h;subst h;exact ⟨[.str s],.one (.lit (.str _)) rfl,by simp[kW,hu,hc],by simp[nX,Pz,Rows.uptoBulk]⟩
   ·simp at h
  ·rename_i hu;rw[hu] at sL;cases sL
  ·rename_i e a hu;rw[hu] at sL;cases sL
  ·rename_i e hu;simp at h;subst h;exact ⟨[.sy e (P.cellsOf e) 0 []],.one (MJ (a:=G) (c:=0)).1 (MJ (F:=λ_=>G) (e:=0) (s:=0)).2,by simp only[kW,hu];exact ⟨[],rfl,λr hr=>by cases hr⟩,by simp[nX,Pz,AW,Rows.uptoBulk]⟩
  ·rename_i e a len cap hu;simp only at h;split at h
   ·rename_i hc;cases hr:(aa3 len).mapM λi=>(w.cells? base (a.add (i*P.cellsOf e)) (P.cellsOf e)).bind (aa9 enc P w base spare held n e) with
    |none=>simp[hr] at h
    |some ys=>
     simp only[hr,ak,wD] at h;obtain ⟨rest,_,rfl⟩:=h;simp only[hu,bJ,j2] at sL;obtain ⟨he,hs⟩:=sL;have h2:=BP hr;rw[LL] at h2;obtain ⟨rows,vs,d1,dl,dc,d2,d3,d4,d5⟩:=Mf n e he a ih hs len 0 ys h2;have key:VA (xa w).get lU (uB w.heap.size (.slice (V a) len cap)) (.sy e (P.cellsOf e) rows.length rows)/\Ly (uB w.heap.size (.slice (V a) len cap))=B:=by
      by_cases zj:len=0
      ·subst zj;rw[uP d2];exact MJ
      ·have hsp:=d5 rfl (by omega)
       obtain ⟨ab,ao,asp⟩:=a;simp at hsp;subst hsp;exact aAM d1 dl (λj v hj=>by have:=dc j v hj;simpa using this) d2 (by omega) hs (λr hr=>(d3 r hr).2) hc.2.1
     refine ⟨[.sy e (P.cellsOf e) rows.length rows],.one key.1 key.2,?_,?_⟩
     ·simp only[kW,hu];exact ⟨rows,rfl,λr hr=>(d3 r hr).1⟩
     ·simp only[nX,Pz,Rows.uptoBulk];omega
   ·simp at h
  ·rename_i fs hu;split at h
   ·rename_i hl;simp only[wD] at h;obtain ⟨ys,hm,rfl⟩:=h;simp only[hu] at sL;obtain ⟨sV,d1,d2,d3⟩:=Lt n ih _ fs.toList 0 _ ys sL hl (BP hm) (ru _);exact ⟨sV.flatten,by simpa using d1,by simp only[kW,hu];exact ⟨sV,rfl,d2⟩,by simp only[Rows.uptoBulk];omega⟩
   ·simp at h
  ·rename_i m e hu;split at h
   ·rename_i hl;simp only[wD] at h;obtain ⟨ys,hm,rfl⟩:=h;simp only[hu,sR,bJ] at sL;have h2:=BP hm;rw[LL] at h2;obtain ⟨sV,d1,d2,d3,d4⟩:=Nt n e sL.2 ih _ m 0 ys (by rw[hl,sL.1];simp) h2
    exact ⟨sV.flatten,by simpa using d1,by simp only[kW,hu];exact ⟨sV,rfl,d2,d3⟩,by simp only[Rows.uptoBulk];omega⟩
   ·simp at h
  all_goals first
   |(rename_i hu;rw[hu] at sL;cases sL;done)
   |(cases h;done)
mutual
def T5:AV->Prop
 | .lit (.int k (.lit n))=>(Lit.int k n).wf=M
 | .lit (.str s)=>s.size<=maxLen
 | .sl _ _ _ _ rows=>ES rows
 |_=>True
def ES:bz->Prop
 | []=>True
 |r::rs=>zm r/\ES rs
def zm:bc->Prop
 | []=>True
 |x::xs=>T5 x/\zm xs
end
def ahC {ys:bc} (h:zm xs) (k:zm ys):zm (xs++ys):=by
 induction xs with
 |nil=>exact k
 |cons x xs ih=>exact ⟨h.1,ih h.2⟩
def alO {rows:bz} (h:∀r∈rows,zm r):ES rows:=by
 induction rows with
 |nil=>trivial
 |cons r rs ih=>exact ⟨h r (by simp),ih λx hx=>h x (by simp[hx])⟩
def LA {rows:bz} (h:∀r∈rows,zm r):zm rows.flatten:=by
 induction rows with
 |nil=>trivial
 |cons r rs ih=>exact ahC (h r (by simp)) (ih λx hx=>h x (by simp[hx]))
def adX:∀(n:Nat) (t:ll) (xs:bc),kW P n t xs->zm xs
 |0,_,_,h=>h.elim
 |n+1,t,xs,h=>by
  have ih:=adX n;unfold kW at h;split at h
  ·obtain ⟨b,rfl⟩:=h;exact ⟨trivial,trivial⟩
  ·obtain ⟨b,rfl,hw⟩:=h;exact ⟨hw,trivial⟩
  ·obtain ⟨b,rfl,hw⟩:=h;exact ⟨hw,trivial⟩
  ·obtain ⟨rows,rfl,hr⟩:=h;exact ⟨alO λr h=>ih _ _ (hr r h),trivial⟩
  ·obtain ⟨sV,rfl,h2⟩:=h;exact LA λr hr=>by obtain ⟨f,hf⟩:=aDh h2 hr;exact ih _ _ hf
  ·obtain ⟨sV,rfl,_,h2⟩:=h;exact LA λr hr=>ih _ _ (h2 r hr)
  ·exact h.elim
def aII {en:J->bc} {rows:bz} (h:∀r∈rows,∃x,r=en x):∃ys:List J,rows=ys.map en:=by
 induction rows with
 |nil=>exact ⟨[],rfl⟩
 |cons r rs ih=>
  obtain ⟨y,rfl⟩:=h r (by simp)
  obtain ⟨ys,rfl⟩:=ih λx hx=>h x (by simp[hx])
  exact ⟨y::ys,rfl⟩
def AR (W:World) (P:E') (v:BL) (x:AV):Prop:=VA (xa W).get lU (aha W.heap.size v) x/\VR (gW P W) v (aha W.heap.size v)
def aJO (hP:∀t,S t=M->L4 P S t=M) (ht:S t=M) {d:DataW H} (h:DataW.Trod enc P w base spare held t v d ps) (hv:v.cells.toList= [v]):
  ∃x n,AR w P v x/\kW P n t [x]/\nX [x]<=Rows.uptoBulk d:=by
 obtain ⟨n,hn⟩:=h;obtain ⟨xs,h1,h2,h3⟩:=SM hP n t _ _ ht hn;rw[hv] at h1;obtain ⟨h1,hu⟩:=h1;cases h1 with
 |cons hd ht=>
  cases ht;have e:aha w.heap.size v=uB w.heap.size v:=by
   cases v<;>first|rfl|(have:=hu _ (gg.2 rfl);cases this;done)
  exact ⟨_,n,⟨by rw[e];exact hd,by rw[e];exact ayA v⟩,h2,h3⟩
end
end
end Go.bL
namespace Go.bL
open Go.RowKit Go.ChangeShapes Go.Proofs.YtbnkhmoelnfjoaaGreat
variable {E:Env} {f:FuncId} {fn:Func} {s:ChangeSpec} {tb t:ll} {W:World} {before:List MemPlace} {base:Nat} {v:BL}
section
section
variable {H:Type} {enc:ll×BL->H} {P:E'}
def Ls (hl:laidOutB P=M) {W W':World} {sp:Nat->Bool}:∀{ts:List ll} {vs:fM} {ds:List (DataW H)} {ps:List MemPlace},
  (∀t∈ts,P.readableRec t=M/\t<P.types.size)->DataW.TrodAll enc P W 0 (λ_=>M) M ts vs ds ps->Below W.heap.size W W'->(∀p∈ps,p.block<W.heap.size)->(∀p∈ps,sp p.block=M)->
  DataW.TrodAll enc P W' 0 sp M ts vs ds ps
 | [],_,_,_,_,h,_,_,_=>by
  obtain ⟨rfl,rfl,rfl⟩:=trodAll_nil h;exact rfl
 |t::ts,_,_,_,ht,h,hb,dz,hsp=>by
  obtain ⟨v,vs,d,ds,p,q,rfl,rfl,rfl,h1,h2⟩:=trodAll_cons h;refine ⟨p,q,?_,Ls hl (λt h=>ht t (by simp[h])) h2 hb (λx hx=>dz x (by simp[hx])) (λx hx=>hsp x (by simp[hx])),rfl⟩
  exact WideElems.Trod_stays hl (ht t (by simp)).1 (ht t (by simp)).2 h1 (λx hx=>hb.same (dz x (by simp[hx]))) (λx hx=>hsp x (by simp[hx]))
def alk {W:World}:∀{vs:fM} {xs:bc},zL (AR W P) vs xs->dK (xa W).get lU (vs.map (aha W.heap.size)) xs/\nD (gW P W) vs (vs.map (aha W.heap.size))
 | [],[],_=>⟨.nil,.nil⟩
 |v::vs,x::xs,h=>⟨.cons h.1.1 (alk h.2).1,.cons h.1.2 (alk h.2).2⟩
 | [],_::_,h=>h.elim
 |_::_,[],h=>h.elim
def law_contract [K7 E] (hE:∀W,fR E (gW E.P W)) (EJ:aro E (.fn (.func f) [] [])=M) (hl:laidOutB E.P=M) (mm:(fn.params.toList.all λt=>E.P.readableRec t&&U (t<E.P.types.size))=M) (RH:fn.resultTypes= #[tb]) (htb:E.P.underlying tb=V .bool) (hv:s.vars= []) (MW:∀ds:List (DataW H),ds.length=fn.params.size->s.fn H ds={results:= [.lit (.bool M)],args:=ds}) {args:jP} {ds gs:List (DataW H)} (hW:DataW.Whole enc E.P fn.params.toList s.vars B W args.toList ds gs before) (arj:∃xs:bc,iA E f [] xs (.bool M) []/\zL (AR W E.P) args.toList xs):
  Calls E.P f args W λe W'=>∃v,e= .returned v/\s.post enc E.P fn B M B B W args v W':=by
 obtain ⟨xs,hs,h2⟩:=arj;obtain ⟨k1,k2⟩:=alk h2;have hc:=arZ (hE W) hs EJ k1 k2;rw[Array.toArray_toList] at hc;refine hc.mono ?_;rintro e W' ⟨rfl,hb⟩;refine ⟨_,rfl,?_⟩;have hW':=hW;obtain ⟨p,q,hA,hV,rfl,hfz,F0⟩:=hW;rw[hv] at hV;obtain ⟨rfl,rfl⟩:=trodVars_none hV;have sD:ds.length=fn.params.size:=by
  have:∀{ts:List ll} {vs:fM} {ds:List (DataW H)} {ps:List MemPlace},DataW.TrodAll enc E.P W 0 (λ_=>M) M ts vs ds ps->ds.length=ts.length:=by
   intro ts;induction ts with
   |nil=>intro vs ds ps h;obtain ⟨rfl,rfl,rfl⟩:=trodAll_nil h;rfl
   |cons t ts ih=>intro vs ds ps h;obtain ⟨v,vs,d,ds,p,q,rfl,rfl,rfl,h1,h2⟩:=trodAll_cons h;simp[ih h2]
  simpa using this hA
 have hf:=MW (ds++ []) (by simpa using sD)
 have dz:∀x∈p,x.block<W.heap.size:=λx hx=>hW'.lt x (by simp[hx])
 have htt:∀t∈fn.params.toList,E.P.readableRec t=M/\t<E.P.types.size:=λt ht=>by
  have:=j1.1 mm t ht;simpa using this
 have hold:∀x∈p,(λb=>U (b<W.heap.size)) x.block=M:=λx hx=>by simpa using dz x hx
 refine ⟨ds,[],p++ [],[],p,[],hW',?_,?_,?_,hb.frame _,λh=>by cases h⟩
 ·rw[hf,RH];exact trodAll_cons_mk (shut_bool htb _) trodAll_mk0
 ·rw[hf];simp only[rG];exact Ls hl htt hA hb dz hold
 ·rw[hf,hv];exact rfl
def alE {e:ll} (hu:P.underlying t=V (.slice e)) (h:Value.okWide P W .any base t v):v.cells.toList= [v]:=by
 simp only[Value.okWide,hu,Cell.okWide,Cell.ok] at h;split at h<;>first|rfl|(simp_all;done)|(exact h.elim)
end
end
end Go.bL
end
