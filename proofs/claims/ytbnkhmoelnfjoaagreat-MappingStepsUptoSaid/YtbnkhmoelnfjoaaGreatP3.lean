/- Part. -/
import Derived.Test.YtbnkhmoelnfjoaaGreatP2
import Derived.KernelRfl
import Derived.Below
import Derived.Carry
import Derived.OpenShut
import Derived.JoinedCond
import Derived.Test.YtbnkhmoelnfjoaaGreatRows
import Derived.WalkKit
import Derived.ProofKit
import Derived.Deep.DeepHandedRow
import Derived.Test.YtbnkhmoelnfjoaaGreatP1
import Derived.Test.YtbnkhmoelnfjoaaGreatProg
set_option linter.all false
set_option maxRecDepth 1000000
open Option renaming some->V,none->G
open Bool renaming true->M,false->I
open Nat renaming beq->ku,ble->kQ,add->wW,mul->B',succ->LJ,mod->aa3,div->U'
open Go renaming TypeId->pJ,Code->P',Oper->S',Value->C',Program->J5,Operand->Ew,ResultVar->ab2
open Decidable renaming decide->iL
open Go.DataW renaming trod->ab0
open List renaming replicate->V',range->aa1,length->aa9
open Go.ChangeMaps renaming setBlock->ac7
open Go.Sem renaming run_bind->D',run_pure->I'
open Array renaming replicate->ac6
open Go.Result renaming andThen_ok->E'
noncomputable section
namespace Go.bM
variable {k K sz e e2 zm n K2 f j t:Nat} {w:LS} {L L0:Ow} {bs:cT} {v:SV} {x y:AV} {ts:bJ} {cs:List (Nat×Nat)} {z:Bool} {l l2:ee} {vs:bc} {Q Q':bz} {R:bb} {o:fk} {sh:Sh} {J:Type} {ob:Prop->cH} {q:List cH×LS}
section
variable {F F':Hf} {g g':Gb} {Y:Nat->Ow} {c:Nat->cD} {s s':LS} {T:Tf} {H:Hf} {E:Env} {pn:Nat->Bool}
def cvX (w b:Bx):Bx:=
 match w,cvB w b with
 | .bY _ _ _ l' _ o',.bY z e s l Q o=>.bY z e s (aT (aeL l l' Q) l' l) Q (match o' with| []=> []|_=>o)
 |_,b=>b
def agS {w b:Bx} (q:eT F g k b L):eT F g k (cvX w b) L:=by
 have q:=aKi (w:=w) q;unfold cvX;generalize cvB w b=b' at q;split
 ·rename_i l' _ o' z e s l Q o;rw[cE];cases q with
  |nil hb=>cases o'<;>exact .nil hb
  |bY hb hz hu hc q1 ho=>
   refine .bY hb hz hu hc ?_ ?_
   ·split
    ·rename_i h;exact alQ h q1
    ·exact q1
   ·split
    ·exact λp hp=>by cases hp
    ·exact ho
 ·exact q
def cvT (w:fk) (ts:fk):fk:=w.map λp=>(p.1,cv p.2 ((lk p.1 ts).getD .undef))
def MK (bs:cT):cT->Z cT
 | []=>V []
 |p::l=>cC (lk p.1 bs) (MK bs l) λb r=>V ((p.1,cvX p.2 b)::r)
def ana {bs:cT} {k:Nat} {b':Bx}:∀{w r:cT},MK bs w=V r->lk k r=V b'->∃w b,lk k bs=V b/\b'=cvX w b
 | [],r,h,hk=>by cases h;cases hk
 |p::l,r,h,hk=>by
  obtain ⟨b,r',h1,h2,h⟩:=bU h;cases h;rw[dy] at hk;split at hk
  ·rename_i e;cases hk;exact ⟨p.2,b,e ▸ h1,rfl⟩
  ·exact ana h2 hk
def axO {ts:fk} {t:Nat} {y:AV}:∀{w:fk},lk t (cvT w ts)=V y->∃w,y=cv w ((lk t ts).getD .undef)
 | [],h=>by cases h
 |p::l,h=>by
  rw[show cvT (p::l) ts=(p.1,cv p.2 ((lk p.1 ts).getD .undef))::cvT l ts from rfl,dy] at h;split at h
  ·rename_i e;cases h;exact ⟨p.2,by rw[e]⟩
  ·exact axO h
def Re (w:AV):cv w .undef= .undef:=by cases w<;>rfl
def Rel.cv (r:Rel F g Y c s T H) (h:MK s.bs w.bs=V bs):Rel F g Y c ⟨cvT w.ts s.ts,bs⟩ T H:=
 {r with
  tm:=λt y hy hn=>by
   obtain ⟨w,rfl⟩:=axO hy;cases hl:lk t s.ts with
   |none=>rw[hl] at hn;exact absurd (Re w) hn
   |some x=>
    rw[hl] at hn;obtain ⟨v,v1,v2⟩:=r.tm t x hl λe=>hn (by rw[e];exact Re w)
    exact ⟨v,v1,FD v2⟩
  bx:=λk b hk=>by
   obtain ⟨w,b0,h0,rfl⟩:=ana h hk;obtain ⟨q,q2⟩:=r.bx k b0 h0;exact ⟨agS q,q2⟩}
def kn.cv (h:MK s.bs w.bs=V bs):kn pn s ⟨cvT w.ts s.ts,bs⟩:=.mk λr=>⟨_,_,_,_,.refl _,λ_ _=>rfl,r.cv h⟩
def BV (K K' k:Nat):Nat:=aT (ku k K) K' k
def alV (K K' k:Nat):BV K K' k=if k=K then K' else k:=by
 unfold BV;rw[cE];by_cases h:k=K
 ·rw[aG h,aG ((beq_iff _ _).2 h)]
 ·rw[aC h,aC (λe=>h ((beq_iff _ _).1 e))]
def LS.iR (s:LS) (K K':Nat):LS:=⟨s.ts.map λp=>(p.1,Gm (BV K K') p.2),s.bs.map λp=>(BV K K' p.1,p.2.iR (BV K K'))⟩
def avY {K K' k:Nat} {b':Bx}:∀{l:cT},lk K' l=G->lk k (l.map λp=>(BV K K' p.1,p.2.iR (BV K K')))=V b'->∃k0 b0,lk k0 l=V b0/\BV K K' k0=k/\k0≠K'/\b'=b0.iR (BV K K')
 |(j,x)::l,hn,h=>by
  rw[dy] at hn;rw[jX,dy] at h;split at hn
  ·cases hn
  ·rename_i hj;split at h
   ·rename_i e;cases h;exact ⟨j,x,by rw[dy,aG rfl],e.symm,λc=>hj c.symm,rfl⟩
   ·rename_i e;obtain ⟨k0,b0,a1,a2,a3,a4⟩:=avY hn h;exact ⟨k0,b0,by rw[dy,aC (λc=>e (by rw[<-a2,c])),a1],a2,a3,a4⟩
def kn.iR {K':Nat} (hk:s.free K') (Bt:pn K'=I) (hn:lk K' s.bs=G):kn pn s (s.iR K K'):=.mk λ{F g Y c T H} r=>by
 let g2:Gb:=λk=>if k=K' then g K else g k
 have one:∀k,k≠K'->g2 (BV K K' k)=g k:=λk jO=>by
  rw[alV];by_cases e:k=K
  ·subst e;rw[aG rfl];exact aG rfl
  ·rw[aC e];exact aC jO
 let φ2:Nat->Ow:=λk=>if k=K' then Y K else Y k
 let c2:Nat->cD:=λi=>(c i).map (BV K K')
 refine ⟨F,g2,φ2,c2,.refl _,λk jO=>aC λe=>(by rw[e,Bt] at jO;cases jO),⟨λt y hy cQ=> ?_,λk b hb=> ?_,λi o hi=>⟨(r.fr i o hi).1,by show (c i).map _=G;rw[(r.fr i o hi).2];rfl⟩,λi hi=>by show (c i).map _=G;rw[r.cn i hi];rfl⟩⟩
 ·obtain ⟨x,hx,e⟩:=wc.1 ((DX (λ(_:Nat) (x:AV)=>Gm (BV K K') x) t s.ts).symm.trans hy)
  subst e;by_cases hu:x= .undef
  ·subst hu;exact absurd rfl cQ
  ·obtain ⟨v,v1,v2⟩:=r.tm t x hx hu;exact ⟨v,v1,v2.map (.refl F) λk hm=>one k λe=>hk.1 t x hx (e ▸ hm)⟩
 ·obtain ⟨k0,b0,a1,a2,a3,rfl⟩:=avY hn hb;obtain ⟨q1,q2,q3⟩:=r.bx k0 b0 a1;have hφ:φ2 k=Y k0:=by
   show (if k=K' then Y K else Y k)=_
   rw[<-a2,alV];by_cases e:k0=K
   ·rw[aG e,aG rfl,e]
   ·rw[aC e,aC a3]
  rw[hφ];exact ⟨q1.mv (.refl F) (by rw[<-a2];exact one k0 a3) λk hm=>one k λe=>hk.2 k0 b0 a3 a1 (e ▸ hm),q2,λp hp=>⟨(q3 p hp).1,by show (c p.1).map _=_;rw[(q3 p hp).2,<-a2];rfl⟩⟩
def OT (K sz:Nat) (x:AV):AV:=
 match x with
 | .lit .cq=>.ms K sz 0 0
 |x=>x
def hasC (cs:List (Nat×Nat)) (k i:Nat):Bool:=cs.any λq=>ku q.1 k&&ku q.2 i
def ard (cs:List (Nat×Nat)) (k K sz:Nat):Nat->bb->bb
 |_,[]=> []
 |i,x::l=>aT (hasC cs k i) (OT K sz x) x::ard cs k K sz (i+1) l
def aFA (cs:List (Nat×Nat)) (K sz k:Nat) (b:Bx):Bx:=
 match b with
 | .flat e l=>.flat e (ard cs k K sz 0 l)
 | .bY z e s l Q o=>.bY z e s l Q (o.map λp=>(p.1,aT (cs.any λq=>ku q.1 k) (OT K sz p.2) p.2))
 |b=>b
def LS.born (s:LS) (ts:bJ) (cs:List (Nat×Nat)) (K:Nat) (z:Bool) (e sz:Nat):LS:=
 ⟨s.ts.map λp=>(p.1,aT (mE p.1 ts) (OT K sz p.2) p.2),(s.set K (.rows z e sz [])).bs.map λp=>(p.1,aFA cs K sz p.1 p.2)⟩
def Rh (hb:(g K).b=I) (h:VA F g v x) (b:Bool):VA F g v (aT b (OT K sz x) x):=by
 rw[cE];split
 ·unfold OT;split
  ·cases h;exact .sK sz hb
  ·exact h
 ·exact h
def ahc {cs:List (Nat×Nat)} {k K sz:Nat} (hb:(g K).b=I):∀{xs:bb} {vs:bc} {i:Nat},dH F g vs xs->dH F g vs (ard cs k K sz i xs)
 | [],_,_,h=>h
 |x::l,_,i,.cons h t=>.cons (Rh hb h _) (ahc hb t)
def kn.born (hk:s.free K) (hp:pn K=I):kn pn s (s.born ts cs K z e sz):=.mk λ{F g Y c T H} r=>by
 let g2:Gb:=ly g K ⟨0,.k 0,I⟩;have hb:(g2 K).b=I:=by show (ly g K _ K).b=I;unfold ly;rw[aG rfl]
 obtain ⟨c',r2,_,_,_⟩:=r.chg (K:=K) (b':=.rows z e sz []) (L':= []) (g':=g2) (H':=H) (.nil hb) (by simp) (λp hp=>by cases hp) (λi hi=>absurd rfl hi) (.inr ⟨hk,λk cQ=>aC cQ⟩)
 refine ⟨F,g2,_,c',.refl _,λk jO=>aC λe=>(by rw[e,hp] at jO;cases jO),r2.apa (ft:=λt x=>aT (mE t ts) (OT K sz x) x) (fb:=λk b=>aFA cs K sz k b) r2.fr (λt=>by rw[cE];split<;>rfl) (λt v x _ hv=>Rh hb hv _) λk b L _ q=> ?_⟩
 cases q with
 |flat q=>exact .flat (ahc hb q)
 |nil h=>exact .nil h
 |bY np hz hu hc q ho=>
  refine .bY np hz hu hc q λp hp=> ?_
  obtain ⟨p0,hp0,rfl⟩:=dM.1 hp;obtain ⟨v,v1,v2⟩:=ho p0 hp0;exact ⟨v,v1,Rh hb v2 _⟩
 |map h1 h2 h3=>exact .map h1 h2 h3
 |iter=>exact .iter
def nSh (l:ee):ee:=aT (sV l) [] l
def aJP (q:TR F l vs Q L):TR F (nSh l) vs Q L:=by
 unfold nSh;rw[cE];split
 ·rename_i h;exact q.sV h rfl
 ·exact q
def TC.open {x x':Bool} {rows:bz} (q:TC F (.o x l2) v y L0) (hy:y=yE x' e2 zm n rows):∃gk L2,L2.Sublist L0/\∀g2:Gb,g2 K2=gk->eT F g2 K2 (.bY I e2 zm (nSh l2) rows []) L2/\VA F g2 v (.ms K2 zm 0 n):=by
 cases q with
 |any=>cases hy
 |nil=>
  injection hy with _ _ _ h1 h2
  subst h1;subst h2;exact ⟨⟨0,.k 0,I⟩,[],.refl _,λg2 e=>⟨.nil (by rw[e]),.sK _ (by rw[e])⟩⟩
 | @sl _ _ id cp svs e s n' Q L hn hu hc q=>
  injection hy with _ h1 h2 h3 h4
  subst h1;subst h2;subst h3;subst h4;subst hn;refine ⟨⟨id,cp,M⟩,_,.refl _,λg2 e=>⟨?_,?_⟩⟩
  ·have:=eT.bY (F:=F) (g:=g2) (K:=K2) (z:=I) (o:= []) (by rw[e]) (λh=>by cases h) hu (by rw[e];exact hc) (aJP q) (λp hp=>by cases hp)
   rwa[e] at this
  ·exact sK e
def aCe (Q:bz) (j f:Nat) (x:Bool) (e2 s2 n:Nat) (rows:bz) (Q':bz):Prop:=∃R,Q[j]? =V R/\R[f]? =V (yE x e2 s2 n rows)/\Q.set j (gQ R f [.undef])=Q'
def AD (h:f<R.length):gQ R f [x]=R.set f x:=by
 show R.take f++ [x]++R.drop (f+1)=_;rw[List.set_eq_take_append_cons_drop,aG h];simp
def X1 {R R':bb} (hu:∀r∈Q,r.length=sz) (h:R'.length=sz):∀r∈Q.set j R',r.length=sz:=λr hr=>by
 rcases Wg hr with hr|rfl
 ·exact hu r hr
 ·exact h
def aeM {R':bb} (hj:Q[j]? =V R):Q.set j R'≠ []:=λe=>by
 have:=bF aa9 e;rw[ld] at this;rw[vk.1 this] at hj;cases hj
def kn.opn {x x':Bool} {rows:bz} (hb:lk K s.bs=V (.bY z e sz l Q o)) (hP:aCe Q j f x' e2 zm n rows Q') (hl:(l.drop f).headD .d= .o x l2) (hk:s.free K2) (hp:pn K2=I) (hn:lk K2 s.bs=G):
  kn pn s ⟨s.ts,(K2,.bY I e2 zm (nSh l2) rows [])::(K,.bY z e sz l Q' ((j*sz+f,.ms K2 zm 0 n)::o))::s.bs⟩:=.mk λ{F g Y c T H} r=>by
 obtain ⟨R,hj,hf,rfl⟩:=hP;have hR:=(bO.1 hf).1;obtain ⟨tf,svs,L,hφ,hH,hu,hc,q,ho,_,hRl,_⟩:=r.row hb hj;obtain ⟨v,L1,L0,L2,h1,h2,h3,h4⟩:=q.foc hu hj hf;rw[hl] at h3 h4;obtain ⟨gk,LK,hs,gu⟩:=h3.open (K2:=K2) rfl;have cQ:K≠K2:=λe=>by rw[e,hn] at hb;cases hb
 obtain ⟨b1,b2⟩:=gu (ly g K2 gk) (aG rfl);have gK:ly g K2 gk K=g K:=aC cQ;have nd:=(r.bx K _ hb).2.1;rw[hφ,h2] at nd;have hv:svs[j*sz+f]? =V v:=by
  rw[eZ] at h1;split at h1
  ·exact h1
  ·cases h1
 refine ⟨F,ly g K2 gk,_,_,.refl _,λk jO=>aC λe=>(by rw[e,hp] at jO;cases jO),r.split (b1:=.bY z e sz l (Q.set j (gQ R f [.undef])) ((j*sz+f,.ms K2 zm 0 n)::o)) (L1:=((g K).n,.cells e svs)::(L1++([]++L2))) hb hk hn (λk cQ=>aC cQ) ?_ b1 (λp hp=> ?_) ?_⟩
 ·rw[<-gK];rw[AD hR];refine .bY (by rw[gK];exact tf) (λ_=>aeM hj) (X1 (R:=R) hu (by rw[ld];exact hRl)) (by rw[gK,ld];exact hc) (by rw[ld];exact h4 _ _ (.any v)) λp hp=> ?_
  rcases da.1 hp with rfl|hp
  ·exact ⟨v,hv,b2⟩
  ·obtain ⟨w,w1,w2⟩:=ho p hp;exact ⟨w,w1,w2.same (.refl F) λk jO=>aC λ(ek:k=K2)=>hk.2 K _ cQ hb (ek ▸ CE (dM.2 ⟨p,hp,rfl⟩) k jO)⟩
 ·rw[hφ,h2];have:(((g K).n,SO.cells e svs)::(L1++([]++L2))++LK).Subset (((g K).n,SO.cells e svs)::(L1++(L0++L2))):=λp hp=>by
   have hs:= @(hs.subset);simp only[wa,da,eV,jy] at hp ⊢;rcases hp with h|(h|h)|h
   ·exact .inl h
   ·exact .inr (.inl h)
   ·exact .inr (.inr (.inr h))
   ·exact .inr (.inr (.inl (hs h)))
  exact this hp
 ·have key:((((g K).n,SO.cells e svs)::(L1++([]++L2))++L0).map (·.1)).Nodup:=by
   refine (List.Perm.nodup_iff ?_).1 nd;refine List.Perm.map _ ?_;rw[wa,jy,j8];exact .cons _ (.append_left _ List.perm_append_comm)
  exact ((Wf hs _).map _).nodup key
def Y7 (Q:bz) (j f:Nat) (y:AV) (Q':bz):Prop:=Gk Q j f [y]=V Q'
def Rel.cls (r:Rel F g Y c s T H) {p:Nat} {z2 x:Bool} {l2':ee} {rows:bz} (hb:lk K s.bs=V (.bY z e sz l Q ((p,.ms K2 zm 0 n)::o))) (hb2:lk K2 s.bs=V (.bY z2 e2 zm l2' rows [])) (hp:p=j*sz+f) (hn:rows.length=n) (hP:Y7 Q j f (yE x e2 zm n rows) Q') (hl:(l.drop f).headD .d= .o x l2) (hsh:aeL l2' l2 rows=M) (hf:f<sz) (cQ:K≠K2):
  ∃φ' c',(∀i k,c' i=V k->c i=V k\/(k=K/\c i=V K2))/\Rel F g φ' c' ⟨(s.o8 K2).ts,(K,.bY z e sz l Q' (o.map λp=>(p.1,oT K2 p.2)))::lp K2 (s.o8 K2).bs⟩ T H:=by
 obtain ⟨R,hj,hQ⟩:=aq hP;cases hQ;subst hp;obtain ⟨tf,svs,L,hφ,hH,hu,hc,q,ho,_,hRl,_⟩:=r.row hb hj;obtain ⟨xo,hxo⟩:∃xo,R[f]? =V xo:=⟨R[f]'(by omega),cZ _⟩
 obtain ⟨v,L1,L0,L2,h1,h2,h3,h4⟩:=q.foc hu hj hxo;rw[hl] at h4;obtain ⟨v',wY,hx⟩:=ho _ j7;have ev:v'=v:=by
  rw[eZ] at h1;split at h1
  ·exact kR (wY.symm.trans h1)
  ·cases h1
 subst ev;obtain ⟨_,nd,own⟩:=r.bx K _ hb;obtain ⟨q2,nd2,afm⟩:=r.bx K2 _ hb2;have oS:TC F (.o x l2) v' (yE x e2 zm n rows) (Y K2):=by
  generalize Y K2=f2 at q2;cases q2 with
  |nil hb1=>
   cases hn;cases hx with
   |sK=>exact .nil
   |ms _ _ _ h=>rw[hb1] at h;cases h
   |yI _ _ h=>cases h
  |bY hb1 zq hu1 sR q1 HM=>
   subst hn;generalize hm:rows.length=m at hx;cases hx with
   |sK _ h=>rw[hb1] at h;cases h
   |yI _ _ h=>cases h
   |ms=>
    subst hm;rw[mK];have:zx (g K2).c 0=(g K2).c:=by cases (g K2).c<;>rfl
    rw[this];exact .sl rfl hu1 sR (alQ hsh q1)
 have lf:∀{k b},lk k s.bs=V b->lk k (s.o8 K2).bs=V (b.o8 K2):=λ{k b} hb=>by
  rw[show (s.o8 K2).bs=s.bs.map λp=>(p.1,p.2.o8 K2) from rfl,DX (λ(_:Nat) (b:Bx)=>b.o8 K2),hb];rfl
 have sub:∀p∈((g K).n,SO.cells e svs)::(L1++(Y K2++L2)),p∈Y K\/p∈Y K2:=λp hp=>by
  rw[hφ,h2];simp only[da,eV] at hp ⊢;rcases hp with h|h|h|h
  ·exact .inl (.inl h)
  ·exact .inl (.inr (.inl h))
  ·exact .inr h
  ·exact .inl (.inr (.inr (.inr h)))
 refine ⟨_,_,λi k h=> ?_,(r.o8 K2).join (b1:=.bY z e sz l (Q.set j (gQ R f [yE x e2 zm n rows])) (o.map λp=>(p.1,oT K2 p.2))) (L1:=((g K).n,.cells e svs)::(L1++(Y K2++L2))) (lf hb) (lf hb2) cQ ?_ sub ?_⟩
 ·split at h
  ·rename_i hm;obtain ⟨p,hp,rfl⟩:=dM.1 hm;cases h;exact (sub p hp).imp (λh=>(own p h).2) λh=>⟨rfl,(afm p h).2⟩
  ·exact .inl h
 ·rw[AD (by omega)]
  refine .bY tf (λ_=>aeM hj) (X1 (R:=R) hu (by rw[ld];exact hRl)) (by rw[ld];exact hc) (by rw[ld];exact h4 _ _ oS) λp hp=> ?_
  obtain ⟨p0,hp0,rfl⟩:=dM.1 hp;obtain ⟨w,w1,w2⟩:=ho p0 (dQ _ hp0);exact ⟨w,w1,JT w2⟩
 ·rw[hφ,h2] at nd own;have hd:∀p∈Y K2,∀p'∈((g K).n,SO.cells e svs)::(L1++(L0++L2)),p.1≠p'.1:=λp hp p' Bt e0=>by
   have h1:=(afm p hp).2;rw[e0,(own p' Bt).2] at h1;exact cQ (kR h1)
  have key:(((((g K).n,SO.cells e svs)::(L1++L2))++Y K2).map (·.1)).Nodup:=by
   rw[ka];have sl:(((g K).n,SO.cells e svs)::(L1++L2)).Sublist (((g K).n,SO.cells e svs)::(L1++(L0++L2))):=.cons_cons _ (Wf (NW _ _) _);refine Ds.2 ⟨(sl.map _).nodup nd,nd2,λa ha b np e0=> ?_⟩
   obtain ⟨p',Bt,rfl⟩:=dM.1 ha;obtain ⟨p,hp,rfl⟩:=dM.1 np;exact hd p hp p' (sl.subset Bt) e0.symm
  refine (List.Perm.nodup_iff ?_).1 key;refine List.Perm.map _ ?_;rw[wa,j8];exact .cons _ (.append_left _ List.perm_append_comm)
def aqV (sh:Sh) (y x:AV):Z AV:=
 match sh with
 | .d=>aT (kG x).isEmpty (V (cv y x)) G
 | .o b _=>(match x,y with
  | .lit .cq,.sl _ e s _ _=>V (yE b e s 0 [])
  |_,_=>G)
def aIi {y':AV} (h:aqV sh y x=V y') (q:VA F g v x):TC F sh v y' []:=by
 unfold aqV at h;split at h
 ·obtain ⟨h1,h⟩:=ba h;cases h;exact .d (FD (q.sI h1))
 ·split at h
  ·cases h;cases q;exact .nil
  ·cases h
def eT.cld {p:Nat} {y':AV} (hp:p=j*sz+f) (hP:Y7 Q j f y' Q') (hy:aqV ((l.drop f).headD .d) y x=V y') (hf:f<sz) (q:eT F g K (.bY z e sz l Q ((p,x)::o)) L):∃L',L'.Sublist L/\eT F g K (.bY z e sz l Q' o) L':=by
 obtain ⟨R,hj,hQ⟩:=aq hP;cases hQ;subst hp;cases q with
 | @bY _ _ _ _ _ _ svs L tf hz hu hc q ho=>
 have hRl:=hu R (bQ hj);obtain ⟨xo,hxo⟩:∃xo,R[f]? =V xo:=⟨R[f]'(by omega),cZ _⟩
 obtain ⟨v,L1,L0,L2,h1,h2,h3,h4⟩:=q.foc hu hj hxo;obtain ⟨v',wY,hx⟩:=ho _ j7;have ev:v'=v:=by
  rw[eZ] at h1;split at h1
  ·exact kR (wY.symm.trans h1)
  ·cases h1
 subst ev;refine ⟨_,?_,.bY tf (λ_=>aeM hj) (X1 (R:=R) hu (by rw[AD (by omega),ld];exact hRl)) (by rw[ld];exact hc) (by rw[AD (by omega),ld];exact h4 _ _ (aIi hy hx)) λp hp=>ho p (dQ _ hp)⟩
 rw[h2];exact .cons_cons _ (Wf (NW _ _) _)
def kn.shr {u:Nat} {P:bz} (hb:lk K s.bs=V (.bY z e sz l Q o)) (hP:Q.take u=P):kn pn s (s.set K (.bY I e sz l P [])):=by
 subst hP;refine kn.Jl hb λ{F g L} q=> ?_
 cases q with
 |nil hbf=>exact ⟨[],.refl _,by rw[List.take_nil];exact .nil hbf⟩
 | @bY _ _ _ _ _ _ svs L tf hz hu hc q ho=>
  obtain ⟨L',hs,q'⟩:=q.take u hu;have hle:(Q.take u).length<=Q.length:=by rw[dz];exact Nat.min_le_right _ _
  have e1:min (u*sz) (Q.length*sz)=(Q.take u).length*sz:=by
   rw[dz];rcases Nat.le_total u Q.length with h|h
   ·rw[fo h,fo (js _ h)]
   ·rw[We h,We (js _ h)]
  rw[l6,e1] at q';refine ⟨_,.cons_cons _ hs,.bY tf (λe=>by cases e) (λr hr=>hu r (oG hr)) ?_ q' λp hp=>by cases hp⟩
  cases hκ:(g K).c with
  |k m=>rw[hκ] at hc;exact ⟨kY hle hc.1,hc.2⟩
  |u e'=>rw[hκ] at hc;exact ⟨hc.1,kY (js _ hle) hc.2⟩
def cvQ:bz->bz->bz
 |w::ws,r::rs=>MJ w r::cvQ ws rs
 |_,rs=>rs
def amZ:∀(ws xs:bb),(MJ ws xs).length=xs.length
 | [],_=>rfl
 |_::_,[]=>rfl
 |_::ws,_::xs=>bF LJ (amZ ws xs)
def OO:∀(W Q:bz),(cvQ W Q).length=Q.length
 | [],_=>rfl
 |_::_,[]=>rfl
 |_::W,_::Q=>bF LJ (OO W Q)
def aqP {sz:Nat}:∀{W Q:bz},(∀r∈Q,r.length=sz)->∀r∈cvQ W Q,r.length=sz
 | [],_,hu,r,hr=>hu r hr
 |_::_,[],_,r,hr=>by cases hr
 |w::W,q::Q,hu,r,hr=>by
  rcases da.1 (show r∈MJ w q::cvQ W Q from hr) with rfl|hr
  ·rw[amZ];exact hu q (by simp)
  ·exact aqP (λr hr=>hu r (dQ _ hr)) r hr
def axP:∀{W Q:bz} {vs:bc},dH F g vs Q.flatten->dH F g vs (cvQ W Q).flatten
 | [],_,_,q=>q
 |_::_,[],_,q=>q
 |w::W,r::Q,vs,q=>by
  rw[pX] at q;have q1:=q.take r.length;have q2:=q.drop r.length;rw[Wd] at q1;rw[Wc] at q2;have:=(HV (ws:=w) q1).append (axP (W:=W) q2);rw[C4] at this;exact this
def eT.brw {W:bz} (ha:sV l=M) (q:eT F g K (.bY z e sz l Q o) L):∃L',L'.Sublist L/\eT F g K (.bY z e sz [] (cvQ W Q) o) L':=by
 cases q with
 |nil hb=>exact ⟨[],.refl _,by cases W<;>exact .nil hb⟩
 |bY hb hz hu hc q ho=>exact ⟨_,.cons_cons _ (NV _),.bY hb (λh e0=>hz h (vk.1 (by rw[<-OO W Q,e0];rfl))) (aqP hu) (by rw[OO];exact hc) (by rw[OO];exact .vw (aqP hu) (axP (q.sV ha rfl).dat)) ho⟩
inductive Gp where
 |er (K m n:Nat)
 |iR (K K':Nat)
 |born (ts:bJ) (cs:List (Nat×Nat)) (K:Nat) (z:Bool) (e sz:Nat)
 |shr (K u:Nat) (P:bz)
 |opn (K K2 j f e2 s2 n:Nat) (rows Q':bz)
 |cls (K K2 j f n:Nat) (Q':bz)
 |cld (K j f:Nat) (y:AV) (Q':bz)
 |gm (t:Nat) (y:AV)
 |bis (K:Nat) (b:Bx)
 |tU (t:Nat) (w:AV)
 |oV (K:Nat) (w:Bx)
 |brw (K:Nat) (W:bz)
def shX (l:ee) (f:Nat):Z (Bool×ee):=
 match (l.drop f).headD .d with
 | .o x l2=>V (x,l2)
 |_=>G
def aeK {p:Bool×ee} (h:shX l f=V p):(l.drop f).headD .d= .o p.1 p.2:=by
 unfold shX at h;split at h
 ·rename_i e;cases h;exact e
 ·cases h
def JO (pn:Nat->Bool) (s:LS) (gp:Gp) (ob:Prop->cH):Z (List cH×LS):=
 match gp with
 | .er K m n=>az (lk K s.bs) λb=>V (agB s K n b ob,s.agC K m n b)
 | .iR K K'=>aT (JR s K'&&(!pn K'&&(lk K' s.bs).isNone)) (V ([],s.iR K K')) G
 | .born ts cs K z e sz=>aT (JR s K && !pn K) (V ([],s.born ts cs K z e sz)) G
 | .shr K u P=>az (lk K s.bs) λb=>(match b with
  | .bY _ e sz l Q _=>V ([ob (Q.take u=P)],s.set K (.bY I e sz l P []))
  |_=>G)
 | .opn K K2 j f e2 s2 n rows Q'=>az (lk K s.bs) λb=>(match b with
  | .bY z e sz l Q o=>az (shX l f) λx=>aT (JR s K2&&(!pn K2&&(lk K2 s.bs).isNone)) (V ([ob (aCe Q j f x.1 e2 s2 n rows Q')],⟨s.ts,(K2,.bY I e2 s2 (nSh x.2) rows [])::(K,.bY z e sz l Q' ((wW (B' j sz) f,.ms K2 s2 0 n)::o))::lp K s.bs⟩)) G
  |_=>G)
 | .cls K K2 j f n Q'=>cC (lk K s.bs) (lk K2 s.bs) λb b2=>(match b,b2 with
  | .bY z e sz l Q ((p,.ms k2 s2 0 n0)::o),.bY _ e2 zm l2' rows []=>az (shX l f) λx=>aT ((ku k2 K2&&ku s2 zm)&&(aeL l2' x.2 rows&&(kQ (LJ f) sz && !ku K K2)))
    (V ([ob (rows.length=n/\Y7 Q j f (yE x.1 e2 zm n rows) Q'),eqO n0 n,eqO p (wW (B' j sz) f)],⟨(s.o8 K2).ts,(K,.bY z e sz l Q' (o.map λp=>(p.1,oT K2 p.2)))::lp K (lp K2 (s.o8 K2).bs)⟩)) G
  |_,_=>G)
 | .cld K j f y Q'=>az (lk K s.bs) λb=>(match b with
  | .bY z e sz l Q ((p,x)::o)=>az (aqV ((l.drop f).headD .d) y x) λy'=>aT (kQ (LJ f) sz) (V ([ob (Y7 Q j f y' Q'),eqO p (wW (B' j sz) f)],s.set K (.bY z e sz l Q' o))) G
  |_=>G)
 | .gm t y=>az (lk t s.ts) λx=>V ([ob (x=y)],⟨(t,y)::lp t s.ts,s.bs⟩)
 | .bis K b=>az (lk K s.bs) λb0=>V ([ob (b0=b)],⟨s.ts,(K,b)::lp K s.bs⟩)
 | .tU t w=>az (lk t s.ts) λx=>V ([],⟨(t,cv w x)::lp t s.ts,s.bs⟩)
 | .oV K w=>az (lk K s.bs) λb=>V ([],s.set K (cvX w b))
 | .brw K W=>az (lk K s.bs) λb=>(match b with
  | .bY z e sz l Q o=>aT (sV l) (V ([],s.set K (.bY z e sz [] (cvQ W Q) o))) G
  |_=>G)
def kn.lks (h1:∀t,lk t s'.ts=lk t s.ts) (h2:∀k,lk k s'.bs=lk k s.bs):kn pn s s':=.mk λr=>⟨_,_,_,_,.refl _,λ_ _=>rfl,r.sub (λt x h=>(h1 t).symm.trans h) λk b h=>(h2 k).symm.trans h⟩
def xB {x:J} {l:List (Nat×J)}:lk k ((t,x)::lp t l)=lk k ((t,x)::l):=by
 rw[dy,dy,xA];split
 ·rfl
 ·rfl
def Rel.gcls (r:Rel F g Y c s T H) (hJ:∀P,(ob P).need=P) (h:JO pn s (.cls K K2 j f n Q') ob=V q) (ho:jl q.1):∃φ' c',(∀i k,c' i=V k->c i=V k\/(k=K/\c i=V K2))/\Rel F g φ' c' q.2 T H:=by
 obtain ⟨b,b2,hb,hb2,h⟩:=bU h;split at h
 ·rename_i z e sz l Q p k2 s2 n0 o z2 e2 zm l2' rows;obtain ⟨x,hx,h⟩:=aq h;obtain ⟨h1,h⟩:=ba h;cases h;simp only[bG] at h1;obtain ⟨⟨k1,k3⟩,k4,k5,k6⟩:=h1;obtain rfl:=(beq_iff _ _).1 k1;obtain rfl:=(beq_iff _ _).1 k3;obtain ⟨hp,hn,hpp,_⟩:=ho;rw[hJ] at hp;have hn:n0=n:=hn;subst hn;obtain ⟨φ',c',a1,a2⟩:=r.cls hb hb2 hpp hp.1 hp.2 (aeK hx) k4 ((bR _ _).1 k5) (λe=>by rw[(beq_iff _ _).2 e] at k6;cases k6)
  exact ⟨φ',c',a1,a2.sub (λ_ _ h=>h) λk b h=>xB.symm.trans h⟩
 ·cases h
def aBd {gp:Gp} (hJ:∀P,(ob P).need=P) (h:JO pn s gp ob=V q) (ho:jl q.1):kn pn s q.2:=by
 cases gp with
 |er K m n=>
  obtain ⟨b,hb,h⟩:=aq h;cases h;exact .mk λr=>by
   obtain ⟨F',c',hF,_,r'⟩:=r.er (m:=m) hJ hb ho;exact ⟨F',_,_,c',hF,λ_ _=>rfl,r'⟩
 |iR K K'=>
  obtain ⟨h1,h⟩:=ba h;cases h;simp only[bG] at h1;exact kn.iR (Am h1.1) (by simpa using h1.2.1) (by simpa using h1.2.2)
 |born ts cs K z e sz=>
  obtain ⟨h1,h⟩:=ba h;cases h;rw[bG] at h1;exact kn.born (Am h1.1) (by simpa using h1.2)
 |shr K u P=>
  obtain ⟨b,hb,h⟩:=aq h;split at h
  ·cases h;have hp:=ho.1;rw[hJ] at hp;exact kn.shr hb hp
  ·cases h
 |opn K K2 j f e2 s2 n rows Q'=>
  obtain ⟨b,hb,h⟩:=aq h;split at h
  ·rename_i z e sz l Q o;obtain ⟨x,hx,h⟩:=aq h;obtain ⟨h1,h⟩:=ba h;cases h;simp only[bG] at h1;have hp:=ho.1;rw[hJ] at hp;refine (kn.opn hb hp (aeK hx) (Am h1.1) (by simpa using h1.2.1) (by simpa using h1.2.2)).trans (kn.lks (λ_=>rfl) λk=> ?_)
   show lk k ((K2,_)::(K,_)::lp K s.bs)=lk k ((K2,_)::(K,_)::s.bs);rw[dy,dy (k:=K2),xB];rfl
  ·cases h
 |cls K K2 j f n Q'=>exact .mk λr=>
  let ⟨φ',c',_,r'⟩:=r.gcls hJ h ho;⟨_,_,φ',c',.refl _,λ_ _=>rfl,r'⟩
 |cld K j f y Q'=>
  obtain ⟨b,hb,h⟩:=aq h;split at h
  ·rename_i z e sz l Q p x o;obtain ⟨y',hy,h⟩:=aq h;obtain ⟨h1,h⟩:=ba h;cases h;obtain ⟨hp,hpp,_⟩:=ho;rw[hJ] at hp;exact kn.Jl hb λq=>eT.cld hpp hp hy ((bR _ _).1 h1) q
  ·cases h
 |gm t y=>
  obtain ⟨x,hx,h⟩:=aq h;cases h;have hp:=ho.1;rw[hJ] at hp;subst hp;refine kn.lks (λk=> ?_) λ_=>rfl
  show lk k ((t,x)::lp t s.ts)=_;rw[xB,dy];split
  ·rename_i e;rw[e,hx]
  ·rfl
 |bis K b=>
  obtain ⟨x,hx,h⟩:=aq h;cases h;have hp:=ho.1;rw[hJ] at hp;subst hp;refine kn.lks (λ_=>rfl) λk=> ?_
  show lk k ((K,x)::lp K s.bs)=_;rw[xB,dy];split
  ·rename_i e;rw[e,hx]
  ·rfl
 |tU t w=>
  obtain ⟨x,hx,h⟩:=aq h;cases h;refine .mk λ{F g Y c T H} r=>⟨F,g,Y,c,.refl _,λ_ _=>rfl,{r with tm:=λk y hy hn=> ?_}⟩
  rw[show ({ts:=(t,cv w x)::lp t s.ts,bs:=s.bs}:LS).ts=(t,cv w x)::lp t s.ts from rfl,xB,dy] at hy;split at hy
  ·rename_i e;cases hy;obtain ⟨v,v1,v2⟩:=r.tm t x hx λe=>hn (by rw[e];exact Re w)
   exact ⟨v,e ▸ v1,FD v2⟩
  ·exact r.tm k y hy hn
 |oV K w=>
  obtain ⟨b,hb,h⟩:=aq h;cases h;exact kn.Jl hb λq=>⟨_,.refl _,agS q⟩
 |brw K W=>
  obtain ⟨b,hb,h⟩:=aq h;split at h
  ·obtain ⟨ha,h⟩:=ba h;cases h;exact kn.Jl hb λq=>q.brw ha
  ·cases h
end
end Go.bM
namespace Go.bM
open Go.RowKit
variable {f nx nx' K k j i:Nat} {v:SV} {H' F1:Hf} {o:SO} {bs gI:cT} {c1 c':Nat->cD} {gc:Gb} {φ':Nat->Ow}
section
variable {F F':Hf} {g g':Gb} {Y:Nat->Ow} {c:Nat->cD} {s s':LS} {T:Tf} {H:Hf} {E:Env} {pn:Nat->Bool}
def nO (k:Nat):Bool:=kQ 1152921504606846976 k
def evK (k:Nat):Bool:=ku (aa3 (U' k 4294967296) 2) 0
def pnL (ks:bJ) (k:Nat):Bool:=nO k||(evK k&&mE k ks)
def wX (bs:cT):bJ:=bs.map (·.1)
def noT:Tf:=λ_=>G
structure kL (ro:Bool) (E:Env) (f:Nat) (bs:cT) (xs:bb) (y:AV) (gI:cT):Prop where
 go:∀{F:Hf} {g:Gb} {Y:Nat->Ow} {c:Nat->cD} {H:Hf} {nx:Nat} {aa:bc},Rel F g Y c ⟨[],bs⟩ noT H->(∀x,nx<=x->H x=G)->dH F g aa xs->∃F' g' φ' c' v H' nx',qW E I (.fn (.func f) [] []) aa H nx v H' nx'/\nx<=nx'/\(∀x,nx'<=x->H' x=G)/\
  oE F F'/\(∀k,pnL (wX bs) k=M->g' k=g k)/\VA F' g' v y/\Rel F' g' φ' c' ⟨[],gI⟩ noT H'/\(∀x,x<nx->H' x≠G->H x≠G)/\(ro=M->∀x,H x≠G->H' x=H x/\c' x=c x)
abbrev iy (E:Env) (f:Nat) (bs:cT) (xs:bb) (y:AV) (gI:cT):Prop:=kL I E f bs xs y gI
def auY {fi aa ca:bc} (h:qW E I (.fn (.func f) [] []) (fi++aa++ca) H nx v H' nx'):qW E I (.fn (.func f) fi ca) aa H nx v H' nx':=λm g w u us hE hr nk hu oc=>by
 cases hu with
 | @fn _ first j5 _ _ h1 h2=>
 have h0:VR g (.func (.func f) #[] #[]) (.fn (.func f) [] []):=.fn .nil .nil;obtain ⟨d,hd,hc⟩:=h m g w _ (first.toList++us++j5.toList) hE hr nk h0 ((h1.append oc).append h2)
 have hd:Result.ok ({target:=.fn (.func f) #[],args:= #[]++(first.toList++us++j5.toList).toArray}:Deferred) w=Result.ok d w:=hd
 injection hd with e
 subst e;have key:invoke (.fn (.func f) #[]) (#[]++(first.toList++us++j5.toList).toArray)=invoke (.fn (.func f) j5) (first++us.toArray):=by
  show callFunc f (#[]++(first.toList++us++j5.toList).toArray++ #[])=callFunc f (first++us.toArray++j5)
  congr 1;apply A4;simp
 refine ⟨{target:=.fn (.func f) j5,args:=first++us.toArray},rfl,?_⟩
 show (∃k aa,Sem.run E.P (invoke (.fn (.func f) j5) (first++us.toArray)) w=_/\_)\/(∃l k tmps aa bo,Sem.run E.P (invoke (.fn (.func f) j5) (first++us.toArray)) w=_/\_)\/∃r w',Sem.run E.P (invoke (.fn (.func f) j5) (first++us.toArray)) w=_/\_
 rw[<-key];exact hc
abbrev ir:=List (Nat×Nat)
def jG (al:ir):ir:=al.map λq=>(q.2,q.1)
def th (al:ir) (K:Nat):Nat:=(lk K al).getD K
def Q0 (l:ir) (K:Nat):Bool:=(lk K l).isSome
def CI (al:ir):Bool:=al.all λq=>ku (th al q.1) q.2&&ku (th (jG al) q.2) q.1
def idP (al:ir) (k:Nat):Bool:=nO k&&(!Q0 al k && !Q0 (jG al) k)
def HD {J:Type} {t:Nat} {x:J}:∀{l:List (Nat×J)},(t,x)∈l->∃y,lk t l=V y
 |(k,y)::l,h=>by
  rw[dy];split
  ·exact ⟨_,rfl⟩
  ·rename_i e;rcases da.1 h with h|h
   ·exact absurd (bF Prod.fst h) e
   ·exact HD h
def LW {J:Type} {t:Nat} {x:J} (b:List (Nat×J)):∀{a:List (Nat×J)},lk t a=V x->lk t (a++b)=V x
 |(k,y)::a,h=>by
  rw[wa];rw[dy] at h ⊢;split
  ·rename_i e;rw[aG e] at h;exact h
  ·rename_i e;rw[aC e] at h;exact LW b h
def vJ {l:ir} (h:lk K l=V k):th l K=k:=by unfold th;rw[h];rfl
def Eh {al:ir} (hg:CI al=M) (h:(K,k)∈al):lk K al=V k/\lk k (jG al)=V K:=by
 have:=jK.1 ((jJ.1 hg) (K,k) h);obtain ⟨j,hj⟩:=HD h;obtain ⟨j',hj'⟩:=HD (l:=jG al) (dM.2 ⟨(K,k),h,rfl⟩);have e1:=(beq_iff _ _).1 this.1;have e2:=(beq_iff _ _).1 this.2;rw[vJ hj] at e1;rw[vJ hj'] at e2;exact ⟨(show j=k from e1) ▸ hj,(show j'=K from e2) ▸ hj'⟩
def vH {al:ir} (hg:CI al=M):lk k (jG al)=V K↔lk K al=V k:=by
 constructor
 ·intro h;obtain ⟨q,hq,e⟩:=dM.1 (pq h);cases e;exact (Eh hg hq).1
 ·exact λh=>(Eh hg (pq h)).2
def amu {l:ir} (h:(!Q0 l k)=M):lk k l=G:=by
 unfold Q0 at h;cases hl:lk k l with
 |none=>rfl
 |some j=>rw[hl] at h;cases h
def agf {al:ir} (h:idP al k=M):nO k=M/\lk k al=G/\lk k (jG al)=G:=by
 have h:=jK.1 (show (nO k&&(!Q0 al k && !Q0 (jG al) k))=M from h);have h2:=jK.1 h.2;exact ⟨h.1,amu h2.1,amu h2.2⟩
def HS {l:ir} (h:lk k l=G):th l k=k:=by unfold th;rw[h];rfl
def inK (ps al:ir) (k:Nat):Bool:=Q0 ps k||idP al k
def blP (al:ir) (k:Nat):Bool:=match lk k al with|some k'=>nO k'|none=>I
def inP (ps al:ir) (k:Nat):Bool:=inK ps al k||blP al k
def Fe (al:ir):ir:=al.filter λq=> !nO q.2
def avZ {al:ir} (hg:CI al=M):lk j (Fe al)=V k↔lk j al=V k/\nO k=I:=by
 have fwd:∀{k},lk j (Fe al)=V k->lk j al=V k/\nO k=I:=λ{k} h=>by
  obtain ⟨h1,h2⟩:=nI.1 (pq h);exact ⟨(Eh hg h1).1,by simpa using h2⟩
 refine ⟨fwd,λ⟨h1,h2⟩=> ?_⟩
 obtain ⟨y,hy⟩:=HD (l:=Fe al) (nI.2 ⟨pq h1,by simp[h2]⟩)
 have:=(fwd hy).1;rw[h1] at this;cases this;exact hy
def P9 {al:ir} (hg:CI al=M) (h:lk j (Fe al)=G) (hk:lk j al=V k):nO k=M:=by
 cases hb:nO k with
 |true=>rfl
 |false=>rw[(avZ hg).2 ⟨hk,hb⟩] at h;cases h
def Sz (ps al:ir) (sb:cT):cT->Z cT
 | []=>V []
 |p::l=>cC (az (lk p.1 (jG ps)) λK=>lk K sb) (Sz ps al sb l) λb r=>aT (b.keys.all (inP ps al)) (V ((p.1,cvX p.2 (b.iR (th al)))::r)) G
def afk {ps al:ir} {sb:cT} {k:Nat} {b':Bx}:∀{l r:cT},Sz ps al sb l=V r->lk k r=V b'->∃K b w,lk k (jG ps)=V K/\lk K sb=V b/\b.keys.all (inP ps al)=M/\b'=cvX w (b.iR (th al))
 | [],r,h,hk=>by cases h;cases hk
 |p::l,r,h,hk=>by
  obtain ⟨b,r',h1,h2,h⟩:=bU h;obtain ⟨K,hK,hb⟩:=aq h1;obtain ⟨h3,h⟩:=ba h;cases h;rw[dy] at hk;split at hk
  ·rename_i e;cases hk;exact ⟨K,b,p.2,e ▸ hK,hb,h3,rfl⟩
  ·exact afk h2 hk
open Classical in
def se (F:Hf) (c:Nat->cD) (ps:ir) (H:Hf):Hf:=λi=>if F i≠G\/∃K,c i=V K/\lk K ps≠G then H i else G
def QM {ps:ir} (h:se F c ps H i=V o):H i=V o:=by
 unfold se at h;split at h
 ·exact h
 ·cases h
def aPc {ps rs:ir} (hg:CI (ps++rs)=M):lk k (jG ps)=V K->lk K ps=V k/\lk K (ps++rs)=V k/\th (jG (ps++rs)) k=K:=λh=>by
 obtain ⟨q,hq,e⟩:=dM.1 (pq h);cases e;obtain ⟨a,b⟩:=Eh hg (gX _ hq);obtain ⟨j,hj⟩:=HD hq;have:=LW rs hj;rw[a] at this;cases this;exact ⟨hj,a,vJ b⟩
def aEx {ps rs:ir} (hg:CI (ps++rs)=M) (h:inP ps (ps++rs) j=M):g (th (jG (ps++rs)) (th (ps++rs) j))=g j:=by
 rcases (sx _ _).mp h with h|h
 rcases (sx _ _).mp h with h|h
 ·obtain ⟨k,hk⟩:=NU.1 (show (lk j ps).isSome=M from h);obtain ⟨a,b⟩:=Eh hg (gX _ (pq hk));rw[vJ a,vJ b]
 ·obtain ⟨_,a,b⟩:=agf h;rw[HS a,HS b]
 ·unfold blP at h;split at h
  ·rename_i k hk;rw[vJ hk,vJ ((vH hg).2 hk)]
  ·cases h
def Rel.enter (r:Rel F g Y c s T H) {ps rs:ir} {bsw:cT} (hg:CI (ps++rs)=M) (hp:Sz ps (ps++rs) s.bs bsw=V bs):
  Rel F (λk=>g (th (jG (ps++rs)) k)) (λk=>Y (th (jG (ps++rs)) k)) (λi=>(c i).bind λK=>lk K ps) ⟨[],bs⟩ noT (se F c ps H):=by
 refine ⟨λt x hx=>(by cases hx),λk b' hk=> ?_,λi o hi=>⟨?_,?_⟩,λi hi=> ?_⟩
 ·obtain ⟨K,b,w,h1,h2,h3,rfl⟩:=afk hp hk;obtain ⟨a1,a2,a3⟩:=aPc hg h1;obtain ⟨q1,q2,q3⟩:=r.bx K b h2;rw[a3];refine ⟨agS (q1.mv (.refl F) (bF g a3) λj hj=>aEx hg (jJ.1 h3 j hj)),q2,λp hp=> ?_⟩
  obtain ⟨p1,p2⟩:=q3 p hp;refine ⟨?_,by rw[p2];exact a1⟩
  show (if F p.1≠G\/∃K,c p.1=V K/\lk K ps≠G then H p.1 else G)=_
  rw[aG (.inr ⟨K,p2,by rw[a1];simp⟩)]
  exact p1
 ·show (if F i≠G\/∃K,c i=V K/\lk K ps≠G then H i else G)=_
  rw[aG (.inl (by rw[hi];simp))]
  exact (r.fr i o hi).1
 ·rw[(r.fr i o hi).2];rfl
 ·have hi:(if F i≠G\/∃K,c i=V K/\lk K ps≠G then H i else G)=G:=hi
  cases hc:c i with
  |none=>rfl
  |some K=>
   split at hi
   ·rw[r.cn i hi] at hc;cases hc
   ·rename_i h;show lk K ps=G;exact pW λhn=>h (.inr ⟨K,hc,hn⟩)
def apo (al:ir):cT->Z cT
 | []=>V []
 |p::l=>cC (lk p.1 (jG al)) (apo al l) λK r=>aT (!nO p.1&&p.2.keys.all (inK (jG al) al)) (V ((K,p.2.iR (th (jG al)))::r)) G
def amq {al:ir} {K:Nat} {b':Bx}:∀{l r:cT},apo al l=V r->lk K r=V b'->∃k b,(k,b)∈l/\lk k (jG al)=V K/\(nO k=I/\b.keys.all (inK (jG al) al)=M)/\b'=b.iR (th (jG al))
 | [],r,h,hk=>by cases h;cases hk
 |p::l,r,h,hk=>by
  obtain ⟨K',r',h1,h2,h⟩:=bU h;obtain ⟨h3,h⟩:=ba h;cases h;rw[dy] at hk;split at hk
  ·rename_i e;cases hk;exact ⟨p.1,p.2,by simp,e ▸ h1,by simpa[bG] using h3,rfl⟩
  ·obtain ⟨k,b,m1,m2,m3,m4⟩:=amq h2 hk;exact ⟨k,b,dQ _ m1,m2,m3,m4⟩
def agR (l:cT):Bool:=match l with| []=>M|p::l=>(lk p.1 l).isNone&&agR l
def amW {k:Nat} {b:Bx}:∀{l:cT},agR l=M->(k,b)∈l->lk k l=V b
 |p::l,h,hm=>by
  have h:=jK.1 (show ((lk p.1 l).isNone&&agR l)=M from h);rw[show p::l=(p.1,p.2)::l from rfl,dy];rcases da.1 hm with e|hm
  ·rw[<-e,aG rfl]
  ·split
   ·rename_i e;obtain ⟨y,hy⟩:=HD hm;rw[e] at hy;rw[hy] at h;cases h.1
   ·exact amW h.2 hm
def J1 (al:ir) (l:cT):cT:=
 match al with
 | []=>l
 |q::al=>lp q.1 (J1 al l)
def afJ {k:Nat} {b:Bx}:∀{al:ir} {l:cT},lk k (J1 al l)=V b->lk k l=V b/\lk k al=G
 | [],_,h=>⟨h,rfl⟩
 |q::al,l,h=>by
  have h:lk k (lp q.1 (J1 al l))=V b:=h;rw[xA] at h;split at h
  ·cases h
  ·rename_i e;obtain ⟨a,b⟩:=afJ h;exact ⟨a,by rw[show q::al=(q.1,q.2)::al from rfl,dy,aC e];exact b⟩
def LS.yQ (s:LS):bJ->LS
 | []=>s
 |K::l=>(s.o8 K).yQ l
def Rel.yQ:∀{l:bJ} {s:LS},Rel F g Y c s T H->Rel F g Y c (s.yQ l) T H
 | [],_,r=>r
 |K::l,s,r=>show Rel F g Y c ((s.o8 K).yQ l) T H from Rel.yQ (r.o8 K)
def Rel.leave (r:Rel F g Y c s T H) (nn:∀x,nx<=x->H x=G) {F2:Hf} (sR:∀i k,c1 i=V k->c i=V k) (hF1:oE F F1) (hf1:∀i o,F1 i=V o->H i=V o/\c1 i=G) {ps rs:ir} {out:cT} (hg:CI (ps++rs)=M) (hnb:(ps.all λq=> !nO q.2)=M) (hgc:gc=λk=>g (th (jG (ps++rs)) k)) (hF':oE F1 F') (r':Rel F' g' φ' c' ⟨[],gI⟩ noT H') (hold:∀x,x<nx->H' x≠G->se F1 c1 ps H x≠G) (hbd':∀x,nx'<=x->H' x=G) (nk:nx<=nx') (hA:oE F F2) (hB:∀i o,F2 i=V o->F' i=V o/\(F1 i≠G->F i≠G)) (hbx:∀k b L,lk k gI=V b->eT F' g' k b L->eT F2 g' k b L) (ho:apo (ps++rs) gI=V out) (hdup:agR gI=M) (wB:∀k,nO k=M->g' k=gc k) (aqd:∀K k,lk K (ps++rs)=V k->g' k=gc k\/(∀t x,lk t s.ts=V x->K∉kG x)/\∀j b,lk j s.bs=V b->K∉b.keys):
  ∃g2 φ2 c2 H2,(∀K,lk K (ps++rs)=G->g2 K=g K)/\(∀K k,lk K (ps++rs)=V k->g2 K=g' k)/\Rel F2 g2 φ2 c2 ⟨s.ts,out++J1 (Fe (ps++rs)) s.bs⟩ T H2/\(∀x,nx'<=x->H2 x=G)/\
   (∀x,H x≠G->(∀K,c x=V K->lk K ps=G)->H2 x=H x/\c2 x=c x)/\(∀x,x<nx->H2 x≠G->H x≠G)/\(∀x,H' x≠se F1 c1 ps H x->H2 x=H' x)/\(∀x,H' x=se F1 c1 ps H x->H2 x=H x)/\∀x,H x≠G->(se F1 c1 ps H x≠G->H' x=se F1 c1 ps H x/\c' x=(c1 x).bind λK=>lk K ps)->H2 x=H x/\c2 x=c x:=by
 classical
 generalize uY:ps++rs=al at*;let H0:=se F1 c1 ps H;let H2:Hf:=λx=>if H' x≠H0 x then H' x else H x
 let dom:Nat->Prop:=λi=>nx<=i\/∃K,c1 i=V K/\lk K ps≠G
 let c2:Nat->cD:=λi=>if dom i then (c' i).bind λk=>lk k (jG al) else c i
 let g2:Gb:=λj=>(lk j al).elim (g j) λk=>g' k
 let φ2:Nat->Ow:=λj=>(lk j (Fe al)).elim (Y j) λk=>φ' k
 have aCg:∀{i o},H0 i=V o->H i=V o:=QM;have up:∀{i o},H' i=V o->H2 i=V o:=λ{i o} hi=>by
  show (if H' i≠H0 i then H' i else H i)=_
  split
  ·exact hi
  ·rename_i h;have h:H' i=H0 i:=pW h;exact aCg (h ▸ hi)
 have H0F:∀{i},H0 i≠G->¬dom i->F1 i≠G:=λ{i} h hd hf=>by
  refine h ?_;show (if F1 i≠G\/∃K,c1 i=V K/\lk K ps≠G then H i else G)=G
  rw[aC];rintro (h1|h1)
  ·exact h1 hf
  ·exact hd (.inr h1)
 have aCo:∀{i},F1 i≠G->∃o,F1 i=V o/\H' i=V o/\H0 i=V o/\c' i=G:=λ{i} h=>by
  obtain ⟨o,ho⟩:=uw.1 h;obtain ⟨a,b⟩:=r'.fr i o (hF' i o ho);refine ⟨o,ho,a,?_,b⟩;show (if F1 i≠G\/∃K,c1 i=V K/\lk K ps≠G then H i else G)=_
  rw[aG (.inl h)];exact (hf1 i o ho).1
 have same:∀{x},H x≠G->¬dom x->H2 x=H x/\c2 x=c x:=λ{x} hx hd=>by
  refine ⟨?_,aC hd⟩;show (if H' x≠H0 x then H' x else H x)=_
  split
  ·rename_i cQ;exfalso;by_cases h0:H0 x=G
   ·exact hold x (yw λh=>hd (.inl h)) (λe=>cQ (e.trans h0.symm)) h0
   ·obtain ⟨o,_,a,b,_⟩:=aCo (H0F h0 hd);exact cQ (a.trans b.symm)
  ·rfl
 have lt:∀{x},H x≠G->x<nx:=λ{x} hx=>yw λh=>hx (nn x h)
 have g2n:∀{j},lk j al=G->g2 j=g j:=λ{j} h=>by show (lk j al).elim _ _=_;rw[h];rfl
 have g2s:∀{j k},lk j al=V k->g2 j=g' k:=λ{j k} h=>by show (lk j al).elim _ _=_;rw[h];rfl
 have gcK:∀{K k},lk K al=V k->gc k=g K:=λ{K k} h=>by rw[hgc];show g (th (jG al) k)=_;rw[vJ ((vH hg).2 h)]
 have keep:∀{j},((∃t x,lk t s.ts=V x/\j∈kG x)\/∃i b,lk i s.bs=V b/\j∈b.keys)->g2 j=g j:=λ{j} hj=>by
  cases h:lk j al with
  |none=>exact g2n h
  |some k=>
   rw[g2s h];rcases aqd j k h with e|⟨e1,e2⟩
   ·rw[e,gcK h]
   ·rcases hj with ⟨t,x,h1,h2⟩|⟨i,b,h1,h2⟩
    ·exact absurd h2 (e1 t x h1)
    ·exact absurd h2 (e2 i b h1)
 refine ⟨g2,φ2,c2,H2,λK=>g2n,λK k=>g2s,⟨λt x hx hu=> ?_,λj b hj=> ?_,λi o hi=> ?_,λi hi=> ?_⟩,λx hx=> ?_,λx hx hW=>same hx ?_,λx hx h2=> ?_,λx h=>aG h,λx h=>aC (λhn=>hn h),λx hx hl=> ?_⟩
 ·obtain ⟨v,v1,v2⟩:=r.tm t x hx hu;exact ⟨v,v1,v2.same hA λk hk=>keep (.inl ⟨t,x,hx,hk⟩)⟩
 ·have hj:lk j (out++J1 (Fe al) s.bs)=V b:=hj;cases agr:lk j out with
  |some b1=>
   rw[LW _ agr] at hj;cases hj;obtain ⟨k,b0,m1,m2,m3,rfl⟩:=amq ho agr;have qF:=amW hdup m1;have hja:=(vH hg).1 m2;obtain ⟨q1,q2,q3⟩:=r'.bx k b0 qF;rw[show φ2 j=φ' k from by show (lk j (Fe al)).elim _ _=_;rw[(avZ hg).2 ⟨hja,m3.1⟩];rfl]
   refine ⟨(hbx k b0 _ qF q1).mv (.refl F2) (g2s hja) λi hi=> ?_,q2,λp hp=> ?_⟩
   ·rcases (sx _ _).mp (jJ.1 m3.2 i hi) with h|h
    ·obtain ⟨K',hK'⟩:=NU.1 (show (lk i (jG al)).isSome=M from h);rw[vJ hK'];exact g2s ((vH hg).1 hK')
    ·obtain ⟨h1,h2,h3⟩:=agf h;rw[HS h3,g2n h2,wB i h1,hgc];show g i=g (th (jG al) i);rw[HS h3]
   ·obtain ⟨p1,p2⟩:=q3 p hp;refine ⟨up p1,?_⟩;have hd:dom p.1:=pW λhd=>by
     have h0:=hold p.1 (yw λh=>hd (.inl h)) (by rw[p1];simp)
     obtain ⟨_,_,_,_,h⟩:=aCo (H0F h0 hd);rw[h] at p2;cases p2
    show (if dom p.1 then _ else _)=_
    rw[aG hd,p2];exact m2
  |none=>
   have hj:lk j (J1 (Fe al) s.bs)=V b:=by
    have key:∀{a:cT} {d},lk j a=G->lk j (a++d)=lk j d:=λ{a d}=>by
     induction a with
     |nil=>exact λ_=>rfl
     |cons p a ih=>
      intro h;rw[show p::a=(p.1,p.2)::a from rfl,dy] at h;rw[show (p::a)++d=(p.1,p.2)::(a++d) from rfl,dy];split at h
      ·cases h
      ·rename_i e;rw[aC e];exact ih h
    rw[<-key agr];exact hj
   obtain ⟨h1,h2⟩:=afJ hj;obtain ⟨q1,q2,q3⟩:=r.bx j b h1;rw[show φ2 j=Y j from by show (lk j (Fe al)).elim _ _=_;rw[h2];rfl]
   have hgj:g2 j=g j:=by
    cases hk:lk j al with
    |none=>exact g2n hk
    |some k=>rw[g2s hk,wB k (P9 hg h2 hk),gcK hk]
   refine ⟨q1.same hA hgj λk hk=>keep (.inr ⟨j,b,h1,hk⟩),q2,λp hp=> ?_⟩
   obtain ⟨p1,p2⟩:=q3 p hp;have hd:¬dom p.1:=by
    rintro (h|⟨K,h3,h4⟩)
    ·rw[nn _ h] at p1;cases p1
    ·rw[sR _ _ h3] at p2;cases p2;refine h4 ?_;cases hp:lk j ps with
     |none=>rfl
     |some k=>
      have hk:lk j al=V k:=by rw[<-uY];exact LW _ hp
      have hb:=P9 hg h2 hk;have:=(jJ.1 hnb) _ (pq hp);rw[show nO (j,k).2=M from hb] at this;cases this
   obtain ⟨e1,e2⟩:=same (by rw[p1];simp) hd
   exact ⟨e1.trans p1,e2.trans p2⟩
 ·obtain ⟨h1,h2⟩:=hB i o hi;obtain ⟨h3,h4⟩:=r'.fr i o h1;refine ⟨up h3,?_⟩;show (if dom i then _ else _)=_
  split
  ·rw[h4];rfl
  ·rename_i hd;have h0:=hold i (yw λh=>hd (.inl h)) (by rw[h3];simp)
   obtain ⟨o',ho'⟩:=uw.1 (h2 (H0F h0 hd));exact (r.fr i o' ho').2
 ·show (if dom i then _ else _)=_
  have hi:(if H' i≠H0 i then H' i else H i)=G:=hi
  split
  ·have:H' i=G:=by
    split at hi
    ·exact hi
    ·rename_i h;have h:H' i=H0 i:=pW h;rw[h];cases h0:H0 i with
     |none=>rfl
     |some o=>rw[aCg h0] at hi;cases hi
   rw[r'.cn i this];rfl
  ·rename_i hd;split at hi
   ·rename_i h;exfalso;have h0:H0 i≠G:=λe=>h (hi.trans e.symm)
    obtain ⟨o,_,a,_,_⟩:=aCo (H0F h0 hd);rw[hi] at a;cases a
   ·exact r.cn i hi
 ·show (if H' x≠H0 x then H' x else H x)=G
  rw[hbd' x hx,nn x (kY nk hx)];split<;>rfl
 ·rintro (h|⟨K,h3,h4⟩)
  ·exact hx (nn x h)
  ·exact h4 (hW K (sR _ _ h3))
 ·have h2:(if H' x≠H0 x then H' x else H x)≠G:=h2
  split at h2
  ·intro hn;have h0:=hold x hx h2;obtain ⟨o,ho⟩:=uw.1 h0;rw[aCg ho] at hn;cases hn
  ·exact h2
 ·by_cases hd:dom x
  ·rcases hd with h|⟨K,h3,h4⟩
   ·exact absurd (nn x h) hx
   ·obtain ⟨k,hk⟩:=uw.1 h4;have hh:H0 x=H x:=aG (.inr ⟨K,h3,h4⟩);obtain ⟨e1,e2⟩:=hl (show H0 x≠G by rw[hh];exact hx)
    refine ⟨?_,?_⟩
    ·show (if H' x≠H0 x then H' x else H x)=_
     rw[aC (λhn=>hn e1)]
    ·show (if dom x then _ else _)=_
     rw[aG (.inr ⟨K,h3,h4⟩),e2,h3,sR _ _ h3];show (lk K ps).bind (λk=>lk k (jG al))=V K
     rw[hk];exact (vH hg).2 (by rw[<-uY];exact LW _ hk)
  ·exact same hx hd
end
end Go.bM
namespace Go.bM
variable {all:nu} {o:S'} {K i new nx' k f:Nat} {x y:AV} {l W ks:bJ} {ops:eP} {H0 H':Hf} {fv v:SV} {aa:bc} {ob:Prop->cH} {L:Ow} {r:C'} {p:List cH×LS} {g1:Gh} {xs:bb} {ro:Bool} {Rd:Z bJ} {J:Type} {bs:cT}
section
variable {F F':Hf} {g g':Gb} {Y:Nat->Ow} {c:Nat->cD} {s s' s1:LS} {T:Tf} {H:Hf} {E:Env} {pn:Nat->Bool} {nt:Nat}
structure WS where
 F:Hf
 g:Gb
 Y:Nat->Ow
 c:Nat->cD
 m:MS
structure In (s:LS) (w:WS):Prop where
 r:Rel w.F w.g w.Y w.c s w.m.T w.m.H
 bd:∀x,w.m.nx<=x->w.m.H x=G
def tW:Nat:=576460756598390784
structure Ext (pn:Nat->Bool) (w w':WS):Prop where
 F:oE w.F w'.F
 g:∀k,pn k=M->w'.g k=w.g k
 nx:w.m.nx<=w'.m.nx
 old:∀x,x<w.m.nx->w'.m.H x≠G->w.m.H x≠G
 ro:pn tW=M->∀x,w.m.H x≠G->w'.m.H x=w.m.H x/\w'.c x=w.c x
def Ext.refl (w:WS):Ext pn w w:=⟨.refl _,λ_ _=>rfl,de _,λ_ _ h=>h,λ_ _ _=>⟨rfl,rfl⟩⟩
def Ext.trans {w w1 w2:WS} (a:Ext pn w w1) (b:Ext pn w1 w2):Ext pn w w2:=⟨a.F.trans b.F,λk h=>(b.g k h).trans (a.g k h),kY a.nx b.nx,λx hx h=>a.old x hx (b.old x (A6 hx a.nx) h),λh x hx=>have ⟨a1,a2⟩:=a.ro h x hx;have ⟨b1,b2⟩:=b.ro h x (a1 ▸ hx);⟨b1.trans a1,b2.trans a2⟩⟩
def Jb (all:nu) (o:S') (ts:fk):Z Bool:=
 match o.guard with
 |none=>V M
 |some p=>(match LM all p.1 with
  |none=>V I
  |some t=>(match lk t ts with
   |some (.lit (.bool b))=>V (b==p.2)
   |some (.dr [])=>V I
   |_=>G))
def Ja (r:Rel F g Y c s T H) {b:Bool} (h:Jb all o s.ts=V b):j0 all o T=V b:=by
 unfold Jb at h;unfold j0;split at h
 ·rename_i e;rw[e];exact h
 ·rename_i p e;rw[e];show xP all T p.1 p.2=V b;unfold xP;split at h
  ·rename_i e;rw[e];exact h
  ·rename_i t e;rw[e];show az (T t) (aox p.2)=V b;split at h
   ·rename_i hl;obtain ⟨v,v1,v2⟩:=r.tm t _ hl (by simp)
    cases v2;rw[v1];exact h
   ·rename_i hl;obtain ⟨v,v1,v2⟩:=r.tm t _ hl (by simp)
    cases v2 with|dr q=>cases q;rw[v1];exact h
   ·cases h
def rdL (s:LS) (x:Ew):Z bJ:=
 match dU s.ts x with
 | .lit v=>(match ln (V v) with| []=>V []|_=>G)
 | .sl .. =>V []
 | .kh _=>V []
 | .agg _=>V []
 | .dr _=>V []
 | .fn .. =>V []
 | .el K _ _ _=>az (lk K s.bs) λ_=>V [K]
 | .ms K _ _ _=>az (lk K s.bs) λ_=>V [K]
 | .mp K=>(match lk K s.bs with|some (.map _)=>V [K]|_=>G)
 | .it K=>(match lk K s.bs with|some (.iter _ _)=>V [K]|_=>G)
 | .undef=>G
def Jn (s:LS):List Ew->Z bJ
 | []=>V []
 |x::l=>cC (rdL s x) (Jn s l) λa b=>V (a++b)
def afp (s:LS) (op:Op):Z bJ:=
 match op with
 | .load _ x=>Jn s [x]
 | .store _ x y=>Jn s [x,y]
 | .lookup _ x k _=>Jn s [x,k]
 | .mapUpdate _ m k x=>Jn s [m,k,x]
 | .insert _ _ _ _=>G
 | .next it _=>Jn s [it]
 | .range _ x=>Jn s [x]
 | .call c=>Jn s c.args.toList
 |_=>V []
def Rel.head (r:Rel F g Y c s T H) {b:Bx} (hb:lk K s.bs=V b) (tf:(g K).b=M):c (g K).n=V K:=by
 obtain ⟨q,_,q3⟩:=r.bx K b hb;generalize Y K=L at q q3;cases q with
 |flat=>exact (q3 _ j7).2
 |nil h=>rw[h] at tf;cases tf
 |bY=>exact (q3 _ j7).2
 |map=>exact (q3 _ j7).2
 |iter=>exact (q3 _ j7).2
def aJM (r:Rel F g Y c s T H) {x:Ew} (h:rdL s x=V l):∀i∈ln (dB T x),F i≠G\/∃K∈l,c i=V K:=λi hi=>by
 have key:∀{y},dU s.ts x=y->y≠ .undef->∃v,VA F g v y/\i∈ln (V v):=λhy hu=>by
  obtain ⟨v,v1,v2⟩:=r.val hy hu;rw[v1] at hi;exact ⟨v,v2,hi⟩
 have one:∀{j k:Nat},i∈ [j]->c j=V k->F i≠G\/∃K∈ [k],c i=V K:=λh e=>.inr ⟨_,j7,by rw[gL.1 h];exact e⟩
 unfold rdL at h;split at h
 ·rename_i v hv;obtain ⟨w,w1,w2⟩:=key hv (by simp)
  cases w1;split at h
  ·rename_i e;rw[e] at w2;cases w2
  ·cases h
 ·rename_i hv;obtain ⟨w,w1,w2⟩:=key hv (by simp)
  cases w1 with
  |nil=>cases w2
  |sle=>cases w2
  |sl hn hF=>exact .inl (by rw[gL.1 w2];obtain ⟨o,ho⟩:=ZL hF;rw[ho];simp)
 ·rename_i hv;obtain ⟨w,w1,w2⟩:=key hv (by simp)
  cases w1 with
  |kh hF=>exact .inl (by rw[gL.1 w2];obtain ⟨o,ho⟩:=ZL hF;rw[ho];simp)
 ·rename_i hv;obtain ⟨w,w1,w2⟩:=key hv (by simp)
  cases w1;cases w2
 ·rename_i hv;obtain ⟨w,w1,w2⟩:=key hv (by simp)
  cases w1;cases w2
 ·rename_i hv;obtain ⟨w,w1,w2⟩:=key hv (by simp)
  cases w1;cases w2
 ·rename_i hv;obtain ⟨b,hb,h⟩:=aq h;cases h;obtain ⟨w,w1,w2⟩:=key hv (by simp)
  cases w1 with|el _ _ _ _ tf=>exact one w2 (r.head hb tf)
 ·rename_i hv;obtain ⟨b,hb,h⟩:=aq h;cases h;obtain ⟨w,w1,w2⟩:=key hv (by simp)
  cases w1 with
  |sK=>cases w2
  |yI=>cases w2
  |ms _ _ _ tf=>exact one w2 (r.head hb tf)
 ·rename_i hv;split at h
  ·rename_i hb;cases h;obtain ⟨w,w1,w2⟩:=key hv (by simp)
   cases w1;obtain ⟨q,_,q3⟩:=r.bx _ _ hb;generalize Y _=L at q q3;cases q with|map=>exact one w2 (q3 _ j7).2
  ·cases h
 ·rename_i hv;split at h
  ·rename_i hb;cases h;obtain ⟨w,w1,w2⟩:=key hv (by simp)
   cases w1;obtain ⟨q,_,q3⟩:=r.bx _ _ hb;generalize Y _=L at q q3;cases q with|iter=>exact one w2 (q3 _ j7).2
  ·cases h
 ·cases h
def X7 (r:Rel F g Y c s T H):∀{xs:List Ew} {l:bJ},Jn s xs=V l->∀i∈qx T xs,F i≠G\/∃K∈l,c i=V K
 | [],_,_,i,hi=>by cases hi
 |x::xs,l,h,i,hi=>by
  obtain ⟨a,b,h1,h2,h⟩:=bU h;cases h;rcases eV.1 hi with hi|hi
  ·exact (aJM r h1 i hi).imp_right λ⟨K,m,e⟩=>⟨K,gX _ m,e⟩
  ·exact (X7 r h2 i hi).imp_right λ⟨K,m,e⟩=>⟨K,jb _ m,e⟩
def age {T:Tf}:∀{xs:List Ew},∀i∈JG T xs,i∈qx T xs
 |x::xs,i,hi=>by
  rcases eV.1 (show i∈idM (dB T x)++JG T xs from hi) with hi|hi
  ·refine gX _ ?_;generalize dB T x=v at hi;unfold idM at hi;split at hi
   ·exact hi
   ·cases hi
  ·exact jb _ (age i hi)
def aHC (r:Rel F g Y c s T H) {op:Op} (h:afp s op=V l):∀i∈Oq op T,F i≠G\/∃K∈l,c i=V K:=by
 cases op<;>first
  |exact X7 r h
  |exact λi hi=>nomatch (show i∈ [] from hi)
  |(cases (show G=V l from h);done)
  |(
   rename_i c
   intro i hi
   refine X7 r h i ?_
   have hi:i∈aT (vC c) (JG T c.args.toList) (qx T c.args.toList):=hi
   rw[cE] at hi
   split at hi
   ·exact age i hi
   ·exact hi)
structure Ev where
 i:Nat
 nw:Nat
 r:Sr1
 W:bJ
 Rd:Option bJ
 cl:Bool
structure Step (E:Env) (nt:Nat) (pn:Nat->Bool) (ops:eP) (e:Ev) (w w':WS):Prop where
 st:∃o,ops[e.i]? =V o/\qA E nt ops e.i o w.m e.r w'.m
 F:oE w.F w'.F
 g:∀k,pn k=M->w'.g k=w.g k
 nx:w.m.nx<=w'.m.nx
 need:∀l,e.Rd=V l->∀x,e.r.need x->w.F x≠G\/∃K∈l,w.c x=V K
 D:∀x,e.r.D x=M->x=e.nw\/(e.cl=M/\w.m.nx<=x)\/∃K∈e.W,w.c x=V K
 fr:∀x,w.m.H x≠G->(∀K∈e.W,w.c x≠V K)->w'.m.H x=w.m.H x/\w'.c x=w.c x
 FG:e.cl=I->(∀x k,w.c x=V k->w'.c x=V k\/w'.m.H x=G)/\(w'.m.H e.nw≠G->∃K∈e.W,w'.c e.nw=V K)
 born:∀x,w.m.H x=G->w'.m.H x≠G->x=e.nw\/w.m.nx<=x
 frp:∀x,e.r.frp x->x=e.nw\/(e.cl=M/\w.m.nx<=x)
 newp:∀x,e.r.newp x->(x=e.nw/\x<w'.m.nx)\/(e.cl=M/\w.m.nx<=x/\x<w'.m.nx)
def Step.op {op:Op} {w:WS} (hi:ops[i]? =V o) (he:o.op=op) (hk:Ok E pn op s s1 x W) (hw:Jb ops.toList o s.ts=V M) (hd:mX nt o.dst=M) (h:In s w) (hn:w.m.H new=G) (nk:w.m.nx<=nx') (qL:new<nx'):
  ∃r w',Step E nt pn ops ⟨i,new,r,W,afp s op,I⟩ w w'/\In (s1.put o.dst x) w'/\w'.m.nx=nx':=by
 subst he;obtain ⟨v,us,g',φ',c',h1,h2,h3,h4,h5,h6,h7,h8⟩:=hk.go h.r hn;have live:∀{x},gY w.m.H us x≠G->w.m.H x=G->x=new:=λ{x} cQ h0=>by
  by_cases hm:x∈us.map (·.1)
  ·obtain ⟨u,hu,rfl⟩:=dM.1 hm;rcases h6 u hu with e|⟨K,_,e⟩
   ·exact e
   ·rw[h.r.cn _ h0] at e;cases e
  ·rw[Lm hm] at cQ;exact absurd h0 cQ
 refine ⟨_,⟨w.F,g',φ',c',_⟩,⟨⟨o,hi,qA.op hi (Ja h.r hw) hd h1 hn nk⟩,.refl _,h4,nk,λl hl x hx=>aHC h.r hl x hx,λx hx=> ?_,h5,λ_=>⟨h7,h8⟩,λx h0 cQ=>.inl (live cQ h0),λx hx=>.inl hx,λx hx=>.inl ⟨hx.1,by rw[show x=new from hx.1];exact qL⟩⟩,⟨h3.put o.dst h2,λx hx=> ?_⟩,rfl⟩
 ·have hx:iL (x∈us.map (·.1)\/x=new)=M:=hx
  rcases tq hx with hx|hx
  ·obtain ⟨u,hu,rfl⟩:=dM.1 hx;exact (h6 u hu).imp_right λ⟨K,m,e⟩=>.inr ⟨K,m,e⟩
  ·exact .inl hx
 ·exact pW λcQ=>by
   have:=live cQ (h.bd x (kY nk hx));have hx:nx'<=x:=hx;omega
end
section
variable {F F':Hf} {g g':Gb} {Y:Nat->Ow} {c:Nat->cD} {s s' s1:LS} {T:Tf} {H:Hf} {E:Env} {pn:Nat->Bool} {nt:Nat}
def Step.skip {w:WS} (hi:ops[i]? =V o) (hw:Jb ops.toList o s.ts=V I) (hd:mX nt o.dst=M) (h:In s w) (hn:w.m.H new=G) (nk:w.m.nx<=nx'):
  ∃r w',Step E nt pn ops ⟨i,new,r,[],V [],I⟩ w w'/\In (s.put o.dst (.dr [])) w'/\w'.m.nx=nx':=by
 have st:=qA.skip (E:=E) (nt:=nt) (ops:=ops) (i:=i) (new:=new) hi (Ja h.r hw) hd hn;refine ⟨_,⟨w.F,w.g,w.Y,w.c,⟨eG w.m.T o.dst (.dr []),w.m.H,nx'⟩⟩,⟨⟨o,hi,⟨st.st,st.T,st.H,nk⟩⟩,.refl _,λ_ _=>rfl,nk,λl _ x hx=>(by cases hx),λx hx=>.inl (tq hx),λx _ _=>⟨rfl,rfl⟩,λ_=>⟨λ_ _ h=>.inl h,λh=>absurd hn h⟩,λx h0 cQ=>absurd h0 cQ,λx hx=>.inl hx,λx hx=>by cases hx⟩,⟨h.r.put o.dst λ_=>.dr .nil,λx hx=>h.bd x (kY nk hx)⟩,rfl⟩
open Classical in
def qA.aFz {m:MS} {c:Call} {H2:Hf} (hi:ops[i]? =V o) (hw:j0 ops.toList o m.T=V M) (hd:mX nt o.dst=M) (gu:o.op= .call c) (hc:Ao m.T c.callee=V fv) (has:gA m.T c.args.toList=V aa) (hs:qW E I fv aa H0 m.nx v H' nx') (hle:∀x y,H0 x=V y->m.H x=V y) (hb:∀x,m.nx<=x->m.H x=G) (hn:m.nx<=nx') (e1:∀x,H' x≠H0 x->H2 x=H' x) (e2:∀x,H' x=H0 x->H2 x=m.H x):
  qA E nt ops i o m ⟨v,λx=>iL (H' x≠H0 x),H',λx=>H0 x≠G,λx=>m.nx<=x,λx=>m.nx<=x/\x<nx'⟩ ⟨eG m.T o.dst v,H2,nx'⟩:=by
 have h0:∀x,m.nx<=x->H0 x=G:=λx hx=>by
  cases h:H0 x with
  |none=>rfl
  |some y=>have:=hle x y h;rw[hb x hx] at this;cases this
 refine ⟨λro=> ?_,rfl,?_,hn⟩
 ·have key:=atZ (E:=E) (ro:=ro) (nt:=nt) (D:=λx=>iL (H' x≠H0 x)) hi hw hd gu hc has hs (λx hx _=>by simpa using hx) λx hx hl=>(show H' x=H0 x by simpa using hx).trans (h0 x hl)
  exact λm' g f T1 a w K Q hE jj hr hT JN qL hk=>key m' g f T1 a w K Q hE jj hr hT (λx hx=>by
   obtain ⟨y,hy⟩:=uw.1 hx;rw[JN x hx,hle x y hy,hy]) qL hk
 ·funext x;show H2 x=rM _ H' m.H x;unfold rM;split
  ·rename_i h;exact e1 x (by simpa using h)
  ·rename_i h;exact e2 x (by simpa using h)
mutual
def HA:AV->Bool
 | .agg cs=>vx cs
 | .dr cs=>vx cs
 | .fn _ a b=>vx a&&vx b
 | .sl .. =>I
 | .kh _=>I
 |_=>M
def vx:bb->Bool
 | []=>M
 |x::l=>HA x&&vx l
end
mutual
def SH:∀{x:AV} {v:SV},HA x=M->VA F g v x->VA F' g v x
 | .agg cs,_,h,.agg q=>.agg (Df h q)
 | .dr cs,_,h,.dr q=>.dr (Df h q)
 | .fn f a b,_,h,.fn _ q1 q2=>have h:=jK.1 (show (vx a&&vx b)=M from h); .fn _ (Df h.1 q1) (Df h.2 q2)
 | .sl ..,_,h,_=>by cases (show I=M from h)
 | .kh _,_,h,_=>by cases (show I=M from h)
 | .lit _,_,_,.lit v=>.lit v
 | .el ..,_,_,.el K s j f hb=>.el K s j f hb
 | .ms ..,_,_,.sK s hb=>.sK s hb
 | .ms ..,_,_,.ms s lo n hb=>.ms s lo n hb
 | .ms ..,_,_,.yI s lo hl=>.yI s lo hl
 | .mp _,_,_,.mp K=>.mp K
 | .it _,_,_,.it K=>.it K
 | .undef,v,_,_=>.undef v
def Df:∀{x:bb} {v:bc},vx x=M->dH F g v x->dH F' g v x
 |_,_,_,.nil=>.nil
 |x::l,_,h,.cons q t=>have h:=jK.1 (show (HA x&&vx l)=M from h); .cons (SH h.1 q) (Df h.2 t)
end
def aCf (Q:bz):Prop:=∀r∈Q,vx r=M
def kX.HA:∀{l vs xs L},vx xs=M->kX F l vs xs L->kX F' l vs xs L
 |_,_,_,_,_,.nil=>.nil
 |l,_,x::xs,_,h,.cons q t=>by
  have h:=jK.1 (show (bM.HA x&&vx xs)=M from h);refine .cons ?_ (t.HA h.2);generalize l.headD .d=sh at q;cases q with
  |d q=>exact .d (SH h.1 q)
  |any=>exact .any _
  |nil=>exact .nil
  |sl=>cases (show I=M from h.1)
def TR.HA:∀{l vs Q L},aCf Q->TR F l vs Q L->TR F' l vs Q L
 |_,_,_,_,_,.nil=>.nil
 |_,_,_,_,h,.cons q t=>.cons (q.HA (h _ (by simp))) (t.HA λr hr=>h r (dQ _ hr))
def nodX (ob:Prop->cH) (b:Bx):Z (List cH):=
 match b with
 | .flat _ cs=>aT (vx cs) (V []) G
 | .bY _ _ _ _ Q o=>aT (vx (o.map (·.2))) (V [ob (aCf Q)]) G
 | .iter _ _=>V []
 | .map _=>G
def aAf (ob:Prop->cH):cT->Z (List cH)
 | []=>V []
 |p::l=>cC (nodX ob p.2) (aAf ob l) λa r=>V (a++r)
def afA:∀{l:bb} {x:AV},vx l=M->x∈l->HA x=M
 |y::l,x,h,hx=>by
  have h:=jK.1 (show (HA y&&vx l)=M from h);rcases da.1 hx with rfl|hx
  ·exact h.1
  ·exact afA h.2 hx
def aHE (hJ:∀P,(ob P).need=P) {b:Bx} {r:List cH} (h:nodX ob b=V r) (ho:jl r) (q:eT F g k b L):eT F' g k b L:=by
 cases q with
 |flat q=>exact .flat (Df (ba h).1 q)
 |nil hb=>exact .nil hb
 |bY hb hz hu hc q hoA=>
  obtain ⟨h2,h⟩:=ba h;cases h;have h3:=ho.1;rw[hJ] at h3;refine .bY hb hz hu hc (q.HA h3) λp hp=> ?_
  obtain ⟨v,v1,v2⟩:=hoA p hp;exact ⟨v,v1,SH (afA h2 (dM.2 ⟨p,hp,rfl⟩)) v2⟩
 |map=>cases h
 |iter=>exact .iter
def pc:∀{a b:List cH},jl (a++b)->jl a/\jl b
 | [],_,h=>⟨trivial,h⟩
 |_::_,_,h=>⟨⟨h.1,(pc h.2).1⟩,(pc h.2).2⟩
def amv {ob:Prop->cH} (hJ:∀P,(ob P).need=P) {k:Nat} {b:Bx} {L:Ow}:∀{l:cT} {r:List cH},aAf ob l=V r->jl r->(k,b)∈l->eT F g k b L->eT F' g k b L
 |p::l,r,h,ho,hm,q=>by
  obtain ⟨a,r',h1,h2,h⟩:=bU h;cases h;obtain ⟨o1,o2⟩:=pc ho;rcases da.1 hm with e|hm
  ·subst e;exact aHE hJ h1 o1 q
  ·exact amv hJ h2 o2 hm q
structure GI where
 {P:Prop}
 h:P
 gp:Gp
def Fh {P:Prop} (h:P) (need:Prop):cH:=⟨need,P,h⟩
inductive It (E:Env) where
 |op {P:Prop} (h:P) (pl:Pl)
 |gh (g:GI)
 |ord (l:bJ)
 |call {ro:Bool} {f:Nat} {bs gI:cT} {xs:bb} {y:AV} (h:kL ro E f bs xs y gI) (ps rs:ir)
 |J8 {ro:Bool} {f:Nat} {xs:bb} {y:AV} (h:kL ro E f [] xs y [])
 |opF {P:Prop} (h:P) (pl:Pl) (fz:List GI)
 |aFy {f:Nat} {bs gI:cT} {xs:bb} {y:AV} {P:Prop} (h:iy E f bs xs y gI) (gs:List GI) (hd:P) (ps rs:ir) (fz:List GI)
def Gp.key:Gp->Nat
 | .er K _ _=>K
 | .cls _ K2 _ _ _ _=>K2
 |_=>0
def aaG (q:GI) (s:LS):Z (List cH×LS):=
 match q.gp with
 | .er _ _ _=>JO (λ_=>I) s q.gp (Fh q.h)
 | .cld _ _ _ _ _=>JO (λ_=>I) s q.gp (Fh q.h)
 |_=>G
def apC (q q2:GI) (s:LS):Z (List cH×LS):=
 match q.gp,q2.gp with
 | .cls K _ _ _ _ _,.er K' m n=>aT (ku K' K) (az (JO (λ_=>I) s q.gp (Fh q.h)) λp=>az (lk K p.2.bs) λb=>V (p.1++agB p.2 K n b (Fh q2.h),p.2.agC K m n b)) G
 |_,_=>G
def aPB (q:GI):Bool:=match q.gp with| .cls _ _ _ _ _ _=>M|_=>I
def SU:List GI->LS->Z (List cH×LS)
 | [],s=>V ([],s)
 | [q],s=>aaG q s
 |q::q2::l,s=>aT (aPB q) (az (apC q q2 s) λp=>az (SU l p.2) λp'=>V (p.1++p'.1,p'.2)) (az (aaG q s) λp=>az (SU (q2::l) p.2) λp'=>V (p.1++p'.1,p'.2))
def AW (F:Hf) (g:Gb) (c:Nat->cD) (T:Tf) (H:Hf) (ks:bJ) (s:LS):Prop:=∃F1 φ1 c1,oE F F1/\((∀i k,c1 i=V k->c i=V k)/\∀i,F1 i≠G->F i≠G\/∃K∈ks,c i=V K)/\Rel F1 g φ1 c1 s T H
def AW.mono {LZ:bJ} (h:AW F g c T H ks s) (hk:∀K∈ks,K∈LZ):AW F g c T H LZ s:=
 let ⟨F1,φ1,c1,a1,a2,a3⟩:=h
 ⟨F1,φ1,c1,a1,⟨a2.1,λi h=>(a2.2 i h).imp_right λ⟨K,m,e⟩=>⟨K,hk K m,e⟩⟩,a3⟩
def afK {q:GI} {s:LS} (h:aaG q s=V p) (ho:jl p.1) {F:Hf} {g:Gb} {Y:Nat->Ow} {c:Nat->cD} {T:Tf} {H:Hf} (r:Rel F g Y c s T H):AW F g c T H [q.gp.key] p.2:=by
 unfold aaG at h;split at h
 ·rename_i K m n e;rw[e] at h;obtain ⟨b,hb,h⟩:=aq h;cases h;obtain ⟨F',c',a1,a2,a3⟩:=r.er (m:=m) (n:=n) (ob:=Fh q.h) (λ_=>rfl) hb ho
  exact ⟨F',Y,c',a1,⟨a2.1,λi h=>(a2.2.1 i h).imp_right λh=>⟨_,j7,by rw[e];exact h⟩⟩,a3⟩
 ·rename_i K j f y Q' e;rw[e] at h;obtain ⟨b,hb,h⟩:=aq h;split at h
  ·obtain ⟨y',hy,h⟩:=aq h;obtain ⟨hf,h⟩:=ba h;cases h;obtain ⟨φ',c',a1,a2⟩:=r.Jl hb λq'=>eT.cld ho.2.1 ho.1 hy ((bR _ _).1 hf) q'
   exact ⟨F,φ',c',.refl _,⟨a1,λ_ h=>.inl h⟩,a2⟩
  ·cases h
 ·cases h
def aAm {q q2:GI} {s:LS} (h:apC q q2 s=V p) (ho:jl p.1) {F:Hf} {g:Gb} {Y:Nat->Ow} {c:Nat->cD} {T:Tf} {H:Hf} (r:Rel F g Y c s T H):AW F g c T H [q.gp.key,q2.gp.key] p.2:=by
 unfold apC at h;split at h
 ·rename_i K K2 j f n1 Q' K' m n e e2;obtain ⟨hK,h⟩:=ba h;obtain rfl:=(beq_iff _ _).1 hK;obtain ⟨p1,h1,h⟩:=aq h;obtain ⟨b,hb,h⟩:=aq h;cases h;obtain ⟨o1,o2⟩:=pc ho;rw[e] at h1;obtain ⟨φ1,c1,a1,a2⟩:=r.gcls (λ_=>rfl) h1 o1
  obtain ⟨F',c',b1,b2,b3⟩:=a2.er (m:=m) (n:=n) (ob:=Fh q2.h) (λ_=>rfl) hb o2
  rw[e,e2];refine ⟨F',φ1,c',b1,⟨λi k hi=> ?_,λi hi=> ?_⟩,b3⟩
  ·rcases a1 i k (b2.1 i k hi) with h'|⟨h',_⟩
   ·exact h'
   ·exact absurd (h' ▸ hi) (b2.2.2.2 i)
  ·rcases b2.2.1 i hi with h|h
   ·exact .inl h
   ·rcases a1 i _ h with h|⟨_,h⟩
    ·exact .inr ⟨_,dQ _ j7,h⟩
    ·exact .inr ⟨_,j7,h⟩
 ·cases h
def AW.then {LZ:bJ} {s':LS} (h:AW F g c T H ks s) (k:∀{F1 φ1 c1},Rel F1 g φ1 c1 s T H->AW F1 g c1 T H LZ s'):AW F g c T H (ks++LZ) s':=by
 obtain ⟨F1,φ1,c1,a1,a2,a3⟩:=h;obtain ⟨F2,φ2,c2,b1,b2,b3⟩:=k a3;refine ⟨F2,φ2,c2,a1.trans b1,⟨λi k h=>a2.1 i k (b2.1 i k h),λi h=> ?_⟩,b3⟩
 rcases b2.2 i h with h|⟨K,m,e⟩
 ·exact (a2.2 i h).imp_right λ⟨K,m,e⟩=>⟨K,gX _ m,e⟩
 ·exact .inr ⟨K,jb _ m,a2.1 i K e⟩
def QL:∀{l:List GI} {s:LS} {p:List cH×LS},SU l s=V p->jl p.1->∀{F:Hf} {g:Gb} {Y:Nat->Ow} {c:Nat->cD} {T:Tf} {H:Hf},Rel F g Y c s T H->AW F g c T H (l.map λq=>q.gp.key) p.2
 | [],s,p,h,_,F,g,Y,c,T,H,r=>by cases h;exact ⟨F,Y,c,.refl _,⟨λ_ _ h=>h,λ_ h=>.inl h⟩,r⟩
 | [q],s,p,h,ho,F,g,Y,c,T,H,r=>afK h ho r
 |q::q2::l,s,p,h,ho,F,g,Y,c,T,H,r=>by
  unfold SU at h;rw[cE] at h;split at h
  ·obtain ⟨p1,h1,h⟩:=aq h;obtain ⟨p2,h2,h⟩:=aq h;cases h;obtain ⟨o1,o2⟩:=pc ho;exact (aAm h1 o1 r).then λr1=>QL h2 o2 r1
  ·obtain ⟨p1,h1,h⟩:=aq h;obtain ⟨p2,h2,h⟩:=aq h;cases h;obtain ⟨o1,o2⟩:=pc ho;exact (afK h1 o1 r).then λr1=>QL (l:=q2::l) h2 o2 r1
end
section
variable {F F':Hf} {g g':Gb} {Y:Nat->Ow} {c:Nat->cD} {s s' s1:LS} {T:Tf} {H:Hf} {E:Env} {pn:Nat->Bool} {nt:Nat}
def Gw:SV->Bool
 | .bool _=>M
 | .int _ _=>M
 | .str _=>M
 |_=>I
def aAl:AV->Bool
 | .lit v=>Gw v
 |_=>I
def Yn:bb->Bool
 | []=>M
 |x::l=>aAl x&&Yn l
def litA:AV->Bool
 | .lit v=>Gw v
 | .agg cs=>Yn cs
 |_=>I
def apz:SV->Bool
 | .agg cs=>cs.all Gw
 |v=>Gw v
def Ym:∀{xs:bb} {vs:bc},Yn xs=M->dH F g vs xs->vs.all Gw=M/\dH F' g' vs xs
 | [],_,_,.nil=>⟨rfl,.nil⟩
 |x::l,_,h,.cons (v:=v) hv ht=>by
  have h:=jK.1 (show (aAl x&&Yn l)=M from h);obtain ⟨h1,h2⟩:=Ym h.2 ht;cases x with
  |lit w=>
   cases hv;exact ⟨by rw[qQ,h1,Bool.and_true];exact h.1,.cons (.lit _) h2⟩
  |_=>cases h.1
def aJV (h:Gw v=M):apz v=M:=by cases v<;>first|exact h|cases h
def amG (h:litA x=M) (hv:VA F g v x):apz v=M/\VA F' g' v x:=by
 cases x with
 |lit w=>cases hv;exact ⟨aJV h,.lit _⟩
 |agg cs=>
  cases hv with
  |agg hv=>
  obtain ⟨h1,h2⟩:=Ym (F':=F') (g':=g') h hv;exact ⟨h1,.agg h2⟩
 |_=>cases h
def Yl {g2:Gh} (he:g2.η=g1.η) (h:Gw v=M) (hv:VR g1 r v):VR g2 r v:=by
 cases hv<;>first|(cases h;done)|skip
 ·exact .bool _
 ·rename_i hn;exact .int _ _ (by rw[he];exact hn)
 ·exact .str _
def OC {g1 g2:Gh} (he:g2.η=g1.η):∀{vs:bc} {us:fG},vs.all Gw=M->mZ g1 us vs->mZ g2 us vs
 | [],_,_,.nil=>.nil
 |v::vs,_,h,.cons hv ht=>by
  rw[qQ,bG] at h;exact .cons (Yl he h.1 hv) (OC he h.2 ht)
def amF {g1 g2:Gh} (he:g2.η=g1.η):∀{vs:bc} {us:fG},vs.all Gw=M->hY g1 us vs->hY g2 us vs
 | [],_,_,.nil=>.nil
 |v::vs,_,h,.cons h1 hv ht=>by
  rw[qQ,bG] at h;exact .cons h1 (Yl he h.1 hv) (amF he h.2 ht)
def aHJ {g2:Gh} (he:g2.η=g1.η) (h:apz v=M) (hv:VR g1 r v):VR g2 r v:=by
 cases v<;>first
  |exact Yl he h hv
  |(cases hv with|agg hv=>exact .agg (amF he h hv))
def aha (E:Env) (s:LS) (op:Op) {ro:Bool} {f:Nat} {xs:bb} {y:AV} (h:kL ro E f [] xs y []):Z oX:=
 match op with
 | .call c=>(match c.callee with
  | .value o=>(match dU s.ts o with
   | .fn f' [] []=>aT (ku f' f&&(Yn (qu s.ts c.args.toList)&&litA y)) (V ⟨[⟨kL ro E f [] (qu s.ts c.args.toList) y [],_,h⟩],s,y,[]⟩) G
   |_=>G)
  |_=>G)
 |_=>G
def qA.pure {m:MS} {nx0:Nat} {c:Call} (hi:ops[i]? =V o) (hw:j0 ops.toList o m.T=V M) (hd:mX nt o.dst=M) (gu:o.op= .call c) (hc:Ao m.T c.callee=V (.fn (.func f) [] [])) (has:gA m.T c.args.toList=V aa) (ha:aa.all Gw=M) (hv:apz v=M) (hs:qW E I (.fn (.func f) [] []) aa (λ_=>G) 0 v H' nx0) (hn:m.nx<=nx'):qA E nt ops i o m ⟨v,λ_=>I,m.H,λ_=>False,λ_=>False,λ_=>False⟩ ⟨eG m.T o.dst v,m.H,nx'⟩:=by
 refine ⟨λro k g f1 T1 a w K Q hE jj hr hT JN qL hk=> ?_,rfl,funext λx=>rfl,hn⟩
 let g0:Gh:={g with O:=λ_=>G}
 refine amr (g:=g) (H:=λ_=>G) (nx:=0) (KE:=λe w'=>∃r,e=aaS I r/\VR g r v/\w.heap.size<=w'.heap.size/\(∀b,b<w.heap.size->w'.heap[b]? =w.heap[b]?)/\w'.os=w.os/\w'.tape=w.tape/\w'.output=w.output) hi hw gu hc has jj hT (λu us hu oc=> ?_) ?_
 ·refine (hs (k-1) g0 w u us ⟨hE.ty,hE.fn,hE.lt,hE.eq,hE.mix,hE.sz⟩ ⟨λid o h=>(by cases h),λi j x y b c d h=>(by cases h)⟩ (λ_ _=>rfl) ?_ (OC (g1:=g) (g2:=g0) rfl ha oc)).mono λe w' ⟨r,he,g',h1,h2,h3,h4,h5⟩=>⟨r,he,aHJ (show g.η=g'.η from h3.le.η.symm) hv h1,h3.size,λb hb=>h3.old b hb λ⟨id,o,c,q,_⟩=>(by cases q),h3.os,h3.tape,h3.output⟩
  cases hu with
  | @fn _ first j5 _ _ q1 q2=>exact .fn (OC (g1:=g) (g2:=g0) rfl rfl q1) (OC (g1:=g) (g2:=g0) rfl rfl q2)
 ·rintro e w' ⟨r,rfl,h1,h2,h3,h4,h5,h6⟩;refine ⟨I,r,rfl,λ_=> ?_,λh=>by cases h⟩
  have e1:rM (λ_=>I) m.H f1=f1:=rfl
  refine hk r w' g (jj.put hd h1) (hr.grow h2 h3) ⟨h4,h5,h6,h2,.refl _,λb hb _=>h3 b hb,λb hb h=>h⟩ λ_ _=>rfl
def Step.J8 {op:Op} {w:WS} {hC:kL ro E f [] xs y []} {r:oX} (hi:ops[i]? =V o) (he:o.op=op) (hk:aha E s op hC=V r) (ho:jl r.DV) (hw:Jb ops.toList o s.ts=V M) (hd:mX nt o.dst=M) (h:In s w) (nw:Nat) (hn:w.m.H nw=G) (nk:w.m.nx<=nx'):
  ∃r1 w',Step E nt pn ops ⟨i,nw,r1,r.W,V [],I⟩ w w'/\In (r.s.put o.dst r.x) w'/\w'.m.nx=nx':=by
 subst he;unfold aha at hk;split at hk
 ·rename_i cl gu;split at hk
  ·rename_i x aAY;split at hk
   ·rename_i f' hx;obtain ⟨hc,hk⟩:=ba hk;cases hk;simp only[bG] at hc;obtain ⟨k1,k2,k3⟩:=hc;obtain rfl:=(beq_iff _ _).1 k1;have hC':kL ro E f' [] (qu s.ts cl.args.toList) y []:=ho.1;obtain ⟨fv,v1,v2⟩:=h.r.val hx (by simp)
    have hnu:qV (qu s.ts cl.args.toList)=M:=by
     generalize qu s.ts cl.args.toList=l at k2;induction l with
     |nil=>rfl
     |cons x l ih=>
      have k2:=jK.1 (show (aAl x&&Yn l)=M from k2);show aT (sM x) I (qV l)=M;cases x with
      |lit=>exact ih k2.2
      |_=>cases k2.1
    obtain ⟨aa,w1,w2⟩:=h.r.gA hnu;obtain ⟨ha,has⟩:=Ym (F':=λ_=>G) (g':=lH) k2 w2
    obtain ⟨F',g',φ',c',v,H',nx0,e1,e2,e3,e4,e5,e6,e7,e8,e9⟩:=hC'.go (F:=λ_=>G) (g:=lH) (Y:=λ_=> []) (c:=λ_=>G) (H:=λ_=>G) (nx:=0) (aa:=aa) ⟨λt x ht=>(by cases ht),λk b hb=>(by cases hb),λi o hi=>(by cases hi),λ_ _=>rfl⟩ (λ_ _=>rfl) has
    obtain ⟨hv,_⟩:=amG (F':=F') (g':=g') k3 e6;have hva:VA w.F w.g v y:=(amG k3 e6).2;have hfv:fv= .fn (.func f') [] []:=by
     cases v2 with|fn _ q1 q2=>cases q1;cases q2;rfl
    rw[hfv] at v1;have stp:=qA.pure (nt:=nt) (m:=w.m) hi (Ja h.r hw) hd gu (show Ao w.m.T cl.callee=V (.fn (.func f') [] []) by rw[aAY];exact v1) w1 ha hv e1 nk
    exact ⟨_,⟨w.F,w.g,w.Y,w.c,_⟩,⟨⟨o,hi,stp⟩,.refl _,λ_ _=>rfl,nk,λl _ x hx=>hx.elim,λx hx=>(by cases hx),λx _ _=>⟨rfl,rfl⟩,λ_=>⟨λ_ _ hh=>.inl hh,λhh=>absurd hn hh⟩,λx h0 cQ=>absurd h0 cQ,λx hx=>hx.elim,λx hx=>hx.elim⟩,⟨h.r.put o.dst λ_=>hva,λx hx=>h.bd x (kY nk hx)⟩,rfl⟩
   ·cases hk
  ·cases hk
 ·cases hk
def Step.aOu {nw:Nat} {r:Sr1} {w w':WS} (h:Step E nt pn ops ⟨i,nw,r,W,Rd,I⟩ w w'):Step E nt pn ops ⟨i,nw,r,W,Rd,M⟩ w w':=
 ⟨h.st,h.F,h.g,h.nx,h.need,λx hx=>(h.D x hx).imp_right λq=>q.elim (λq=>(nomatch q.1)) .inr,h.fr,λq=>(nomatch q),h.born,λx hx=>(h.frp x hx).imp_right λq=>(nomatch q.1),λx hx=>(h.newp x hx).imp_right λq=>(nomatch q.1)⟩
def OI (K:Nat):cT->Bool
 | []=>M
 |p::l=> !mE K p.2.keys&&OI K l
def S9 {K:Nat}:∀{bs:cT},OI K bs=M->∀k b,lk k bs=V b->K∉b.keys
 |(k',b')::l,hf,k,b,hx=>by
  have hf:=jK.1 (show (!mE K b'.keys&&OI K l)=M from hf);rw[dy] at hx;split at hx
  ·cases hx;exact Jw hf.1
  ·exact S9 hf.2 k b hx
def unP (bs:cT) (ps:ir):bJ:=(ps.filter λq=> !pnL (wX bs) q.2).map (·.1)
def pinP (pn:Nat->Bool) (bs:cT) (s:LS) (al:ir):Bool:=al.all λq=>pnL (wX bs) q.2||(!pn q.1&&(OH q.1 s.ts&&OI q.1 s.bs))
def nodG (gs:List GI) (y:AV) (gI:cT) (ob:Prop->cH):Z (List cH):=
 match gs with
 | []=>V []
 |_=>aT (HA y) (aAf ob gI) G
def aaY (E:Env) (pn:Nat->Bool) (s:LS) (op:Op) {ro:Bool} {f:Nat} {bs gI:cT} {xs:bb} {y:AV} (h:kL ro E f bs xs y gI) (gs:List GI) (ob:Prop->cH) (ps rs:ir):Z oX:=
 match op with
 | .call c=>(match c.callee with
  | .value o=>az (SU gs s) λq=>(match dU q.2.ts o with
   | .fn f' fi ca=>vd (Sz ps (ps++rs) q.2.bs bs) (apo (ps++rs) gI) (nodG gs y gI ob) λb out nd=>
    aT ((ku f' f&&(qV (qu q.2.ts c.args.toList)&&((CI (ps++rs)&&ps.all λq=> !nO q.2)&&agR gI)))&&(((lz (fi++qu q.2.ts c.args.toList++ca)).all (inP ps (ps++rs))&&(kG y).all (inK (jG (ps++rs)) (ps++rs)))&&pinP pn bs (s.yQ (unP bs ps)) (ps++rs)))
     (V ⟨⟨kL ro E f b (MJ xs (uU (th (ps++rs)) (fi++qu q.2.ts c.args.toList++ca))) y gI,_,h⟩::(q.1++nd),⟨(s.yQ (unP bs ps)).ts,out++J1 (Fe (ps++rs)) (s.yQ (unP bs ps)).bs⟩,Gm (th (jG (ps++rs))) y,aT ro [] ((Fe (ps++rs)).map (·.1))⟩) G
   |_=>G)
  |_=>G)
 |_=>G
def akQ {f8 γ δ:Type} {x:Z J} {y:Z f8} {z:Z γ} {f:J->f8->γ->Z δ} {d:δ} (h:vd x y z f=V d):∃a b c,x=V a/\y=V b/\z=V c/\f a b c=V d:=by
 cases x<;>cases y<;>cases z<;>first|(cases h;done)|exact ⟨_,_,_,rfl,rfl,rfl,h⟩
def Sy {ps al:ir} {sb:cT}:∀{l r:cT},Sz ps al sb l=V r->wX r=wX l
 | [],r,h=>by cases h;rfl
 |p::l,r,h=>by
  obtain ⟨b,r',h1,h2,h⟩:=bU h;obtain ⟨_,h⟩:=ba h;cases h;exact bF (p.1:: ·) (Sy h2)
def Step.call {op:Op} {w:WS} {gI:cT} {hC:kL ro E f bs xs y gI} {gs:List GI} {ps rs:ir} {r:oX} (hJ:∀P,(ob P).need=P) (hi:ops[i]? =V o) (he:o.op=op) (hk:aaY E pn s op hC gs ob ps rs=V r) (ho:jl r.DV) (hw:Jb ops.toList o s.ts=V M) (hd:mX nt o.dst=M) (h:In s w) (nw:Nat):
  ∃r1 w',Step E nt pn ops ⟨i,nw,r1,r.W,V (ps.map (·.1)++gs.map λq=>q.gp.key),M⟩ w w'/\In (r.s.put o.dst r.x) w':=by
 subst he;unfold aaY at hk;split at hk
 ·rename_i cl gu;split at hk
  ·rename_i x aAY;obtain ⟨q,hq,hk⟩:=aq hk;split at hk
   ·rename_i f' fi ca hx;obtain ⟨b,out,nd,hb,agr,Fs,hk⟩:=akQ hk;obtain ⟨hc,hk⟩:=ba hk;cases hk;simp only[bG] at hc;obtain ⟨⟨k1,k2,⟨k3,k3b⟩,k4⟩,⟨k5,k6⟩,k7⟩:=hc;obtain rfl:=(beq_iff _ _).1 k1;obtain ⟨o1,o2⟩:=ho;obtain ⟨o2,o3⟩:=pc o2;have hC':kL ro E f' b (MJ xs (uU (th (ps++rs)) (fi++qu q.2.ts cl.args.toList++ca))) y gI:=o1;obtain ⟨F1,φ1,c1,a1,⟨a2,a3⟩,r1⟩:=QL hq o2 h.r;obtain ⟨fv,v1,v2⟩:=r1.val hx (by simp)
    obtain ⟨aa,w1,w2⟩:=r1.gA k2;cases v2 with
    | @fn _ _ fis cas _ _ q1 q2=>
    have hg:=k3;let gc:Gb:=λk=>w.g (th (jG (ps++rs)) k)
    have rc:=r1.enter hg hb;have AO:dH F1 gc (fis++aa++cas) (MJ xs (uU (th (ps++rs)) (fi++qu q.2.ts cl.args.toList++ca))):=HV (((q1.append w2).append q2).map (.refl F1) λj hj=>aEx hg (jJ.1 k5 j hj))
    have nn:∀x,w.m.nx<=x->se F1 c1 ps w.m.H x=G:=λx hx=>by
     cases e:se F1 c1 ps w.m.H x with
     |none=>rfl
     |some o=>have:=QM e;rw[h.bd x hx] at this;cases this
    obtain ⟨F',g',φ',c',v,H',nx',e1,e2,e3,e4,e5,e6,e7,e8,e9⟩:=hC'.go rc nn AO;rw[Sy hb] at e5;have aqd:∀K k,lk K (ps++rs)=V k->(g' k=gc k)\/(pn K=I/\(∀t x,lk t (s.yQ (unP bs ps)).ts=V x->K∉kG x)/\∀j b,lk j (s.yQ (unP bs ps)).bs=V b->K∉b.keys):=λK k hK=>by
     rcases (sx _ _).mp ((jJ.1 k7) (K,k) (pq hK)) with hp|hp
     ·exact .inl (e5 k hp)
     ·simp only[bG] at hp;exact .inr ⟨by simpa using hp.1,Q4 hp.2.1,S9 hp.2.2⟩
    have wB:∀k,nO k=M->g' k=gc k:=λk hk=>e5 k (by unfold pnL;rw[hk];rfl)
    have fin:∃F2,oE w.F F2/\(∀i o,F2 i=V o->F' i=V o/\(F1 i≠G->w.F i≠G))/\(∀k b L,lk k gI=V b->eT F' g' k b L->eT F2 g' k b L)/\VA F2 g' v y:=by
     cases gs with
     |nil=>
      cases hq;refine ⟨F',a1.trans e4,λi o hi=>⟨hi,λcQ=> ?_⟩,λ_ _ _ _ q=>q,e6⟩
      rcases a3 i cQ with h|⟨_,m,_⟩
      ·exact h
      ·cases m
     |cons gi gs=>
      obtain ⟨n1,n2⟩:=ba Fs;exact ⟨w.F,.refl _,λi o hi=>⟨e4 i o (a1 i o hi),λ_=>by rw[hi];simp⟩,λk b L np q=>amv hJ n2 o3 (pq np) q,SH n1 e6⟩
    obtain ⟨F2,f1,f2,f3,f4⟩:=fin;obtain ⟨g2,φ2,c2,H2,m1,m2,m3,m4,m5,m6,m7,m8,m9⟩:=(h.r.yQ (l:=unP bs ps)).leave h.bd a2 a1 r1.fr hg k3b rfl e4 e7 e8 e3 e2 f1 f2 f3 agr k4 wB λK k hK=>(aqd K k hK).imp_right λh=>h.2
    have g2f:∀k∈kG y,g2 (th (jG (ps++rs)) k)=g' k:=λk hk=>by
     rcases (sx _ _).mp (jJ.1 k6 k hk) with hh|hh
     ·obtain ⟨K',hK'⟩:=NU.1 (show (lk k (jG (ps++rs))).isSome=M from hh);rw[vJ hK'];exact m2 K' k ((vH hg).1 hK')
     ·obtain ⟨h1,h2,h3⟩:=agf hh;rw[HS h3,m1 k h2,wB k h1];show w.g k=w.g (th (jG (ps++rs)) k);rw[HS h3]
    have hs:=auY (fi:=fis) (aa:=aa) (ca:=cas) e1;have stp:=qA.aFz (E:=E) (nt:=nt) (ops:=ops) (i:=i) hi (Ja h.r hw) hd gu (show Ao w.m.T cl.callee=V (.fn (.func f') fis cas) by rw[aAY];exact v1) w1 hs (λ_ _=>QM) h.bd e2 m7 m8
    have lent:∀x,se F1 c1 ps w.m.H x≠G->F1 x≠G\/∃K,c1 x=V K/\lk K ps≠G:=λx hx=>pW λhn=>hx (aC hn)
    have psal:∀K,lk K ps≠G->K∈ps.map (·.1):=λK hK=>by
     obtain ⟨k,hk⟩:=uw.1 hK;exact dM.2 ⟨_,pq hk,rfl⟩
    have psnb:∀K,lk K ps≠G->K∈(Fe (ps++rs)).map (·.1):=λK hK=>by
     obtain ⟨k,hk⟩:=uw.1 hK;exact dM.2 ⟨_,nI.2 ⟨gX _ (pq hk),(jJ.1 k3b) _ (pq hk)⟩,rfl⟩
    refine ⟨_,⟨F2,g2,φ2,c2,_⟩,⟨⟨o,hi,stp⟩,f1,λk hk=> ?_,e2,λl hl x hx=> ?_,λx hx=> ?_,λx hx hW=> ?_,λhh=>(by cases hh),λx h0 cQ=>.inr ?_,λx hx=>.inr ⟨rfl,hx⟩,λx hx=>.inr ⟨rfl,hx⟩⟩,⟨m3.put o.dst λ_=>f4.map (.refl F2) g2f,m4⟩⟩
    ·cases hK:lk k (ps++rs) with
     |none=>exact m1 k hK
     |some k'=>
      rcases aqd k k' hK with e|⟨e,_⟩
      ·show g2 k=w.g k;rw[m2 k k' hK,e];show w.g (th (jG (ps++rs)) k')=w.g k;rw[vJ ((vH hg).2 hK)]
      ·rw[e] at hk;cases hk
    ·cases hl;rcases lent x hx with hx|⟨K,h1,h2⟩
     ·exact (a3 x hx).imp_right λ⟨K,m,e⟩=>⟨K,jb _ m,e⟩
     ·exact .inr ⟨K,gX _ (psal K h2),a2 x K h1⟩
    ·have iS:H' x≠se F1 c1 ps w.m.H x:=by simpa using hx
     by_cases dq:w.m.nx<=x
     ·exact .inr (.inl ⟨rfl,dq⟩)
     ·by_cases h0:se F1 c1 ps w.m.H x=G
      ·exact absurd h0 (e8 x (by omega) λe=>iS (e.trans h0.symm))
      ·rcases lent x h0 with hf|⟨K,h1,h2⟩
       ·exfalso;obtain ⟨z,hz⟩:=uw.1 hf;refine iS ((e7.fr x z (e4 x z hz)).1.trans ?_);show _=se F1 c1 ps w.m.H x;unfold se;rw[aG (.inl hf)];exact (r1.fr x z hz).1.symm
       ·cases ro with
        |true=>exact absurd (e9 rfl x h0).1 iS
        |false=>
         refine .inr (.inr ⟨K,?_,a2 x K h1⟩);exact psnb K h2
    ·cases ro with
     |true=>exact m9 x hx λhl=>e9 rfl x hl
     |false=>
      have hW:∀K∈(Fe (ps++rs)).map (·.1),w.c x≠V K:=hW
      refine m5 x hx λK hK=> ?_
      cases hK':lk K ps with
      |none=>rfl
      |some k=>exact absurd hK (hW K (psnb K (by rw[hK'];simp)))
    ·exact Nat.le_of_not_lt λdq=>m6 x dq cQ h0
   ·cases hk
  ·cases hk
 ·cases hk
end
section
variable {s s' s1:LS} {E:Env} {pn:Nat->Bool} {nt:Nat}
def aCI {J:Type} (l:List (Nat×J)):List (Nat×J):=
 match l with
 | []=> []
 |p::l=>p::lp p.1 l
def aAe {J:Type} (l:List (Nat×J)):List (Nat×J):=List.rec [] (λp _ ih=>p::lp p.1 ih) l
def aAk (k:Nat) (l:List (Nat×J)):lk k (aCI l)=lk k l:=by
 cases l with
 |nil=>rfl
 |cons p l=>exact xB
def amE {J:Type} (k:Nat):∀l:List (Nat×J),lk k (aAe l)=lk k l
 | []=>rfl
 |p::l=>by
  show lk k ((p.1,p.2)::lp p.1 (aAe l))=lk k ((p.1,p.2)::l);rw[xB,dy,dy,amE k l]
def LS.tidy (s:LS):LS:=⟨aCI s.ts,aAe s.bs⟩
def In.tidy {w:WS} (h:In s w):In s.tidy w:=⟨h.r.sub (λt x h=>(aAk t _).symm.trans h) λk b h=>(amE k _).symm.trans h,h.bd⟩
def In.Qy {w:WS} (h:In s w) (k:kn pn s s') (Bs:pn tW=M->s'=s):∃w',In s' w'/\Ext pn w w'/\w'.m=w.m:=by
 cases hp:pn tW with
 |true=>rw[Bs hp];exact ⟨w,h,.refl w,rfl⟩
 |false=>
  obtain ⟨F',g',φ',c',h1,h2,r⟩:=k.go h.r;exact ⟨⟨F',g',φ',c',w.m⟩,⟨r,h.bd⟩,⟨h1,h2,de _,λ_ _ h=>h,λh=>by rw[hp] at h;cases h⟩,rfl⟩
abbrev Sc (E:Env):=List (Nat×It E)
def Ei (pn:Nat->Bool):Sc E->LS->List cH->LS×List cH×Sc E
 | [],s,o=>(s,o,[])
 |p::l,s,o=>
  match p with
  |(0,.gh q)=>(match aT (pn tW) G (JO pn s q.gp (Fh q.h)) with
   |some r=>Ei pn l r.2 (r.1++o)
   |none=>(s,o,p::l))
  |_=>(s,o,p::l)
def Mu:∀(sc:Sc E) (s:LS) (o:List cH),jl (Ei pn sc s o).2.1->jl o/\kn pn s (Ei pn sc s o).1/\(pn tW=M->(Ei pn sc s o).1=s)
 | [],s,o,ho=>⟨ho,.refl,λ_=>rfl⟩
 |p::l,s,o,ho=>by
  unfold Ei at ho ⊢;split at ho
  ·rename_i q;cases hq:aT (pn tW) G (JO pn s q.gp (Fh q.h)) with
   |some r=>
    rw[hq] at ho;simp only[hq];have hp:pn tW=I:=by
     cases hp:pn tW with
     |false=>rfl
     |true=>rw[hp] at hq;cases hq
    rw[hp] at hq;obtain ⟨h1,h2,_⟩:=Mu l r.2 (r.1++o) ho;obtain ⟨h3,h4⟩:=pc h1;exact ⟨h4,(aBd (λ_=>rfl) hq h3).trans h2,λh=>by rw[hp] at h;cases h⟩
   |none=>rw[hq] at ho;simp only[hq];exact ⟨ho,.refl,by simp⟩
  ·simp_all;exact .refl
structure Rx where
 r:oX
 Rd:Option bJ
 cl:Bool
 pg:List GI
def afi (E:Env) (pn:Nat->Bool) (s:LS) (o:S'):Z Rx:=az (RY E pn s o.dst o.op) λr=>V ⟨r,afp s o.op,I,[]⟩
def aEw (E:Env) (pn:Nat->Bool) (s:LS) (o:S') (it:It E):Z Rx:=
 match it with
 | .op h pl=>az (aoO E pn s o.dst o.op pl (Fh h)) λr=>V ⟨r,afp s o.op,I,[]⟩
 | .J8 h=>az (aha E s o.op h) λr=>V ⟨r,V [],I,[]⟩
 | .opF h pl fz=>az (aoO E pn s o.dst o.op pl (Fh h)) λr=>V ⟨r,afp s o.op,M,fz⟩
 | .call h ps rs=>az (aaY E pn s o.op h [] (Fh trivial) ps rs) λr=>V ⟨r,V (ps.map (·.1)++ []),M,[]⟩
 | .aFy h gs hd ps rs fz=>az (aaY E pn s o.op h gs (Fh hd) ps rs) λr=>V ⟨r,V (ps.map (·.1)++gs.map λq=>q.gp.key),M,fz⟩
 |_=>G
def opX (E:Env) (pn:Nat->Bool) (s:LS) (o:S') (sc:Sc E):Z (Rx×Sc E):=
 match sc with
 | []=>az (afi E pn s o) λr=>V (r,[])
 |(0,it)::l=>az (aEw E pn s o it) λr=>V (r,l)
 |(k+1,it)::l=>az (afi E pn s o) λr=>V (r,(k,it)::l)
def aaB (W:bJ):List GI->LS->Z (List cH×LS)
 | [],s=>V ([],s)
 |q::l,s=>(match q.gp with
  | .er K m n=>aT (mE K W) (az (lk K s.bs) λb=>az (aaB W l (s.agC K m n b)) λp=>V (agB s K n b (Fh q.h)++p.1,p.2)) G
  |_=>G)
def apl (cl:Bool) (W:bJ) (pg:List GI) (s:LS):Z (List cH×LS):=
 match pg with
 | []=>V ([],s)
 |q::l=>aT cl (aaB W (q::l) s) G
def afh {ops:eP} {e:Ev} {w:WS} (eY:e.cl=M):∀{l:List GI} {s:LS} {w':WS} {p:List cH×LS},aaB e.W l s=V p->jl p.1->Step E nt pn ops e w w'->In s w'->∃Ll,Step E nt pn ops e w Ll/\In p.2 Ll/\Ll.m=w'.m
 | [],s,w',p,h,_,st,jq=>by cases h;exact ⟨w',st,jq,rfl⟩
 |q::l,s,w',p,h,ho,st,jq=>by
  unfold aaB at h;split at h
  ·rename_i K m n hq;obtain ⟨hK,h⟩:=ba h;obtain ⟨b,hb,h⟩:=aq h;obtain ⟨p1,h1,h⟩:=aq h;cases h;obtain ⟨o1,o2⟩:=pc ho;obtain ⟨F',c',a1,a2,a3⟩:=jq.r.er (m:=m) (n:=n) (ob:=Fh q.h) (λ_=>rfl) hb o1
   have Hl:Step E nt pn ops e w ⟨F',w'.g,w'.Y,c',w'.m⟩:=⟨st.st,st.F.trans a1,st.g,st.nx,st.need,st.D,λx hx hW=>⟨(st.fr x hx hW).1,(a2.2.2.1 x (by rw[(st.fr x hx hW).2];exact hW K ((tD _ _).1 hK))).trans (st.fr x hx hW).2⟩,λh=>(by rw[eY] at h;cases h),st.born,st.frp,st.newp⟩
   exact afh (l:=l) (p:=p1) (w':=⟨F',w'.g,w'.Y,c',w'.m⟩) eY h1 o2 Hl ⟨a3,jq.bd⟩
  ·cases h
def aAa {e:Ev} {w w':WS} {l:List GI} (h:apl e.cl e.W l s=V p) (ho:jl p.1) (st:Step E nt pn ops e w w') (jq:In s w'):∃Ll,Step E nt pn ops e w Ll/\In p.2 Ll/\Ll.m=w'.m:=by
 unfold apl at h;split at h
 ·cases h;exact ⟨w',st,jq,rfl⟩
 ·obtain ⟨eY,h⟩:=ba h;exact afh eY h ho st jq
def aub (E:Env) (nt:Nat) (pn:Nat->Bool) (all:nu) (s:LS) (o:S') (sc:Sc E):Z (Rx×Sc E):=
 aT (mX nt o.dst) (az (Jb all o s.ts) λb=>aT b (az (opX E pn s o sc) λq=>az (apl q.1.cl q.1.r.W q.1.pg (q.1.r.s.put o.dst q.1.r.x).tidy) λp=>V (⟨⟨p.1++q.1.r.DV,p.2,q.1.r.x,q.1.r.W⟩,q.1.Rd,q.1.cl,[]⟩,q.2)) (V (⟨⟨[],(s.put o.dst (.dr [])).tidy,.undef,[]⟩,V [],I,[]⟩,sc))) G
def aua {sc:Sc E} {q:Rx×Sc E} {w:WS} (hi:ops[i]? =V o) (h:aub E nt pn ops.toList s o sc=V q) (ho:jl q.1.r.DV) (jq:In s w) (hn:w.m.H new=G) (nk:w.m.nx<=nx') (qL:new<nx') (hc:q.1.cl=M->nx'=w.m.nx+1\/nx'=w.m.nx):
  ∃r w',Step E nt pn ops ⟨i,new,r,q.1.r.W,q.1.Rd,q.1.cl⟩ w w'/\In q.1.r.s w'/\(q.1.cl=I->w'.m.nx=nx'):=by
 obtain ⟨hd,h⟩:=ba h;obtain ⟨b,hw,h⟩:=aq h;rw[cE] at h;split at h
 ·rename_i hb;subst hb;obtain ⟨p,hp,h⟩:=aq h;obtain ⟨z,hz,h⟩:=aq h;cases h;obtain ⟨oz,ho⟩:=pc ho;have plain:∀{r:Rx},afi E pn s o=V r->jl r.r.DV->∃r1 w',Step E nt pn ops ⟨i,new,r1,r.r.W,r.Rd,r.cl⟩ w w'/\In (r.r.s.put o.dst r.r.x).tidy w'/\(r.cl=I->w'.m.nx=nx'):=λ{r} hr ho=>by
   obtain ⟨r0,h1,h2⟩:=aq hr;cases h2;obtain ⟨r1,w',a,b,c⟩:=Step.op hi rfl (Qr h1 ho) hw hd jq hn nk qL;exact ⟨r1,w',a,b.tidy,λ_=>c⟩
  have main:∃r1 w',Step E nt pn ops ⟨i,new,r1,p.1.r.W,p.1.Rd,p.1.cl⟩ w w'/\In (p.1.r.s.put o.dst p.1.r.x).tidy w'/\(p.1.cl=I->w'.m.nx=nx'):=by
   unfold opX at hp;split at hp
   ·obtain ⟨r,h1,h2⟩:=aq hp;cases h2;exact plain h1 ho
   ·obtain ⟨r,h1,h2⟩:=aq hp;cases h2;unfold aEw at h1;split at h1
    ·obtain ⟨r0,h3,h2⟩:=aq h1;cases h2;obtain ⟨r1,w',a,b,c⟩:=Step.op hi rfl (ade (λ_=>rfl) h3 ho) hw hd jq hn nk qL
     exact ⟨r1,w',a,b.tidy,λ_=>c⟩
    ·obtain ⟨r0,h3,h2⟩:=aq h1;cases h2;obtain ⟨r1,w',a,b,c⟩:=Step.J8 hi rfl h3 ho hw hd jq new hn nk;exact ⟨r1,w',a,b.tidy,λ_=>c⟩
    ·obtain ⟨r0,h3,h2⟩:=aq h1;cases h2;obtain ⟨r1,w',a,b,c⟩:=Step.op hi rfl (ade (λ_=>rfl) h3 ho) hw hd jq hn nk qL
     exact ⟨r1,w',a.aOu,b.tidy,λh=>by cases h⟩
    ·obtain ⟨r0,h3,h2⟩:=aq h1;cases h2;obtain ⟨r1,w',a,b⟩:=Step.call (λ_=>rfl) hi rfl h3 ho hw hd jq new
     exact ⟨r1,w',a,b.tidy,λh=>by cases h⟩
    ·obtain ⟨r0,h3,h2⟩:=aq h1;cases h2;obtain ⟨r1,w',a,b⟩:=Step.call (λ_=>rfl) hi rfl h3 ho hw hd jq new
     exact ⟨r1,w',a,b.tidy,λh=>by cases h⟩
    ·cases h1
   ·obtain ⟨r,h1,h2⟩:=aq hp;cases h2;exact plain h1 ho
  obtain ⟨r1,w',m1,m2,m3⟩:=main;obtain ⟨w2,n1,n2,n3⟩:=aAa hz oz m1 m2;exact ⟨r1,w2,n1,n2,λh=>by rw[n3];exact m3 h⟩
 ·rename_i hb;have hb:b=I:=by simpa using hb
  subst hb;cases h;obtain ⟨r1,w',a,b,c⟩:=Step.skip (E:=E) (nt:=nt) (pn:=pn) hi hw hd jq hn nk;exact ⟨r1,w',a,b.tidy,λ_=>c⟩
def aoN (E:Env) (nt:Nat) (pn:Nat->Bool) (all:nu) (s:LS) (o:S') (sc:Sc E):Z (Rx×Sc E):=
 az (aub E nt pn all s o sc) λq=>aT (pn tW) (aT q.1.r.W.isEmpty (V q) G) (V q)
def adb {sc:Sc E} {q:Rx×Sc E} {w:WS} (hi:ops[i]? =V o) (h:aoN E nt pn ops.toList s o sc=V q) (ho:jl q.1.r.DV) (jq:In s w) (hn:w.m.H new=G) (nk:w.m.nx<=nx') (qL:new<nx') (hc:q.1.cl=M->nx'=w.m.nx+1\/nx'=w.m.nx):
  ∃r w',Step E nt pn ops ⟨i,new,r,q.1.r.W,q.1.Rd,q.1.cl⟩ w w'/\In q.1.r.s w'/\(q.1.cl=I->w'.m.nx=nx')/\(pn tW=M->∀x,w.m.H x≠G->w'.m.H x=w.m.H x/\w'.c x=w.c x):=by
 obtain ⟨q',h1,h⟩:=aq h;obtain ⟨rfl,hW⟩:q'=q/\(pn tW=M->q'.1.r.W= []):=by
  rw[cE] at h;split at h
  ·obtain ⟨h2,h⟩:=ba h;cases h;exact ⟨rfl,λ_=>by simpa using h2⟩
  ·rename_i hp;cases h;exact ⟨rfl,λh=>absurd h hp⟩
 obtain ⟨r,w',a,b,c⟩:=aua hi h1 ho jq hn nk qL hc;exact ⟨r,w',a,b,c,λhp x hx=>a.fr x hx λK hK=>by
  have hK:K∈q'.1.r.W:=hK;rw[hW hp] at hK;cases hK⟩
def aeP (E:Env) (nt:Nat) (pn:Nat->Bool) (all:nu):nu->LS->Sc E->List cH->Z (LS×List cH×Sc E)
 | [],s,sc,ob=>V (s,ob,sc)
 |o::l,s,sc,ob=>(λq:LS×List cH×Sc E=>az (aoN E nt pn all q.1 o q.2.2) λr=>aeP E nt pn all l r.1.r.s r.2 (r.1.r.DV++q.2.1)) (Ei pn sc s ob)
def Zo {ops:eP}:∀{l:nu} {i:Nat} {s:LS} {sc:Sc E} {ob:List cH} {r:LS×List cH×Sc E},ops.toList.drop i=l->i<=ops.size->aeP E nt pn ops.toList l s sc ob=V r->jl r.2.1->jl ob/\∀w,In s w->∃w',lG E nt ops i w.m w'.m/\In r.1 w'/\Ext pn w w'
 | [],i,s,sc,ob,r,hl,hle,h,ho=>by
  cases h;refine ⟨ho,λw hw=>⟨w,?_,hw,.refl w⟩⟩
  have:ops.size=i:=by
   have:=bF aa9 hl;rw[jx,C3,NT] at this;omega
  subst this;exact .nil
 |o::l,i,s,sc,ob,r,hl,hle,h,ho=>by
  obtain ⟨q,h1,h⟩:=aq h;have dq:i<ops.size:=by
   have:=bF aa9 hl;rw[jx,iu,NT] at this;omega
  have hi:ops[i]? =V o:=by
   rw[<-l5,<-List.head?_drop,hl];rfl
  have Ea:ops.toList.drop (i+1)=l:=by rw[<-sw,hl];rfl
  obtain ⟨h2,h3⟩:=Zo Ea dq h ho;obtain ⟨h4,h5⟩:=pc h2;obtain ⟨h6,h7,h9⟩:=Mu sc s ob h5;refine ⟨h6,λw hw=> ?_⟩
  obtain ⟨w1,k1,k2,k3⟩:=hw.Qy h7 h9;obtain ⟨r1,w2,st,k4,k5,k9⟩:=adb (new:=w1.m.nx) (nx':=w1.m.nx+1) hi h1 h4 k1 (k1.bd _ (de _)) (sm _) (Lg _) λ_=>.inl rfl
  obtain ⟨w3,k6,k7,k8⟩:=h3 w2 k4;obtain ⟨o',uX,uS⟩:=st.st;rw[hi] at uX;cases uX;refine ⟨w3,?_,k7,k2.trans (.trans ⟨st.F,st.g,st.nx,λx hx cQ=> ?_,k9⟩ k8)⟩
  ·rw[<-k3];refine lG.cons hi uS (λx hx=> ?_) (λx hx=> ?_) k6
   ·rcases st.frp x hx with rfl|⟨_,h⟩
    ·exact de _
    ·exact h
   ·rcases st.newp x hx with ⟨rfl,h⟩|⟨_,h⟩
    ·exact ⟨de _,h⟩
    ·exact h
  ·exact pW λh0=>by
    have h0:w1.m.H x=G:=pW h0;rcases st.born x h0 cQ with rfl|h
    ·exact absurd hx (Nat.lt_irrefl _)
    ·exact absurd hx (Nat.not_lt.2 h)
end
end Go.bM
namespace Go.bM
open Go.RowKit
variable {i nt:Nat} {ro:cD} {ops:eP} {g6:Nat->Stp} {need:Nat->Nat->Prop} {s0:DS} {l:bJ} {Q:Exit->Act->World->Prop}
section
variable {E:Env} {g:Gh} {f:Hf} {w:World}
def auc (us:Nat->Stp) (p:Nat->Bool) {a b:bJ} (nd:(a++i::b).Nodup) (hp:p i=M) (s:DS):mG us (a++i::b) (λj=>p j&&iL (j∈a++ [i])) s=(mG us a p s).app (us i):=by
 obtain ⟨_,n2,n3⟩:=Ds.1 nd;have n2:=pj.1 n2;unfold mG;rw[C2,jc];have h1:a.filter (λj=>p j&&iL (j∈a++ [i]))=a.filter p:=RT λx hx=>by simp[hx]
 have h2:b.filter (λj=>p j&&iL (j∈a++ [i]))= []:=su.2 λx hx=>by
  have e1:x∉a:=λh=>n3 x h x (dQ _ hx) rfl
  have e2:x≠i:=λe=>n2.1 (e ▸ hx)
  simp[e1,e2]
 rw[h1,h2];simp[hp]
def aBD {frp newp:Nat->Nat->Prop} (nd:l.Nodup) (hl:∀j,j∈l↔j<ops.size) (QZ:E.P.follows .mixedOrders=M) (aqa:∀a i b,l=a++i::b->∃o,ops[i]? =V o/\(g6 i).dst=o.dst/\TL E ro nt ops i o (mG g6 a (λ_=>M) s0).T (need i) (mG g6 a (λ_=>M) s0).F (frp i) (newp i) (g6 i).v (g6 i).D (g6 i).H) (hd:∀a i b,l=a++i::b->(∀k∈direct ops i,k∈a)/\∀k∈a,k∈zu ops ops.size i\/Ind ops g6 need k i) (hfp:∀i k,i∈l->k∈l->i≠k->∀x,frp i x->newp k x->i∈zu ops ops.size k) {a:Act} {id m:Nat} (hE:fJ E g) (jj:FR g nt s0.T a.tmps) (hr:HR g s0.F w) (qL:∀i,i∈l->∀x,frp i x->g.O x=G) (hq:∀g' a' w',FR g' nt (mG g6 l (λ_=>M) s0).T a'.tmps->HR g' (mG g6 l (λ_=>M) s0).F w'->Fr g s0.F w g' (mG g6 l (λ_=>M) s0).F w'->a'.defers=a.defers->
   (∀x,(∀i,i∈l->¬newp i x)->g'.O x=g.O x)->Q .normal a' w'):(Code.region id ops M).wpIn (wC ro) m E.P Q a w:=by
 let n:=ops.size;have key:∀(fuel:Nat) (dE:Array Bool) (a1:Act) (w1:World) (g1:Gh),dE.size=n->(∀j,dE.getD j I=M->∀i∈direct ops j,dE.getD i I=M)->
   (l.filter (λj=> !dE.getD j I)).length=fuel->fJ E g1->FR g1 nt (mG g6 l (λj=>dE.getD j I) s0).T a1.tmps->HR g1 (mG g6 l (λj=>dE.getD j I) s0).F w1->
   Fr g s0.F w g1 (mG g6 l (λj=>dE.getD j I) s0).F w1->a1.defers=a.defers->(∀x,g1.O x≠g.O x->∃k,k∈l/\dE.getD k I=M/\newp k x)->wpAnyIn (wC ro) m E.P .any ops Q fuel dE a1 w1:=by
  intro fuel;induction fuel with
  |zero=>
   intro dE a1 w1 g1 oA eY agv hE1 aqh hr1 hf1 hdf aqc;have gS:∀j,j∈l->dE.getD j I=M:=λj hj=>by simpa using su.1 (v8 agv) j hj
   have kH:mG g6 l (λj=>dE.getD j I) s0=mG g6 l (λ_=>M) s0:=by
    unfold mG;rw[RT λx hx=>gS x hx]
   rw[kH] at aqh hr1 hf1;refine ⟨?_,hq g1 a1 w1 aqh hr1 hf1 hdf (λx hx=> ?_)⟩
   ·rw[akY];intro i hi;obtain ⟨h1,h2,_⟩:=Jm.1 hi;have:=gS i ((hl i).2 h1);simp only[uv] at this h2;rw[A8 (by rw[oA];exact h1)] at this h2
    simp at this h2;rw[this] at h2;simp at h2
   ·by_cases he:g1.O x=g.O x
    ·exact he
    ·obtain ⟨k,k1,_,k3⟩:=aqc x he;exact absurd k3 (hx k k1)
  |succ fuel ih=>
   intro dE a1 w1 g1 oA eY agv hE1 aqh hr1 hf1 hdf aqc;have hun:∀j,j<n->dE.getD j M=dE.getD j I:=by
    intro j hj;simp only[uv];rw[A8 (by rw[oA];exact hj)];rfl
   refine ⟨λhr=> ?_,λi hi=> ?_⟩
   ·exfalso;have first:∀b c:bJ,b++c=l->(∀j∈b,dE.getD j I=M)->(∃a i d,l=a++i::d/\dE.getD i I=I/\∀j∈a,dE.getD j I=M)\/∀j∈c,dE.getD j I=M:=by
     intro b c;induction c generalizing b with
     |nil=>exact λ_ _=>.inr λj hj=>by cases hj
     |cons i c ihc=>
      intro he hb;cases hi:dE.getD i I with
      |false=>exact .inl ⟨b,i,c,he.symm,hi,hb⟩
      |true=>
       rcases ihc (b++ [i]) (by simpa using he) (λj hj=>by
        rcases eV.1 hj with h|h
        ·exact hb j h
        ·rw[gL.1 h];exact hi) with h|h
       ·exact .inl h
       ·exact .inr λj hj=>by
         rcases da.1 hj with rfl|hj
         ·exact hi
         ·exact h j hj
    rcases first [] l rfl (λj hj=>by cases hj) with ⟨b,i,d,he,h1,h2⟩|h
    ·have jq:i<n:=(hl i).1 (by rw[he];simp)
     have:i∈Region.ready .any ops dE:=Jm.2 ⟨jq,by rw[hun i jq];exact h1,λj hj=>h2 j ((hd b i d he).1 j hj)⟩
     rw[hr] at this;simp at this
    ·rw[su.2 λx hx=>by simp[h x hx]] at agv
     simp at agv
   ·obtain ⟨hi1,hi2,hi3⟩:=Jm.1 hi;rw[hun i hi1] at hi2;obtain ⟨b,d,he⟩:=v7 ((hl i).2 hi1);obtain ⟨oi,hoi,hdst,hs⟩:=aqa b i d he;have nd':=nd;rw[he] at nd';obtain ⟨n1,n2,n3⟩:=Ds.1 nd';have n2:=pj.1 n2;have aAi:∀j,j∈l->j∈b\/j=i\/j∈d:=λj hj=>by
     rw[he] at hj;simpa using hj
    have ib:i∉b:=λh=>n3 i h i (by simp) rfl
    have axB:∀j,j∈b->dE.getD j I=I->Ind ops g6 need j i:=by
     intro j hj Ea;rcases (hd b i d he).2 j hj with hc|hc
     ·have:=arv (S:=λj=>dE.getD j I=M) eY n i hi3 j hc
      rw[Ea] at this;simp at this
     ·exact hc
    have aaM:∀j,j∈d->dE.getD j I=M->Ind ops g6 need i j:=by
     intro j hj Ea;obtain ⟨d1,d2,Mn⟩:=v7 hj;rcases (hd (b++i::d1) j d2 (by rw[he,Mn];simp)).2 i (by simp) with hc|hc
     ·have:=CN (S:=λj=>dE.getD j I=M) eY n j Ea i hc
      rw[hi2] at this;simp at this
     ·exact hc
    have hdb:∀j,j∈d->j∉b/\j≠i:=λj hj=>⟨λh=>n3 j h j (dQ _ hj) rfl,λe=>n2.1 (e ▸ hj)⟩
    have hst0:mG g6 b (λ_=>M) s0=mG g6 l (λj=>iL (j∈b)) s0:=by
     unfold mG;rw[he,C2,jc];have h1:b.filter (λj=>iL (j∈b))=b:=yy.2 λx hx=>by simpa using hx
     have h2:d.filter (λj=>iL (j∈b))= []:=su.2 λx hx=>by simpa using (hdb x hx).1
     rw[h1,h2,yy.2 (λ_ _=>rfl)]
     simp[ib]
    have hT:∀t∈oi.looksAt ops,(mG g6 l (λj=>dE.getD j I) s0).T t=(mG g6 b (λ_=>M) s0).T t:=by
     intro t htr;rw[hst0];refine aas g6 t _ _ _ _ _ rfl (λj hj Ag=> ?_)
     rcases aAi j hj with hb|rfl|hb
     ·cases Ft:dE.getD j I with
      |true=>simp[hb]
      |false=>exact absurd htr ((axB j hb Ft).s1 t Ag _ hoi)
     ·simp[hi2,ib]
     ·cases Ft:dE.getD j I with
      |false=>simp[(hdb j hb).1]
      |true=>exact absurd htr ((aaM j hb Ft).s2 t Ag _ hoi)
    have hB:∀x,need i x->(mG g6 l (λj=>dE.getD j I) s0).F x=(mG g6 b (λ_=>M) s0).F x:=by
     intro x hx;rw[hst0];refine aat g6 x _ _ _ _ _ rfl (λj hj Ag=> ?_)
     rcases aAi j hj with hb|rfl|hb
     ·cases Ft:dE.getD j I with
      |true=>simp[hb]
      |false=>
       have:=(axB j hb Ft).n1 x hx;rw[Ag] at this;simp at this
     ·simp[hi2,ib]
     ·cases Ft:dE.getD j I with
      |false=>simp[(hdb j hb).1]
      |true=>
       have:=(aaM j hb Ft).n2 x hx;rw[Ag] at this;simp at this
    have lO:∀j,(dE.setIfInBounds i M).getD j I=if j=i then M else dE.getD j I:=λj=>aBg dE i j (by rw[oA];exact hi1) I
    have hpi:(dE.setIfInBounds i M).getD i I=M:=by rw[lO];simp
    have bi:∀j,j∈l->j∉b++ [i]->j∈d:=λj hj hn=>by
     rcases aAi j hj with h|h|h
     ·exact absurd (gX _ h) hn
     ·exact absurd (by simp[h]) hn
     ·exact h
    have hup:mG g6 l (λj=>(dE.setIfInBounds i M).getD j I&&iL (j∈b++ [i])) s0=(mG g6 b (λj=>(dE.setIfInBounds i M).getD j I) s0).app (g6 i):=by
     have:=auc g6 (λj=>(dE.setIfInBounds i M).getD j I) (a:=b) (b:=d) (i:=i) nd' hpi s0
     rw[<-he] at this;exact this
    have aEA:(mG g6 l (λj=>dE.getD j I) s0).app (g6 i)=mG g6 l (λj=>(dE.setIfInBounds i M).getD j I) s0:=by
     refine DS.ext' (λt=> ?_) (λx=> ?_)
     ·show (if (g6 i).dst=V t then V (g6 i).v else _)=_
      by_cases hdt:(g6 i).dst=V t
      ·have e:=aas g6 t (λj=>(dE.setIfInBounds i M).getD j I) (λj=>(dE.setIfInBounds i M).getD j I&&iL (j∈b++ [i])) l s0 s0 rfl (λj hj Ag=>by
        by_cases hm:j∈b++ [i]
        ·simp[hm]
        ·cases Ft:(dE.setIfInBounds i M).getD j I with
         |false=>simp
         |true=>
          have hjd:=bi j hj hm;rw[lO,aC (hdb j hjd).2] at Ft;exact absurd Ag ((aaM j hjd Ft).s3 t hdt))
       rw[e,hup,aG hdt];show _=if (g6 i).dst=V t then V (g6 i).v else _
       rw[aG hdt]
      ·rw[aC hdt];refine aas g6 t _ _ _ _ _ rfl (λj hj Ag=> ?_)
       rw[lO];split
       ·rename_i he;subst he;exact absurd Ag hdt
       ·rfl
     ·show (if (g6 i).D x=M then (g6 i).H x else _)=_
      by_cases hdx:(g6 i).D x=M
      ·have e:=aat g6 x (λj=>(dE.setIfInBounds i M).getD j I) (λj=>(dE.setIfInBounds i M).getD j I&&iL (j∈b++ [i])) l s0 s0 rfl (λj hj Ag=>by
        by_cases hm:j∈b++ [i]
        ·simp[hm]
        ·cases Ft:(dE.setIfInBounds i M).getD j I with
         |false=>simp
         |true=>
          have hjd:=bi j hj hm;rw[lO,aC (hdb j hjd).2] at Ft;have:=(aaM j hjd Ft).d x hdx;rw[Ag] at this;simp at this)
       rw[e,hup,aG hdx];show _=if (g6 i).D x=M then (g6 i).H x else _
       rw[aG hdx]
      ·rw[aC hdx];refine aat g6 x _ _ _ _ _ rfl (λj hj Ag=> ?_)
       rw[lO];split
       ·rename_i he;subst he;exact absurd Ag hdx
       ·rfl
    have hcl':∀j,(dE.setIfInBounds i M).getD j I=M->∀k∈direct ops j,(dE.setIfInBounds i M).getD k I=M:=by
     intro j hj k hk;rw[lO] at hj ⊢;split
     ·rfl
     ·split at hj
      ·rename_i he;subst he;exact hi3 k hk
      ·exact eY j hj k hk
    have aPP:(l.filter (λj=> !(dE.setIfInBounds i M).getD j I)).length=fuel:=by
     have h1:l.filter (λj=> !(dE.setIfInBounds i M).getD j I)=(l.filter (λj=> !dE.getD j I)).erase i:=by
      have Fs:(l.filter (λj=> !dE.getD j I)).Nodup:=List.Pairwise.filter _ nd
      rw[Fs.erase_eq_filter,List.filter_filter];refine RT λx hx=> ?_
      rw[lO];by_cases hxi:x=i<;>simp[hxi]
     rw[h1,List.length_erase_of_mem (nI.2 ⟨(hl i).2 hi1,by rw[hi2];rfl⟩),agv]
     rfl
    have agu:∀x,frp i x->g1.O x=G:=by
     intro x hx;by_cases he:g1.O x=g.O x
     ·rw[he];exact qL i ((hl i).2 hi1) x hx
     ·obtain ⟨k,k1,k2,k3⟩:=aqc x he;have cQ:i≠k:=λe=>by subst e;rw[hi2] at k2;simp at k2
      have:=CN (S:=λj=>dE.getD j I=M) eY n k k2 i (hfp i k ((hl i).2 hi1) k1 cQ x hx k3)
      rw[hi2] at this;simp at this
    refine hs m g1 _ _ a1 w1 (wpAnyIn (wC ro) m E.P .any ops Q fuel (dE.setIfInBounds i M)) Q hE1 aqh hr1 hT hB agu (λr w' g' q1 q2 q3 q4=> ?_)
    rw[<-hdst] at q1 ⊢;have e1:eG (mG g6 l (λj=>dE.getD j I) s0).T (g6 i).dst (g6 i).v=(mG g6 l (λj=>(dE.setIfInBounds i M).getD j I) s0).T:=by rw[<-aEA];rfl
    have e2:rM (g6 i).D (g6 i).H (mG g6 l (λj=>dE.getD j I) s0).F=(mG g6 l (λj=>(dE.setIfInBounds i M).getD j I) s0).F:=by rw[<-aEA];rfl
    rw[e1] at q1;rw[e2] at q2 q3;refine ih (dE.setIfInBounds i M) _ w' g' (by simpa using oA) hcl' aPP (hE1.mono q3.le) q1 q2 (hf1.trans q3) (by rw[put_defers];exact hdf) (λx hx=> ?_)
    by_cases hn:newp i x
    ·exact ⟨i,(hl i).2 hi1,hpi,hn⟩
    rw[q4 x hn] at hx;obtain ⟨k,k1,k2,k3⟩:=aqc x hx;refine ⟨k,k1,?_,k3⟩;rw[lO];split
    ·rfl
    ·exact k2
 have hlen:l.length=ops.size:=by
  have:l.Perm (aa1 ops.size):=(List.perm_ext_iff_of_nodup nd Wb).2 λj=>by rw[hl,Wa]
  rw[this.length_eq,List.length_range]
 refine wpIn_region_any (F:=wC ro) QZ (key ops.size _ a _ g (by simp[n]) ?_ ?_ hE ?_ ?_ ?_ rfl (λx hx=>absurd rfl hx))
 ·intro j hj;simp[uv,V9] at hj;split at hj<;>simp at hj
 ·have:l.filter (λj=> !(ac6 ops.size I).getD j I)=l:=yy.2 λx hx=>by
   simp[uv,V9];split<;>simp
  rw[this,hlen]
 all_goals
  have hs0:mG g6 l (λj=>(ac6 ops.size I).getD j I) s0=s0:=by
   unfold mG;have:l.filter (λj=>(ac6 ops.size I).getD j I)= []:=su.2 λx hx=>by
    simp[uv,V9];split<;>simp
   rw[this];rfl
  rw[hs0]
 ·exact jj
 ·exact hr.Yy rfl
 ·exact Fr.Yy rfl rfl rfl rfl
end
end Go.bM
namespace Go.bM
variable {l:ee} {x K j n i u sz A:Nat} {e:pJ} {m0:MS} {ob o:List cH} {r xs vs:bb} {Q:bz} {ro z:Bool} {bs:cT} {f9:Prop} {sk:bJ} {hi lo:Int} {aa svs:bc} {ups:gO} {o':SO} {L':Ow} {fn:Func}
section
variable {s s' s1:LS} {E:Env} {pn:Nat->Bool} {nt:Nat} {ops:eP}
def Ep {l m:bJ} (h:wx l m=M):∀x∈l,x∉m:=λx hx hm=>by
 induction l with
 |nil=>cases hx
 |cons y l ih=>
  have h:aT (mE y m) I (wx l m)=M:=h;rw[cE] at h;split at h
  ·cases h
  ·rename_i hy;rcases da.1 hx with rfl|hx
   ·exact hy ((tD _ _).2 hm)
   ·exact ih h hx
structure WOK (w:WS):Prop where
 bd:∀x,w.m.nx<=x->w.m.H x=G
 cn:∀i,w.m.H i=G->w.c i=G
 fr:∀i o,w.F i=V o->w.m.H i=V o/\w.c i=G
def In.wok {w:WS} (h:In s w):WOK w:=⟨h.bd,h.r.cn,λi o hi=>h.r.fr i o hi⟩
def WOK.alive {w:WS} (h:WOK w) (hc:w.c x=V K):w.m.H x≠G/\x<w.m.nx:=
 have h1:w.m.H x≠G:=λe=>by rw[h.cn x e] at hc;cases hc
 ⟨h1,yw λe=>h1 (h.bd x e)⟩
inductive dA (E:Env) (nt:Nat) (pn:Nat->Bool) (ops:eP):WS->List Ev->WS->Prop
 |nil {w:_} (hw:WOK w):dA E nt pn ops w [] w
 |cons {w w1 w2 e l:_} (hw:WOK w) (h:Step E nt pn ops e w w1) (t:dA E nt pn ops w1 l w2):dA E nt pn ops w (e::l) w2
def dA.split:∀{a:List Ev} {e:Ev} {b:List Ev} {w w':WS},dA E nt pn ops w (a++e::b) w'->∃w1 w2,dA E nt pn ops w a w1/\Step E nt pn ops e w1 w2/\dA E nt pn ops w2 b w'/\WOK w1
 | [],_,_,_,_,.cons hw h t=>⟨_,_,.nil hw,h,t,hw⟩
 |_::a,_,_,_,_,.cons hw h t=>let ⟨w1,w2,h1,h2,h3,h4⟩:=dA.split (a:=a) t;⟨w1,w2,.cons hw h h1,h2,h3,h4⟩
def dA.F:∀{l:List Ev} {w w':WS},dA E nt pn ops w l w'->oE w.F w'.F/\(∀k,pn k=M->w'.g k=w.g k)/\w.m.nx<=w'.m.nx
 |_,_,_,.nil _=>⟨.refl _,λ_ _=>rfl,de _⟩
 |_,_,_,.cons _ h t=>have ⟨a,b,c⟩:=t.F;⟨h.F.trans a,λk hk=>(b k hk).trans (h.g k hk),kY h.nx c⟩
def dA.Ln:∀{l:List Ev} {w w':WS} {x:Nat},dA E nt pn ops w l w'->w.m.H x=G->x<w.m.nx->(∀e∈l,x≠e.nw)->w'.m.H x=G
 |_,_,_,_,.nil _,h,_,_=>h
 |e::l,w,w',x,.cons _ st t,h,hx,hn=>t.Ln (pW λh1=>by
   rcases st.born x h h1 with e0|e0
   ·exact hn e (by simp) e0
   ·omega) (A6 hx st.nx) λe he=>hn e (dQ _ he)
def dA.aoE:∀{l:List Ev} {w w':WS} {x K:Nat},dA E nt pn ops w l w'->WOK w->w.c x=V K->(∀e∈l,x≠e.nw/\(e.cl=M->K∉e.W))->w'.c x=V K\/w'.m.H x=G
 |_,_,_,_,_,.nil _,_,h,_=>.inl h
 |e::l,w,w',x,K,.cons (w1:=w1) hw st t,pN,hc,hl=>by
  obtain ⟨h,hx⟩:=pN.alive hc;have hx1:=A6 hx st.nx;have dead:w1.m.H x=G->w'.c x=V K\/w'.m.H x=G:=λh1=>.inr (t.Ln h1 hx1 λe he=>(hl e (dQ _ he)).1)
  have ok1:WOK w1:=by cases t<;>assumption
  have go:w1.c x=V K->w'.c x=V K\/w'.m.H x=G:=λh1=>t.aoE ok1 h1 λe he=>hl e (dQ _ he)
  cases eY:e.cl with
  |false=>exact ((st.FG eY).1 x K hc).elim go dead
  |true=>
   obtain ⟨_,h2⟩:=st.fr x h λK' hK' e0=>by
    rw[hc] at e0;exact (hl e (by simp)).2 eY ((kR e0) ▸ hK')
   exact go (h2.trans hc)
structure Good (ops:eP) (e':Ev) (pm:List Ev) (e:Ev):Prop where
 cl:e'.cl=I
 rd:∃r' r,e'.Rd=V r'/\e.Rd=V r/\(∀K∈r'++e'.W,K∉e.W/\∀m∈pm,m.cl=M->K∉m.W)/\∀K∈r,K∉e'.W
 sl:∃o' o,ops[e'.i]? =V o'/\ops[e.i]? =V o/\Sj ops.toList o' o=M
def ayt (ops:eP) (p:List Ev) (e:Ev):Prop:=∀pa e' pm,p=pa++e'::pm->e'.i∈zu ops ops.size e.i\/Good ops e' pm e
def PW (ops:eP):List Ev->List Ev->Prop
 |_,[]=>True
 |p,e::l=>((∀k∈direct ops e.i,k∈p.map (·.i))/\ayt ops p e)/\PW ops (p++ [e]) l
def PW.at:∀{l p a:List Ev} {e:Ev} {b:List Ev},PW ops p l->l=a++e::b->(∀k∈direct ops e.i,k∈(p++a).map (·.i))/\ayt ops (p++a) e
 |_,p,[],e,b,h,rfl=>by rw[r4];exact h.1
 |_,p,e0::a,e,b,h,rfl=>by
  have:=PW.at (p:=p++ [e0]) (a:=a) (e:=e) (b:=b) h.2 rfl;simpa using this
def HT (ops:eP) (jB:List Ev) (i:Nat):Stp:=(lk i (jB.map λe=>(e.i,e))).elim ⟨G,.undef,λ_=>I,λ_=>G⟩ λe=>⟨(ops[i]?).bind (·.dst),e.r.v,e.r.D,e.r.H⟩
def OB {jB:List Ev} (nd:(jB.map (·.i)).Nodup) {e:Ev} (he:e∈jB):lk e.i (jB.map λe=>(e.i,e))=V e:=by
 induction jB with
 |nil=>cases he
 |cons e0 l ih=>
  rw[jX,dy];obtain ⟨n1,n2⟩:=pj.1 nd;rcases da.1 he with rfl|he
  ·rw[aG rfl]
  ·rw[aC λ(e1:e.i=e0.i)=>n1 (dM.2 ⟨e,he,e1⟩)]
   exact ih n2 he
def GH {jB:List Ev} (nd:(jB.map (·.i)).Nodup):∀{l:List Ev} {w w':WS},(∀e∈l,e∈jB)->dA E nt pn ops w l w'->mG (HT ops jB) (l.map (·.i)) (λ_=>M) ⟨w.m.T,w.m.H⟩=⟨w'.m.T,w'.m.H⟩
 |_,_,_,_,.nil _=>rfl
 |e::l,w,w',hm,.cons (w1:=w1) _ st t=>by
  obtain ⟨o,ho,s1⟩:=st.st;have ih:=GH nd (λe he=>hm e (dQ _ he)) t
  rw[<-ih];have e1:(⟨w.m.T,w.m.H⟩:DS).app (HT ops jB e.i)=⟨w1.m.T,w1.m.H⟩:=by
   have:HT ops jB e.i=⟨(ops[e.i]?).bind (·.dst),e.r.v,e.r.D,e.r.H⟩:=by unfold HT;rw[OB nd (hm e (by simp))];rfl
   rw[this,ho];show (⟨eG w.m.T o.dst e.r.v,rM e.r.D e.r.H w.m.H⟩:DS)=_;rw[<-s1.T,<-s1.H]
  show mG (HT ops jB) (e.i::l.map (·.i)) (λ_=>M) _=_
  unfold mG;rw[jc];simp only[aw,uu];rw[e1]
def aqX {jB:List Ev} {w w':WS} {id:Nat} (hT:w.m.T=m0.T) (hH:w.m.H=m0.H) (h0:w.m.nx=m0.nx+ops.size) (qF:∀x,m0.nx<=x->m0.H x=G) (hc:dA E nt pn ops w jB w') (nd:(jB.map (·.i)).Nodup) (gS:∀j,j∈jB.map (·.i)↔j<ops.size) (hnw:∀e∈jB,e.nw=m0.nx+e.i) (hp:PW ops [] jB):gj E nt (.region id ops M) m0 .normal w'.m:=λok ro k g a wo Q n hQ=>by
 have uniq:∀{e e':Ev},e∈jB->e'∈jB->e.i=e'.i->e=e':=λh h' e0=>by
  have a:=OB nd h;rw[e0,OB nd h'] at a;exact (kR a).symm
 have QJ:∀{e:Ev},e∈jB->e.nw<w.m.nx/\m0.nx<=e.nw:=λh=>by
  have:=(gS _).1 (dM.2 ⟨_,h,rfl⟩);rw[hnw _ h,h0];omega
 have nwne:∀{a b:List Ev} {e:Ev},jB=a++e::b->∀e'∈a++b,e.nw≠e'.nw:=λ{a b e} he e' hm e0=>by
  have he1:e∈jB:=by rw[he];simp
  have he2:e'∈jB:=by rw[he];simp only[eV,da] at hm ⊢;exact hm.elim .inl λh=>.inr (.inr h)
  rw[hnw e he1,hnw e' he2] at e0;have nd':=nd;rw[he,ka,jX] at nd';obtain ⟨_,n2,n3⟩:=Ds.1 nd';rcases eV.1 hm with hm|hm
  ·exact n3 e'.i (dM.2 ⟨e',hm,rfl⟩) e.i (by simp) (by omega)
  ·exact (pj.1 n2).1 (dM.2 ⟨e',hm,by omega⟩)
 have un:∀{a b:List Ev} {w1:WS},jB=a++b->dA E nt pn ops w a w1->∀e∈b,w1.m.H e.nw=G:=λ{a b w1} he qE e hm=>by
  obtain ⟨b1,b2,rfl⟩:=v7 hm;have he1:e∈jB:=by rw[he];simp
  refine qE.Ln ?_ (QJ he1).1 λe' he'=>nwne (a:=a++b1) (b:=b2) (by rw[he];simp) e' (by simp[he'])
  rw[hH];exact qF _ (QJ he1).2
 let need:Nat->Nat->Prop:=λi x=>∃e,e∈jB/\e.i=i/\e.r.need x
 let frp:Nat->Nat->Prop:=λi x=>∃e,e∈jB/\e.i=i/\e.r.frp x
 let newp:Nat->Nat->Prop:=λi x=>∃e,e∈jB/\e.i=i/\e.r.newp x
 have spl:∀{a:bJ} {i:Nat} {b:bJ},jB.map (·.i)=a++i::b->∃ea e eb,jB=ea++e::eb/\ea.map (·.i)=a/\e.i=i:=λ{a i b} h=>by
  obtain ⟨ea,r,h1,h2,h3⟩:=List.map_eq_append_iff.1 h;obtain ⟨e,eb,h4,h5,h6⟩:=List.map_eq_cons_iff.1 h3;exact ⟨ea,e,eb,by rw[h1,h4],h2,h5⟩
 have amx:∀{e:Ev} {w1 w2:WS} {x:Nat} {r:bJ},Step E nt pn ops e w1 w2->WOK w1->e.Rd=V r->e.r.need x->w1.m.H x≠G/\((∃o,w1.F x=V o)\/∃K∈r,w1.c x=V K):=λ{e w1 w2 x r} st ok hr hx=>by
  rcases st.need r hr x hx with h|⟨K,m,h⟩
  ·obtain ⟨o,ho⟩:=uw.1 h;exact ⟨by rw[(ok.fr x o ho).1];simp,.inl ⟨o,ho⟩⟩
  ·exact ⟨(ok.alive h).1,.inr ⟨K,m,h⟩⟩
 have ind:∀{pa pm eb:List Ev} {e' e:Ev},jB=(pa++e'::pm)++e::eb->Good ops e' pm e->Ind ops (HT ops jB) need e'.i e.i:=λ{pa pm eb e' e} he hg=>by
  obtain ⟨r',r,lA,hr,g1,g2⟩:=hg.rd;obtain ⟨o',o,ho',ho,HK⟩:=hg.sl;have me':e'∈jB:=by rw[he];simp
  have me:e∈jB:=by rw[he];simp
  have sR:=hc;rw[he] at sR;obtain ⟨w1,w2,c1,st,_,ok1⟩:=sR.split;obtain ⟨wp,wq,c2,st',c3,okp⟩:=c1.split;have okq:WOK wq:=by cases c3<;>assumption
  have nxp:=c2.F.2.2;have nxq:=st'.nx;have nx1:=c3.F.2.2;have unp:∀m∈e'::pm++e::eb,wp.m.H m.nw=G:=un (a:=pa) (by rw[he];simp) c2
  have une:w1.m.H e.nw=G:=un (a:=pa++e'::pm) he c1 e (by simp)
  have off:∀{x},wp.m.H x≠G->∀m∈e'::pm++e::eb,x≠m.nw:=λhx m hm e0=>hx (e0 ▸ unp m hm)
  have aAd:∀m∈pm++e::eb,e'.nw≠m.nw:=λm hm=>nwne (a:=pa) (b:=pm++e::eb) (by rw[he];simp) m (jb _ hm)
  have cW:∀{K},K∈r'++e'.W->∀m∈pm,m.cl=M->K∉m.W:=λhK m hm eY=>(g1 _ hK).2 m hm eY
  have T0:∀{x K},wp.c x=V K->K∈r'++e'.W->w1.c x=V K\/w1.m.H x=G:=λ{x K} hx hK=>dA.aoE (.cons okp st' c3) okp hx λm hm=>⟨off (okp.alive hx).1 m (gX _ hm),λeY=>by
   rcases da.1 hm with rfl|hm
   ·rw[hg.cl] at eY;cases eY
   ·exact cW hK m hm eY⟩
  have T1:∀{x},e'.r.D x=M->((∃K∈e'.W,w1.c x=V K)\/w1.m.H x=G)/\x≠e.nw/\x<w1.m.nx:=λ{x} hx=>by
   rcases st'.D x hx with rfl|⟨h,_⟩|⟨K,m,h⟩
   ·have dq:e'.nw<wq.m.nx:=by have:=(QJ me').1;omega
    refine ⟨?_,aAd e (by simp),by omega⟩
    by_cases hq:wq.m.H e'.nw=G
    ·exact .inr (c3.Ln hq dq λm hm=>aAd m (gX _ hm))
    ·obtain ⟨K,m,h⟩:=(st'.FG hg.cl).2 hq;exact (c3.aoE okq h λm' ry=>⟨aAd m' (gX _ ry),cW (jb _ m) m' ry⟩).imp_left λh=>⟨K,m,h⟩
   ·rw[hg.cl] at h;cases h
   ·obtain ⟨al,lt⟩:=okp.alive h;exact ⟨(T0 h (jb _ m)).imp_left λh=>⟨K,m,h⟩,off al e (by simp),by omega⟩
  have dst:∀{e:Ev} {o:S'},e∈jB->ops[e.i]? =V o->(HT ops jB e.i).dst=o.dst:=λhe ho=>by unfold HT;rw[OB nd he];show (ops[_]?).bind _=_;rw[ho];rfl
  have Dv:∀{e:Ev},e∈jB->(HT ops jB e.i).D=e.r.D:=λhe=>by unfold HT;rw[OB nd he];rfl
  have sl:=jK.1 (show (wx o'.dst.toList (looks ops.toList o)&&(wx o.dst.toList (looks ops.toList o')&&wx o'.dst.toList o.dst.toList))=M from HK);have sl2:=jK.1 sl.2;have Dfin:∀{x},e.r.D x=M->x≠e.nw->x<w1.m.nx->∃K∈e.W,w1.c x=V K:=λ{x} hx h1 h2=>by
   rcases st.D x hx with h|⟨_,h⟩|h
   ·exact absurd h h1
   ·omega
   ·exact h
  refine ⟨λt ht o1 h1=> ?_,λt ht o1 h1=> ?_,λt ht h1=> ?_,λx hx=> ?_,λx hx=> ?_,λx hx=> ?_⟩
  ·rw[dst me' ho'] at ht;rw[ho] at h1;cases h1;rw[<-afI];exact Ep sl.1 t (by rw[ht];simp)
  ·rw[dst me ho] at ht;rw[ho'] at h1;cases h1;rw[<-afI];exact Ep sl2.1 t (by rw[ht];simp)
  ·rw[dst me' ho'] at ht;rw[dst me ho] at h1;exact Ep sl2.2 t (by rw[ht];simp) (by rw[h1];simp)
  ·rw[Dv me'] at hx;rw[Dv me];obtain ⟨t1,t2,t3⟩:=T1 hx;cases hd:e.r.D x with
   |false=>rfl
   |true=>
    obtain ⟨K,m,h⟩:=Dfin hd t2 t3;rcases t1 with ⟨K',m',h'⟩|h'
    ·rw[h'] at h;cases h;exact absurd m (g1 _ (jb _ m')).1
    ·exact absurd h' (ok1.alive h).1
  ·rw[Dv me'];obtain ⟨e1,me1,ei,hx⟩:=hx;obtain rfl:=uniq me1 me ei;obtain ⟨n1,n2⟩:=amx st ok1 hr hx;cases hd:e'.r.D x with
   |false=>rfl
   |true=>
    obtain ⟨t1,_,_⟩:=T1 hd;rcases t1 with ⟨K',m',h'⟩|h'
    ·rcases n2 with ⟨o,ho⟩|⟨K,m,h⟩
     ·rw[(ok1.fr x o ho).2] at h';cases h'
     ·rw[h'] at h;cases h;exact absurd m' (g2 _ m)
    ·exact absurd h' n1
  ·rw[Dv me];obtain ⟨e1,me1,ei,hx⟩:=hx;obtain rfl:=uniq me1 me' ei;obtain ⟨n1,n2⟩:=amx st' okp lA hx;have dq:x<wp.m.nx:=yw λh=>n1 (okp.bd x h)
   cases hd:e.r.D x with
   |false=>rfl
   |true=>
    obtain ⟨K,m,h⟩:=Dfin hd (off n1 e (by simp)) (by omega)
    rcases n2 with ⟨o,ho⟩|⟨K',m',h'⟩
    ·rw[(ok1.fr x o (c3.F.1 x o (st'.F x o ho))).2] at h;cases h
    ·rcases T0 h' (gX _ m') with h2|h2
     ·rw[h2] at h;cases h;exact absurd m (g1 _ (gX _ m')).1
     ·exact absurd h2 (ok1.alive h).1
 have step:∀{e:Ev},e∈jB->∃w1 w2 ea eb,jB=ea++e::eb/\dA E nt pn ops w ea w1/\Step E nt pn ops e w1 w2/\dA E nt pn ops w2 eb w':=λhe=>by
  obtain ⟨ea,eb,h⟩:=v7 he;have sR:=hc;rw[h] at sR;obtain ⟨w1,w2,h1,h2,h3,_⟩:=sR.split;exact ⟨w1,w2,ea,eb,h,h1,h2,h3⟩
 refine aBD (nt:=nt) (g6:=HT ops jB) (need:=need) (frp:=frp) (newp:=newp) (s0:=⟨m0.T,m0.H⟩) nd gS n.env.mix (λa i b h=> ?_) (λa i b h=> ?_) (λi k hi hk cQ x hx hy=> ?_) n.env n.fr n.hr (λi hi x hx=> ?_) λg' a' w1 q1 q2 q3 q4 q5=> ?_
 ·obtain ⟨ea,e,eb,h1,h2,rfl⟩:=spl h;have me:e∈jB:=by rw[h1];simp
  have sR:=hc;rw[h1] at sR;obtain ⟨w1,w2,c1,st,_,_⟩:=sR.split;obtain ⟨o,ho,s1⟩:=st.st;have hs:=GH nd (λe' he'=>by rw[h1];exact gX _ he') c1
  rw[hT,hH,h2] at hs;have eU:HT ops jB e.i=⟨(ops[e.i]?).bind (·.dst),e.r.v,e.r.D,e.r.H⟩:=by unfold HT;rw[OB nd me];rfl
  refine ⟨o,ho,by rw[eU,ho];rfl,?_⟩
  rw[hs,eU];exact λm g f T1 a w K Q e1 e2 e3 e4 e5 e6 e7=>s1.st ro m g f T1 a w K Q e1 e2 e3 e4 (λx hx=>e5 x ⟨e,me,rfl,hx⟩) (λx hx=>e6 x ⟨e,me,rfl,hx⟩) λr w' g' k1 k2 k3 k4=>e7 r w' g' k1 k2 k3 λx hx=>k4 x λhn=>hx ⟨e,me,rfl,hn⟩
 ·obtain ⟨ea,e,eb,h1,h2,rfl⟩:=spl h;obtain ⟨p1,p2⟩:=hp.at h1;rw[jy,h2] at p1;refine ⟨p1,λk hk=> ?_⟩
  rw[<-h2] at hk;obtain ⟨e',he',rfl⟩:=dM.1 hk;obtain ⟨pa,pm,h3⟩:=v7 he';rcases p2 pa e' pm (by rw[jy,h3]) with h|h
  ·exact .inl h
  ·exact .inr (ind (by rw[h1,h3]) h)
 ·obtain ⟨e,me,rfl,hx⟩:=hx;obtain ⟨e2,me2,rfl,hy⟩:=hy;have n1:=QJ me;have n2:=QJ me2;have hnn:e.nw≠e2.nw:=by rw[hnw e me,hnw e2 me2];omega
  obtain ⟨ea,eb,he⟩:=v7 me;have sR:=hc;have me3:=me2;rw[he] at sR me3;rcases eV.1 me3 with hm|hm
  ·obtain ⟨b1,b2,rfl⟩:=v7 hm;obtain ⟨w1,w2,c1,st,_,_⟩:=sR.split;obtain ⟨v1,v2,d1,Hl,d2,_⟩:=c1.split;have a1:=d1.F.2.2;have a2:=d2.F.2.2;have a3:=Hl.nx;rcases st.frp x hx with h1|⟨_,h1⟩<;>rcases Hl.newp x hy with ⟨h2,_⟩|⟨_,h2,h3⟩
   ·exact absurd (h1.symm.trans h2) hnn
   ·omega
   ·omega
   ·omega
  ·rcases da.1 hm with h|hm
   ·exact absurd (bF Ev.i h).symm cQ
   obtain ⟨b1,b2,rfl⟩:=v7 hm;have he':jB=(ea++e::b1)++e2::b2:=by rw[he];simp
   rw[show ea++e::(b1++e2::b2)=(ea++e::b1)++e2::b2 by simp] at sR
   obtain ⟨w1,w2,c1,Hl,_,_⟩:=sR.split;obtain ⟨v1,v2,d1,st,d2,_⟩:=c1.split;have a1:=d1.F.2.2;have a2:=c1.F.2.2;rcases st.frp x hx with h1|⟨eY,h1⟩<;>rcases Hl.newp x hy with ⟨h2,_⟩|⟨_,h2,h3⟩
   ·exact absurd (h1.symm.trans h2) hnn
   ·omega
   ·omega
   ·rcases (hp.at he').2 ea e b1 (by rw[jy]) with h|h
    ·exact h
    ·rw[h.cl] at eY;cases eY
 ·obtain ⟨e,me,rfl,hx⟩:=hx;obtain ⟨w1,w2,ea,eb,he,c1,st,c2⟩:=step me;have a1:=c1.F.2.2;have n1:=QJ me;refine n.fresh x ?_;rcases st.frp x hx with h1|⟨_,h1⟩<;>omega
 ·have nb:∀{x i},newp i x->m0.nx<=x/\x<w'.m.nx:=λ{x i} h=>by
   obtain ⟨e,me,rfl,hx⟩:=h;obtain ⟨w1,w2,ea,eb,he,c1,st,c2⟩:=step me;have a1:=c1.F.2.2;have a2:=c2.F.2.2;have a3:=st.nx;have n1:=QJ me;rcases st.newp x hx with ⟨h1,_⟩|⟨_,h1,h2⟩<;>omega
  have hfin:=GH nd (λe he=>he) hc
  rw[hT,hH] at hfin;rw[hfin] at q1 q2 q3;have hle:=hc.F.2.2;refine hQ g' a' w1 _ .normal ⟨n.env.mono q3.le,q1,q2,λx hx=> ?_⟩ ⟨q3,q4,λx hx=>q5 x λi _ h=> ?_,by omega⟩
  ·rw[q5 x λi _ h=>by have:=nb h;omega]
   exact n.fresh x (by omega)
  ·have:=nb h;omega
end
section
variable {s s' s1:LS} {E:Env} {pn:Nat->Bool} {nt:Nat} {ops:eP}
structure Mt where
 i:Nat
 o:S'
 W:bJ
 Rd:Option bJ
 cl:Bool
def ancL (d:bJ) (l:List Mt):bJ:=List.rec (λd=>d) (λm _ ih d=>ih (aT (mE m.i d) (GF m.o++d) d)) l d
def aqW (all:nu) (o:S') (A W:bJ) (Rd:Z bJ):bJ->List Mt->Bool
 |_,[]=>M
 |cw,m::l=>(mE m.i A||(!m.cl&&((match m.Rd,Rd with|some r',V r=>wx (r'++m.W) (W++cw)&&wx r m.W|_,_=>I)&&Sj all m.o o)))&&aqW all o A W Rd (aT m.cl (m.W++cw) cw) l
def aoJ:bJ->List Mt->Bool
 | [],_=>M
 |k::l,p=>mE k (p.map (·.i))&&aoJ l p
def YF (E:Env) (nt:Nat) (pn:Nat->Bool) (all:nu):bJ->LS->Sc E->List cH->List Mt->Z (LS×List cH×Sc E)
 | [],s,sc,ob,_=>V (s,ob,sc)
 |i::l,s,sc,ob,p=>az (all[i]?) λo=>az (aoN E nt pn all s o sc) λr=>(λA:bJ=>
  aT (kQ (LJ p.length) all.length&&(aoJ (GF o) p&&(!mE i (p.map (·.i))&&aqW all o A r.1.r.W r.1.Rd [] p))) (YF E nt pn all l r.1.r.s r.2 (r.1.r.DV++ob) (⟨i,o,r.1.r.W,r.1.Rd,r.1.cl⟩::p)) G) (ancL (GF o) p)
structure Fits (ops:eP) (e:Ev) (m:Mt):Prop where
 i:e.i=m.i
 o:ops[e.i]? =V m.o
 W:e.W=m.W
 Rd:e.Rd=m.Rd
 cl:e.cl=m.cl
inductive F4 (ops:eP):List Ev->List Mt->Prop
 |nil:F4 ops [] []
 |cons {p m e l:_} (h:F4 ops p l) (k:Fits ops e m):F4 ops (p++ [e]) (m::l)
def F4.map:∀{p:List Ev} {l:List Mt},F4 ops p l->∀k,k∈p.map (·.i)↔k∈l.map (·.i)
 |_,_,.nil,k=>Iff.rfl
 |_,_,.cons h f,k=>by simp only[ka,eV,h.map k,jX,da,wM,List.not_mem_nil,or_false,f.i];exact Or.comm
def TD:∀{m n j:Nat},m<=n->∀i∈zu ops m j,i∈zu ops n j
 |0,_,_,_,i,h=>by cases h
 |m+1,0,_,h,_,_=>by omega
 |m+1,n+1,j,h,i,hi=>by
  rcases eV.1 (show i∈direct ops j++(direct ops j).flatMap (zu ops m) from hi) with h1|h1
  ·exact gX _ h1
  ·obtain ⟨k,k1,k2⟩:=ur.1 h1;exact jb _ (ur.2 ⟨k,k1,TD (Nat.le_of_succ_le_succ h) i k2⟩)
def ahj:∀{n j i k:Nat},i∈zu ops n j->k∈direct ops i->k∈zu ops (n+1) j
 |0,_,_,_,h,_=>by cases h
 |n+1,j,i,k,h,hk=>by
  rcases eV.1 (show i∈direct ops j++(direct ops j).flatMap (zu ops n) from h) with h1|h1
  ·exact jb _ (ur.2 ⟨i,h1,gX _ hk⟩)
  ·obtain ⟨q,q1,q2⟩:=ur.1 h1;exact jb _ (ur.2 ⟨q,q1,ahj q2 hk⟩)
def anp {j:Nat}:∀{p:List Ev} {l:List Mt} {q:Nat} {d:bJ},(∀i∈d,i∈zu ops q j)->F4 ops p l->∀i∈ancL d l,i∈zu ops (q+l.length) j
 |_,_,_,_,hd,.nil,i,hi=>hd i hi
 |_,_,q,d,hd,.cons (m:=m) (l:=l) h k,i,hi=>by
  have:=anp (q:=q+1) (d:=aT (mE m.i d) (GF m.o++d) d) (λi hi=>by
   rw[cE] at hi;split at hi
   ·rename_i hm;rcases eV.1 hi with hi|hi
    ·exact ahj (hd _ ((tD _ _).1 hm)) (by unfold direct;rw[<-k.i,k.o];exact hi)
    ·exact TD (sm _) i (hd i hi)
   ·exact TD (sm _) i (hd i hi)) h i hi
  rwa[show q+1+l.length=q+(m::l).length by rw[iu];omega] at this
def ala {l:List Mt}:∀{d:bJ},aoJ d l=M->∀k∈d,k∈l.map (·.i)
 |k::d,h,j,hj=>by
  have h:=jK.1 (show (mE k (l.map (·.i))&&aoJ d l)=M from h)
  rcases da.1 hj with rfl|hj
  ·exact (tD _ _).1 h.1
  ·exact ala h.2 j hj
def anh {o:S'} {A:bJ} {e:Ev} (ho:ops[e.i]? =V o):∀{p:List Ev} {l:List Mt} {cw:bJ},F4 ops p l->aqW ops.toList o A e.W e.Rd cw l=M->∀pa e' pm,p=pa++e'::pm->e'.i∈A\/(Good ops e' pm e/\∃r',e'.Rd=V r'/\∀K∈r'++e'.W,K∉cw)
 |_,_,cw,.nil,_,pa,e',pm,h0=>by
  have:=bF aa9 h0;simp at this
 |_,_,cw,.cons (p:=p) (m:=m) (e:=e0) (l:=l) hf k,h,pa,e',pm,h0=>by
  have h:=jK.1 (show ((mE m.i A||(!m.cl&&((match m.Rd,e.Rd with|some r',V r=>wx (r'++m.W) (e.W++cw)&&wx r m.W|_,_=>I)&&Sj ops.toList m.o o)))&&aqW ops.toList o A e.W e.Rd (aT m.cl (m.W++cw) cw) l)=M from h)
  rcases List.eq_nil_or_concat pm with rfl|⟨pm0,e1,rfl⟩
  ·obtain ⟨rfl,h2⟩:=List.append_inj' h0 rfl;obtain rfl:=List.singleton_inj.1 h2;rcases (sx _ _).mp h.1 with h1|h1
   ·left;rw[k.i];exact (tD _ _).1 h1
   ·right;simp only[bG] at h1;obtain ⟨h1,h2,h3⟩:=h1;rw[<-k.Rd] at h2;split at h2
    ·rename_i r' r e1 e2;rw[bG,<-k.W] at h2;have d1:=Ep h2.1;have d2:=Ep h2.2;refine ⟨⟨by rw[k.cl];simpa using h1,⟨r',r,e1,e2,λK hK=>⟨λhm=>d1 K hK (gX _ hm),λm hm=>(by cases hm)⟩,d2⟩,⟨m.o,o,k.o,ho,h3⟩⟩,r',e1,λK hK hm=>d1 K hK (jb _ hm)⟩
    ·cases h2
  ·rw[List.concat_eq_append,show pa++e'::(pm0++ [e1])=(pa++e'::pm0)++ [e1] by simp] at h0
   obtain ⟨h1,h2⟩:=List.append_inj' h0 rfl;obtain rfl:=List.singleton_inj.1 h2;rcases anh ho hf h.2 pa e' pm0 h1 with h3|⟨⟨g1,⟨r',r,e1,e2,g2,g3⟩,g4⟩,r'',e3,g5⟩
   ·exact .inl h3
   ·right;rw[e1] at e3;cases e3;rw[cE] at g5;refine ⟨⟨g1,⟨r',r,e1,e2,λK hK=>⟨(g2 K hK).1,λm' ry eY=> ?_⟩,g3⟩,g4⟩,r',e1,λK hK hm=>g5 K hK ?_⟩
    ·rw[List.concat_eq_append] at ry;rcases eV.1 ry with ry|ry
     ·exact (g2 K hK).2 m' ry eY
     ·rw[gL] at ry;subst ry;intro hKW;refine g5 K hK ?_;rw[aG (by rw[<-k.cl];exact eY)]
      exact gX _ (k.W ▸ hKW)
    ·split
     ·exact jb _ hm
     ·exact hm
def J2 {base:Nat}:∀{l:bJ} {s:LS} {sc:Sc E} {ob:List cH} {pm:List Mt} {r:LS×List cH×Sc E},YF E nt pn ops.toList l s sc ob pm=V r->jl r.2.1->jl ob/\∀(p:List Ev) (w:WS),F4 ops p pm->(p.map (·.i)).Nodup->In s w->base+ops.size<=w.m.nx->(∀i,i<ops.size->i∉p.map (·.i)->w.m.H (base+i)=G)->
  ∃jB w',dA E nt pn ops w jB w'/\In r.1 w'/\jB.map (·.i)=l/\(∀e∈jB,e.nw=base+e.i)/\PW ops p jB/\((p++jB).map (·.i)).Nodup/\(pn tW=M->∀x,w.m.H x≠G->w'.m.H x=w.m.H x/\w'.c x=w.c x)
 | [],s,sc,ob,pm,r,h,ho=>by
  cases h;exact ⟨ho,λp w _ nd hw _ _=>⟨[],w,.nil hw.wok,hw,rfl,λe he=>(by cases he),trivial,by simpa using nd,λ_ _ _=>⟨rfl,rfl⟩⟩⟩
 |i::l,s,sc,ob,pm,r,h,ho=>by
  obtain ⟨o,hi,h⟩:=aq h;obtain ⟨q,hq,h⟩:=aq h;obtain ⟨hc,h⟩:=ba h;simp only[bG] at hc;obtain ⟨k1,k2,k3,k4⟩:=hc;rw[l5] at hi;obtain ⟨h1,h2⟩:=J2 h ho;obtain ⟨h3,h4⟩:=pc h1;refine ⟨h4,λp w hf nd hw nk hun=> ?_⟩
  have dq:i<ops.size:=(oj.1 hi).1;have hip:i∉p.map (·.i):=λhm=>Jw k3 ((hf.map i).1 hm)
  obtain ⟨r1,w1,st,in1,n1,q9⟩:=adb (new:=base+i) (nx':=w.m.nx) hi hq h3 hw (hun i dq hip) (de _) (by omega) λ_=>.inr rfl
  have dird:∀k∈GF o,k∈direct ops i:=λk hk=>by unfold direct;rw[hi];exact hk
  have fit:Fits ops ⟨i,base+i,r1,q.1.r.W,q.1.Rd,q.1.cl⟩ ⟨i,o,q.1.r.W,q.1.Rd,q.1.cl⟩:=⟨rfl,hi,rfl,rfl,rfl⟩;have nd':((p++ [(⟨i,base+i,r1,q.1.r.W,q.1.Rd,q.1.cl⟩:Ev)]).map (·.i)).Nodup:=by
   rw[ka];exact Ds.2 ⟨nd,by simp,λa ha b hb e=>hip (by rw[show b=i by simpa using hb] at e;exact e ▸ ha)⟩
  obtain ⟨jB,w',c1,c2,c3,c4,c5,c6,c9⟩:=h2 _ w1 (.cons hf fit) nd' in1 (kY nk st.nx) λj hj hjp=>pW λcQ=>by
   rw[ka,eV,not_or] at hjp;rcases st.born (base+j) (hun j hj hjp.1) cQ with e|e
   ·exact hjp.2 (by have e:base+j=base+i:=e;simp;omega)
   ·have e:w.m.nx<=base+j:=e;omega
  refine ⟨⟨i,base+i,r1,q.1.r.W,q.1.Rd,q.1.cl⟩::jB,w',.cons hw.wok st c1,c2,by rw[jX,c3],λe he=> ?_,⟨⟨λk hk=> ?_,λpa e' pm' hp=> ?_⟩,c5⟩,by simpa using c6,λhp x hx=>have ⟨a1,a2⟩:=q9 hp x hx;have ⟨b1,b2⟩:=c9 hp x (a1 ▸ hx);⟨b1.trans a1,b2.trans a2⟩⟩
  ·rcases da.1 he with rfl|he
   ·rfl
   ·exact c4 e he
  ·refine (hf.map k).2 (ala k2 k ?_);have hk:k∈((ops[i]?).map GF).getD []:=hk;rw[hi] at hk;exact hk
  ·rcases anh (e:=⟨i,base+i,r1,q.1.r.W,q.1.Rd,q.1.cl⟩) hi hf k4 pa e' pm' hp with h|⟨h,_⟩
   ·refine .inl (TD ?_ _ (anp (q:=1) (λk hk=>gX _ (dird k hk)) hf _ h))
    have:=(bR _ _).1 k1;have e:ops.toList.length=ops.size:=NT;omega
   ·exact .inr h
def ordS (n:Nat) (sc:Sc E):bJ×Sc E:=
 match sc with
 |(0,.ord l)::sc=>(l,sc)
 |_=>(aa1 n,sc)
def aFv (E:Env) (nt:Nat) (pn:Nat->Bool) (all:nu) (n:Nat) (s:LS) (sc:Sc E) (ob:List cH):Z (LS×List cH×Sc E):=
 (λq:LS×List cH×Sc E=>(λσ:bJ×Sc E=>aT ((aa1 n).all λj=>mE j σ.1) (YF E nt pn all σ.1 q.1 σ.2 q.2.1 []) G) (ordS n q.2.2)) (Ei pn sc s ob)
def aBE {id:Nat} {sc:Sc E} {r:LS×List cH×Sc E} (h:aFv E nt pn ops.toList ops.size s sc ob=V r) (ho:jl r.2.1):jl ob/\∀w,In s w->∃w',gj E nt (.region id ops M) w.m .normal w'.m/\In r.1 w'/\Ext pn w w':=by
 obtain ⟨h1,h⟩:=ba h;obtain ⟨h2,h3⟩:=J2 (base:=0) h ho;obtain ⟨h4,h5,h9⟩:=Mu sc s ob h2;refine ⟨h4,λw hw=> ?_⟩
 obtain ⟨w1,k1,k2,k3⟩:=hw.Qy h5 h9;let w2:WS:=⟨w1.F,w1.g,w1.Y,w1.c,⟨w1.m.T,w1.m.H,w1.m.nx+ops.size⟩⟩;have in2:In (Ei pn sc s ob).1 w2:=⟨k1.r,λx hx=>k1.bd x (by have hx:w1.m.nx+ops.size<=x:=hx;omega)⟩
 obtain ⟨_,h3⟩:=J2 (base:=w1.m.nx) h ho;obtain ⟨jB,w',c1,c2,c3,c4,c5,c6,c9⟩:=h3 [] w2 .nil (by simp) in2 (de _) λi _ _=>k1.bd _ (by omega)
 have c6:(jB.map (·.i)).Nodup:=by simpa using c6
 have dq:∀j∈jB.map (·.i),j<ops.size:=λj hj=>by
  obtain ⟨e,he,rfl⟩:=dM.1 hj;obtain ⟨a,b,he'⟩:=v7 he;rw[he'] at c1;obtain ⟨_,_,_,st,_⟩:=c1.split;obtain ⟨o,ho,_⟩:=st.st;exact (oj.1 ho).1
 have hF:=c1.F;have nk:w1.m.nx<=w'.m.nx:=kY (NS _ _) hF.2.2;refine ⟨w',?_,c2,k2.trans ⟨hF.1,hF.2.1,nk,λx hx cQ h0=> ?_,c9⟩⟩
 ·rw[<-k3];exact aqX (w:=w2) rfl rfl rfl k1.bd c1 c6 (λj=>⟨dq j,λhj=>by rw[c3];exact (tD _ _).1 ((jJ.1 h1) j (Wa.2 hj))⟩) c4 c5
 ·refine cQ (c1.Ln h0 (show x<w1.m.nx+ops.size by omega) λe he e0=> ?_)
  rw[c4 e he] at e0;omega
end
section
variable {s s' s1:LS} {E:Env} {nt:Nat}
def E9:P'->Nat->P'
 | .seq a _,0=>a
 | .seq _ b,_=>b
 | .cond _ a _,0=>a
 | .cond _ _ b,_=>b
 | .block _ c,_=>c
 | .loop c,_=>c
 |_,_=>.skip
def rJ (c:P'):bJ->P'
 | []=>c
 |i::p=>E9 (rJ c p) i
inductive KP where
 |code (p:bJ) (c:P')|block (id:Nat)|loop (p:bJ) (c:P')
def kg (c:P'):bJ->List KP
 | []=> []
 |i::p=>
  match rJ c p with
  | .seq _ b=>(match i with|0=>.code (1::p) b::kg c p|_=>kg c p)
  | .block id _=>.block id::kg c p
  | .loop b=>.loop p b::kg c p
  |_=>kg c p
structure Fx (E:Env) where
 fn:Func
 code:P'
 LI:bJ
 ro:Bool
def yG (X:Fx E) (k:Nat):Bool:=aT (ku k tW) X.ro (pnL X.LI k)
inductive Md where
 |yS (c:P') (p:bJ) (kj:Bool)|out (e:Ex)
inductive Stop where
 |at (p:bJ) (s:LS)|ret (y:AV) (bs:cT)
def eqP:bJ->bJ->Bool
 | []=>λq=>(match q with| []=>M|_=>I)
 |a::p=>λq=>(match q with| []=>I|b::q=>aT (ku a b) (eqP p q) I)
def aBl (p:bJ) (st:Stop):Z LS:=
 match st with
 | .at q s=>aT (eqP q p) (V s) G
 |_=>G
def QA (E:Env) (s:LS):ab2->AV
 | .tmp t=>(lk t s.ts).getD .undef
 | .cell t ty=>(cC (lk t s.ts) (E.ty.get ty) λa i=>Jy i s.bs a).getD .undef
def rL:bb->AV
 | [v]=>v
 |vs=>.dr vs
abbrev Ce:=Z (Stop×List cH)
def azT (X:Fx E) (st:Stop) (s:LS) (o:List cH):Ce:=
 match st with
 | .ret y bs=>(λys:bb=>az (MK s.bs bs) λbs=>aT (qV ys) (V (.ret (cv y (rL ys)) bs,o)) G) (X.fn.results.toList.map (QA E s))
 |_=>G
def retG (X:Fx E) (st:Stop) (s:LS) (sc:Sc E) (o:List cH):Ce:=(λq:LS×List cH×Sc E=>azT X st q.1 q.2.1) (Ei (yG X) sc s o)
abbrev MW (E:Env):=Md->List KP->LS->Sc E->List cH->Ce
def regK (X:Fx E) (ih:MW E) (ops:nu) (n:Nat) (draw:Bool) (ks:List KP) (s:LS) (sc:Sc E) (o:List cH):Ce:=
 az (aT draw (aFv E X.fn.ntmps (yG X) ops n s sc o) (aeP E X.fn.ntmps (yG X) ops ops s sc o)) λr=>ih (.out .normal) ks r.1 r.2.2 r.2.1
def Tk (X:Fx E) (st:Stop) (ih:MW E) (c:P') (p:bJ) (ks:List KP) (s:LS) (sc:Sc E) (o:List cH):Ce:=
 match c with
 | .skip=>ih (.out .normal) ks s sc o
 | .seq a b=>ih (.yS a (0::p) M) (.code (1::p) b::ks) s sc o
 | .region _ ops draw=>regK X ih ops.toList ops.size draw ks s sc o
 | .cond x a b=>(match dU s.ts x with
  | .lit (.bool t)=>aT t (ih (.yS a (0::p) M) ks s sc o) (ih (.yS b (1::p) M) ks s sc o)
  |_=>G)
 | .block id c=>ih (.yS c (0::p) M) (.block id::ks) s sc o
 | .loop c=>ih (.yS c (0::p) M) (.loop p c::ks) s sc o
 | .exit id=>ih (.out (.exit id)) ks s sc o
 | .ret=>ih (.out .ret) ks s sc o
 |_=>G
def afM (X:Fx E) (st:Stop) (ih:MW E) (e:Ex) (ks:List KP) (s:LS) (sc:Sc E) (o:List cH):Ce:=
 match ks with
 | []=>aT (S1 e) (retG X st s sc o) G
 | .code p c::ks=>aT (tE e) (ih (.yS c p M) ks s sc o) (ih (.out e) ks s sc o)
 | .block id::ks=>ih (.out (leave id e)) ks s sc o
 | .loop p c::ks=>aT (tE e) (ih (.yS (.loop c) p M) ks s sc o) (ih (.out e) ks s sc o)
def aPa (ro:Bool) (p:bJ) (w:LS) (q:LS×List cH×Sc E):Ce:=aT ro G (az (MK q.1.bs w.bs) λbs=>V (.at p ⟨cvT w.ts q.1.ts,bs⟩,q.2.1))
def X2 (X:Fx E) (st:Stop) (ih:MW E) (m:Md) (ks:List KP) (s:LS) (sc:Sc E) (o:List cH):Ce:=
 match m with
 | .yS c p kj=>aT kj (match aBl p st with
  |some w=>aPa (yG X tW) p w (Ei (yG X) sc s o)
  |none=>Tk X st ih c p ks s sc o) (Tk X st ih c p ks s sc o)
 | .out e=>afM X st ih e ks s sc o
def runK (X:Fx E) (st:Stop) (n:Nat):MW E:=Nat.rec (λ_ _ _ _ _=>G) (λ_ ih=>X2 X st ih) n
def sd (X:Fx E) (st:Stop) (p:bJ) (s:LS) (sc:Sc E):Ce:=runK X st 100000 (.yS (rJ X.code p) p I) (kg X.code p) s sc []
def KT (E:Env) (nt:Nat):List KP->Ex->MS->Ex->MS->Prop
 | [],e,m,e',m'=>e=e'/\m=m'
 | .code _ c::ks,e,m,e',m'=>if tE e=M then ∃e1 m1,gj E nt c m e1 m1/\KT E nt ks e1 m1 e' m' else KT E nt ks e m e' m'
 | .block id::ks,e,m,e',m'=>KT E nt ks (leave id e) m e' m'
 | .loop _ c::ks,e,m,e',m'=>if tE e=M then ∃e1 m1,gj E nt (.loop c) m e1 m1/\KT E nt ks e1 m1 e' m' else KT E nt ks e m e' m'
def KTC (E:Env) (nt:Nat) (c:P') (ks:List KP) (m:MS) (e':Ex) (m':MS):Prop:=∃e1 m1,gj E nt c m e1 m1/\KT E nt ks e1 m1 e' m'
def MdT (E:Env) (nt:Nat) (md:Md) (ks:List KP) (m:MS) (e':Ex) (m':MS):Prop:=
 match md with
 | .yS c _ _=>KTC E nt c ks m e' m'
 | .out e=>KT E nt ks e m e' m'
def Holds (X:Fx E) (Q:Ex->WS->Prop) (ks:List KP) (s:LS) (md:Md):Prop:=∀w,In s w->∃e' w',MdT E X.fn.ntmps md ks w.m e' w'.m/\Ext (yG X) w w'/\Q e' w'
def Fin (X:Fx E) (y:AV) (gI:cT) (e:Ex) (w:WS):Prop:=S1 e=M/\(∃vs,zY E w.m.T w.m.H X.fn.results.toList=V vs/\VA w.F w.g (oneOf vs) y)/\Rel w.F w.g w.Y w.c ⟨[],gI⟩ noT w.m.H/\∀x,w.m.nx<=x->w.m.H x=G
def AtQ (X:Fx E) (p:bJ) (s:LS) (Q:Ex->WS->Prop):Prop:=Holds X Q (kg X.code p) s (.yS (rJ X.code p) p I)
def At (X:Fx E) (p:bJ) (s:LS) (y:AV) (gI:cT):Prop:=AtQ X p s (Fin X y gI)
def Holds.step {X:Fx E} {Q:Ex->WS->Prop} {ks LZ:List KP} {md md':Md} (h:Holds X Q LZ s md') (k:∀{m e m'},MdT E X.fn.ntmps md' LZ m e m'->MdT E X.fn.ntmps md ks m e m'):Holds X Q ks s md:=λw hw=>
 let ⟨e,w',h1,h2,h3⟩:=h w hw
 ⟨e,w',k h1,h2,h3⟩
def Holds.lead {X:Fx E} {Q:Ex->WS->Prop} {ks LZ:List KP} {md md':Md} (h:Holds X Q LZ s' md') (k:∀w,In s w->∃w1,In s' w1/\Ext (yG X) w w1/\∀{e m'},MdT E X.fn.ntmps md' LZ w1.m e m'->MdT E X.fn.ntmps md ks w.m e m'):Holds X Q ks s md:=λw hw=>
 let ⟨w1,k1,k2,k3⟩:=k w hw
 let ⟨e,w',h1,h2,h3⟩:=h w1 k1
 ⟨e,w',k3 h1,k2.trans h2,h3⟩
def Holds.Qy {X:Fx E} {Q:Ex->WS->Prop} {ks:List KP} {md:Md} (h:Holds X Q ks s' md) (k:kn (yG X) s s') (Bs:yG X tW=M->s'=s):Holds X Q ks s md:=h.lead λw hw=>
 let ⟨w1,k1,k2,k3⟩:=hw.Qy k Bs
 ⟨w1,k1,k2,λh=>k3 ▸ h⟩
def Zv {e:Ex} (h:tE e=M):e= .normal:=by cases e<;>first|rfl|cases h
def KTC.seq {a b:P'} {p:bJ} {ks:List KP} {m m':MS} {e:Ex} (h:KTC E nt a (.code p b::ks) m e m'):KTC E nt (.seq a b) ks m e m':=by
 obtain ⟨e1,m1,h1,h2⟩:=h;unfold KT at h2;split at h2
 ·rename_i hn;obtain rfl:=Zv hn;obtain ⟨e2,m2,h3,h4⟩:=h2;exact ⟨e2,m2,.seq h1 h3,h4⟩
 ·rename_i hn;exact ⟨e1,m1,.auX (by simpa using hn) h1,h2⟩
def KTC.loop {c:P'} {p:bJ} {ks:List KP} {m m':MS} {e:Ex} (h:KTC E nt c (.loop p c::ks) m e m'):KTC E nt (.loop c) ks m e m':=by
 obtain ⟨e1,m1,h1,h2⟩:=h;unfold KT at h2;split at h2
 ·rename_i hn;obtain rfl:=Zv hn;obtain ⟨e2,m2,h3,h4⟩:=h2;exact ⟨e2,m2,.loop h1 h3,h4⟩
 ·rename_i hn;exact ⟨e1,m1,.aHH (by simpa using hn) h1,h2⟩
def KOK (X:Fx E):List KP->Prop
 | []=>True
 | .code p c::ks=>c=rJ X.code p/\ks=kg X.code p/\KOK X ks
 | .loop p c::ks=>Code.loop c=rJ X.code p/\ks=kg X.code p/\KOK X ks
 | .block _::ks=>KOK X ks
def L3 (X:Fx E):∀p,KOK X (kg X.code p)
 | []=>trivial
 |i::p=>by
  have ih:=L3 X p;unfold kg;split
  ·rename_i a b hc;split
   ·exact ⟨by simp[rJ,hc,E9],by simp[kg,hc],ih⟩
   ·exact ih
  ·exact ih
  ·rename_i b hc;exact ⟨hc.symm,rfl,ih⟩
  ·exact ih
def tO (X:Fx E) (ks:List KP):Md->Prop
 | .yS c p _=>c=rJ X.code p/\ks=kg X.code p
 | .out _=>True
def abf (X:Fx E) (Q:Ex->WS->Prop):Stop->Prop
 | .at p s=>AtQ X p s Q
 | .ret y bs=>∀e w,Fin X y bs e w->Q e w
def arS (X:Fx E) (Q:Ex->WS->Prop) (ih:MW E):Prop:=
 ∀m ks s sc o r,ih m ks s sc o=V r->jl r.2->KOK X ks->tO X ks m->abf X Q r.1->jl o/\Holds X Q ks s m
def aHs {F:Hf} {g:Gb} {Y:Nat->Ow} {c:Nat->cD} {T:Tf} {H:Hf} (r:Rel F g Y c s T H) {x:ab2} (hu:QA E s x≠ .undef):∃v,Sn E T H x=V v/\VA F g v (QA E s x):=by
 cases x with
 |tmp t=>
  have hu:(lk t s.ts).getD .undef≠ .undef:=hu;show ∃v,T t=V v/\VA F g v ((lk t s.ts).getD .undef);cases h:lk t s.ts with
  |none=>rw[h] at hu;exact absurd rfl hu
  |some x=>rw[h] at hu;exact r.tm t x h hu
 |cell t ty=>
  have hu:(cC (lk t s.ts) (E.ty.get ty) λa i=>Jy i s.bs a).getD .undef≠ .undef:=hu
  show ∃v,az (T t) (rm E H ty)=V v/\VA F g v ((cC (lk t s.ts) (E.ty.get ty) λa i=>Jy i s.bs a).getD .undef)
  cases h:cC (lk t s.ts) (E.ty.get ty) λa i=>Jy i s.bs a with
  |none=>rw[h] at hu;exact absurd rfl hu
  |some x=>
   obtain ⟨a,i,h1,h2,h3⟩:=bU h;obtain ⟨v,v1,v2⟩:=r.tm t a h1 (λe=>by subst e;cases h3)
   obtain ⟨u,u1,u2⟩:=amD (E:=E) (t:=ty) h2 h3 r v2;refine ⟨u,?_,u2⟩;rw[v1];show rm E H ty v=_;cases hl:rm E H ty v with
   |none=>rw[hl] at u1;cases u1
   |some z=>rw[hl] at u1;cases u1;rfl
def alS {F:Hf} {g:Gb} {Y:Nat->Ow} {c:Nat->cD} {T:Tf} {H:Hf} (r:Rel F g Y c s T H):∀{l:List ab2},qV (l.map (QA E s))=M->∃vs,zY E T H l=V vs/\dH F g vs (l.map (QA E s))
 | [],_=>⟨[],rfl,.nil⟩
 |x::l,h=>by
  have h:aT (sM (QA E s x)) I (qV (l.map (QA E s)))=M:=h;rw[cE] at h;split at h
  ·cases h
  ·rename_i hx;obtain ⟨v,v1,v2⟩:=aHs (E:=E) r (JA (by simpa using hx))
   obtain ⟨vs,w1,w2⟩:=alS r h;exact ⟨v::vs,by show cC _ _ _=_;rw[v1,w1];rfl,.cons v2 w2⟩
def aHr {X:Fx E} {Q:Ex->WS->Prop} {st:Stop} {sc:Sc E} {r:Stop×List cH} {e:Ex} (he:S1 e=M) (h:retG X st s sc o=V r) (ho:jl r.2) (hp:abf X Q r.1):jl o/\Holds X Q [] s (.out e):=by
 have h:azT X st (Ei (yG X) sc s o).1 (Ei (yG X) sc s o).2.1=V r:=h;unfold azT at h;split at h
 ·rename_i y bs _;obtain ⟨gI,h1,h⟩:=aq h;obtain ⟨h2,h⟩:=ba h;cases h;obtain ⟨k1,k2,k3⟩:=Mu sc s o ho;refine ⟨k1,Holds.Qy (λw hw=>⟨e,w,⟨rfl,rfl⟩,.refl w,hp e w ⟨he,?_,?_,hw.bd⟩⟩) k2 k3⟩
  ·obtain ⟨vs,v1,v2⟩:=alS (E:=E) hw.r h2;refine ⟨vs,v1,FD ?_⟩;generalize X.fn.results.toList.map _=ys at v2;cases v2 with
   |nil=>exact .dr .nil
   |cons a b=>cases b with
    |nil=>exact a
    |cons b c=>exact .dr (.cons a (.cons b c))
  ·have:=hw.r.cv (w:=⟨[],bs⟩) h1;exact {this with tm:=λt x hx=>(by cases hx)}
 ·cases h
def ZE {X:Fx E} {Q:Ex->WS->Prop} {st:Stop} {ih:MW E} {c:P'} {p:bJ} {ks:List KP} {sc:Sc E} {r:Stop×List cH} {kj:Bool} (Eb:arS X Q ih) (h:Tk X st ih c p ks s sc o=V r) (ho:jl r.2) (hk:KOK X ks) (h1:c=rJ X.code p) (h2:ks=kg X.code p) (hp:abf X Q r.1):jl o/\Holds X Q ks s (.yS c p kj):=by
 unfold Tk at h;split at h
 ·obtain ⟨q1,q2⟩:=Eb _ _ _ _ _ _ h ho hk trivial hp;exact ⟨q1,q2.step λh=>⟨_,_,.skip,h⟩⟩
 ·rename_i a b;obtain ⟨q1,q2⟩:=Eb _ _ _ _ _ _ h ho ⟨by simp[rJ,<-h1,E9],by simp[kg,<-h1,h2],hk⟩ ⟨by simp[rJ,<-h1,E9],by simp[kg,<-h1,h2]⟩ hp
  exact ⟨q1,q2.step λh=>KTC.seq h⟩
 ·rename_i id ops draw;obtain ⟨q,h3,h⟩:=aq h;obtain ⟨q1,q2⟩:=Eb _ _ _ _ _ _ h ho hk trivial hp;rw[cE] at h3;split at h3
  ·rename_i hd;subst hd;obtain ⟨q3,q4⟩:=aBE (id:=id) h3 q1;exact ⟨q3,q2.lead λw hw=>let ⟨w1,a,b,c⟩:=q4 w hw;⟨w1,b,c,λh=>⟨_,_,a,h⟩⟩⟩
  ·rename_i hd;obtain rfl:draw=I:=by simpa using hd
   obtain ⟨q3,q4⟩:=Zo (i:=0) (ops:=ops) (by simp) (uq _) h3 q1
   exact ⟨q3,q2.lead λw hw=>let ⟨w1,a,b,c⟩:=q4 w hw;⟨w1,b,c,λh=>⟨_,_,.region a,h⟩⟩⟩
 ·rename_i x a b;split at h
  ·rename_i t hv;have hc:∀w,In s w->dB w.m.T x=V (.bool t):=λw hw=>by
    obtain ⟨v,v1,v2⟩:=hw.r.val hv (by simp)
    cases v2;exact v1
   rw[cE] at h;split at h
   ·rename_i ht;subst ht;obtain ⟨q1,q2⟩:=Eb _ _ _ _ _ _ h ho hk ⟨by simp[rJ,<-h1,E9],by simp[kg,<-h1,h2]⟩ hp
    exact ⟨q1,q2.lead λw hw=>⟨w,hw,.refl w,λ⟨e1,m1,k1,k2⟩=>⟨e1,m1,.cond (b:=M) (hc w hw) k1,k2⟩⟩⟩
   ·rename_i ht;obtain rfl:t=I:=by simpa using ht
    obtain ⟨q1,q2⟩:=Eb _ _ _ _ _ _ h ho hk ⟨by simp[rJ,<-h1,E9],by simp[kg,<-h1,h2]⟩ hp
    exact ⟨q1,q2.lead λw hw=>⟨w,hw,.refl w,λ⟨e1,m1,k1,k2⟩=>⟨e1,m1,.cond (b:=I) (hc w hw) k1,k2⟩⟩⟩
  ·cases h
 ·rename_i id c;obtain ⟨q1,q2⟩:=Eb _ _ _ _ _ _ h ho hk ⟨by simp[rJ,<-h1,E9],by simp[kg,<-h1,h2]⟩ hp
  exact ⟨q1,q2.step λ⟨e1,m1,k1,k2⟩=>⟨_,m1,.block k1,k2⟩⟩
 ·rename_i c;obtain ⟨q1,q2⟩:=Eb _ _ _ _ _ _ h ho ⟨h1,h2,hk⟩ ⟨by simp[rJ,<-h1,E9],by simp[kg,<-h1,h2]⟩ hp
  exact ⟨q1,q2.step λh=>KTC.loop h⟩
 ·obtain ⟨q1,q2⟩:=Eb _ _ _ _ _ _ h ho hk trivial hp;exact ⟨q1,q2.step λh=>⟨_,_,.exit,h⟩⟩
 ·obtain ⟨q1,q2⟩:=Eb _ _ _ _ _ _ h ho hk trivial hp;exact ⟨q1,q2.step λh=>⟨_,_,.ret,h⟩⟩
 ·cases h
def awb {X:Fx E} {Q:Ex->WS->Prop} {st:Stop} {ih:MW E} {e:Ex} {ks:List KP} {sc:Sc E} {r:Stop×List cH} (Eb:arS X Q ih) (h:afM X st ih e ks s sc o=V r) (ho:jl r.2) (hk:KOK X ks) (hp:abf X Q r.1):jl o/\Holds X Q ks s (.out e):=by
 unfold afM at h;split at h
 ·obtain ⟨he,h⟩:=ba h;exact aHr he h ho hp
 ·rename_i p c ks;obtain ⟨k1,k2,k3⟩:=hk;rw[cE] at h;split at h
  ·rename_i he;obtain ⟨q1,q2⟩:=Eb _ _ _ _ _ _ h ho k3 ⟨k1,k2⟩ hp;exact ⟨q1,q2.step λh=>by show KT E _ (.code p c::ks) e _ _ _;unfold KT;rw[aG he];exact h⟩
  ·rename_i he;obtain ⟨q1,q2⟩:=Eb _ _ _ _ _ _ h ho k3 trivial hp;exact ⟨q1,q2.step λh=>by show KT E _ (.code p c::ks) e _ _ _;unfold KT;rw[aC he];exact h⟩
 ·rename_i id ks;obtain ⟨q1,q2⟩:=Eb _ _ _ _ _ _ h ho hk trivial hp;exact ⟨q1,q2.step λh=>h⟩
 ·rename_i p c ks;obtain ⟨k1,k2,k3⟩:=hk;rw[cE] at h;split at h
  ·rename_i he;obtain ⟨q1,q2⟩:=Eb _ _ _ _ _ _ h ho k3 ⟨k1,k2⟩ hp;exact ⟨q1,q2.step λh=>by show KT E _ (.loop p c::ks) e _ _ _;unfold KT;rw[aG he];exact h⟩
  ·rename_i he;obtain ⟨q1,q2⟩:=Eb _ _ _ _ _ _ h ho k3 trivial hp;exact ⟨q1,q2.step λh=>by show KT E _ (.loop p c::ks) e _ _ _;unfold KT;rw[aC he];exact h⟩
def X3 (X:Fx E) (st:Stop) (Q:Ex->WS->Prop):∀n,arS X Q (runK X st n)
 |0=>λm ks s sc o r h=>by
  have h:G=V r:=h;cases h
 |n+1=>λm ks s sc o r h ho hk hm hp=>by
  have ih:=X3 X st Q n;have h:X2 X st (runK X st n) m ks s sc o=V r:=h;cases m with
  |out e=>exact awb ih h ho hk hp
  |yS c p kj=>
   obtain ⟨m1,m2⟩:=hm;unfold X2 at h;dsimp only at h;rw[cE] at h;split at h
   ·split at h
    ·rename_i l hl;have h:aT (yG X tW) G (az (MK (Ei (yG X) sc s o).1.bs l.bs) λbs=>V (Stop.at p ⟨cvT l.ts (Ei (yG X) sc s o).1.ts,bs⟩,(Ei (yG X) sc s o).2.1))=V r:=h
     rw[cE] at h;split at h
     ·cases h
     rename_i hr;obtain ⟨bs,h1,h⟩:=aq h;cases h;obtain ⟨k1,k2,_⟩:=Mu sc s o ho;subst m1;subst m2;exact ⟨k1,Holds.Qy hp (k2.trans (kn.cv h1)) λh=>absurd h hr⟩
    ·exact ZE ih h ho hk m1 m2 hp
   ·exact ZE ih h ho hk m1 m2 hp
abbrev Shw:=Z (Stop×List Prop)
def Jh (r:Ce):Shw:= @Option.rec (Stop×List cH) (λ_=>Shw) G (λq=>V (q.1,q.2.map cH.need)) r
def Ji (st:Stop) (r:Ce):Shw:= @Option.rec (Stop×List cH) (λ_=>Shw) (V (st,[])) (λq=>V (st,q.2.map cH.got)) r
def anq:∀{l:List cH},l.map cH.need=l.map cH.got->jl l
 | [],_=>trivial
 |q::l,h=>by
  rw[jX,jX,List.cons.injEq] at h;exact ⟨h.1 ▸ q.pf,anq h.2⟩
def auZ {st:Stop} {r:Ce} (h:Jh r=Ji st r):∃o,r=V (st,o)/\jl o:=by
 cases r with
 |none=>cases h
 |some q=>
  have h:V (q.1,q.2.map cH.need)=V (st,q.2.map cH.got):=h;rw[V8,Prod.mk.injEq] at h;exact ⟨q.2,by rw[<-h.1],anq h.2⟩
def aeO {X:Fx E} {p p':bJ} {s s':LS} {sc:Sc E} {y:AV} {gI:cT} (h:Jh (sd X (.at p' s') p s sc)=Ji (.at p' s') (sd X (.at p' s') p s sc)) (k:At X p' s' y gI):At X p s y gI:=by
 obtain ⟨o,h1,h2⟩:=auZ h;exact (X3 X _ _ _ _ _ _ _ _ _ h1 h2 (L3 X p) ⟨rfl,rfl⟩ k).2
def alR {X:Fx E} {p:bJ} {s:LS} {sc:Sc E} {y:AV} {gI:cT} (h:Jh (sd X (.ret y gI) p s sc)=Ji (.ret y gI) (sd X (.ret y gI) p s sc)):At X p s y gI:=by
 obtain ⟨o,h1,h2⟩:=auZ h;exact (X3 X _ _ _ _ _ _ _ _ _ h1 h2 (L3 X p) ⟨rfl,rfl⟩ λe w h=>h).2
end
section
section
variable {F F':Hf} {g g':Gb} {s s' s1:LS} {E:Env} {nt:Nat}
def FQ:Nat->bb->fk
 |_,[]=> []
 |i,x::l=>(i,x)::FQ (i+1) l
def ahg:∀{xs:bb} {aa:bc},dH F g aa xs->∀{i t:Nat} {x:AV},lk t (FQ i xs)=V x->∃v,i<=t/\t<i+aa.length/\aa[t-i]? =V v/\VA F g v x
 | [],_,_,i,t,x,h=>by cases h
 |y::l,_,.cons (vs:=vs) hv q,i,j,x,h=>by
  rw[show FQ i (y::l)=(i,y)::FQ (i+1) l from rfl,dy] at h;split at h
  ·rename_i e;cases h;subst e;exact ⟨_,de _,by simp,by simp,hv⟩
  ·obtain ⟨v,a1,a2,a3,a4⟩:=ahg q h;refine ⟨v,by omega,by rw[iu];omega,?_,a4⟩
   rw[show j-i=(j-(i+1))+1 by omega,tR]
   exact a3
def axJ {e:Ex} (h:S1 e=M):aFu e=V G:=by cases e<;>first|rfl|cases h
def J7 [Kv E] {X:Fx E} {f:Nat} {s:LS} {y:AV} {gI:cT} (h1:E.fn.get f=V X.fn) (h2:X.fn.body=V X.code) (h3:L7 X.fn.name=I) (hn:kQ xs.length X.fn.ntmps=M) (hp:wX s.bs=X.LI) (hs:(⟨FQ 0 xs,s.bs⟩:LS)=s) (h:At X [] s y gI):kL X.ro E f s.bs xs y gI:=.mk λ{F g Y c H nx aa} r nn has=>by
 have r0:Rel F g Y c s (setArgs aa 0 .nil).get H:={r with tm:=λt x hx cQ=>(by
  rw[<-hs] at hx;obtain ⟨v,a1,a2,a3,a4⟩:=ahg has hx;exact ⟨v,by rw[Gl,aG ⟨a1,a2⟩];exact a3,a4⟩)}
 obtain ⟨e,w',k1,k2,k3,⟨vs,k4,k5⟩,k6,k7⟩:=h ⟨F,g,Y,c,⟨(setArgs aa 0 .nil).get,H,nx⟩⟩ ⟨r0,nn⟩;obtain ⟨e1,m1,k8,rfl,rfl⟩:=k1;rw[hp];refine ⟨w'.F,w'.g,w'.Y,w'.c,oneOf vs,w'.m.H,w'.m.nx,?_,k2.nx,k7,k2.F,λk hk=>k2.g k ?_,k5,k6,k2.old,λhr=>k2.ro (by show aT (ku tW tW) X.ro (pnL X.LI tW)=M;rw[show ku tW tW=M from (beq_iff _ _).2 rfl];exact hr)⟩
 rotate_left
 ·show aT (ku k tW) X.ro (pnL X.LI k)=M;rw[cE];split
  ·rename_i e;rw[(beq_iff _ _).1 e] at hk;have:nO tW=I/\evK tW=I:=⟨rfl,rfl⟩;unfold pnL at hk;rw[this.1,this.2] at hk;cases hk
  ·exact hk
 exact gj.sem (fi:= []) (aa:=aa) (ca:= []) h1 h2 h3 (by rw[jy,r4,has.length];exact (bR _ _).1 hn) (axJ k3) (by rw[jy,r4];exact k8) k4
end
def iy.aFx {E:Env} {f:Nat} {gI:cT} {xs':bb} {y:AV} (h:kL ro E f bs xs y gI) (e:xs=xs'):kL ro E f bs xs' y gI:=e ▸ h
def aqZ {E:Env} {ro':Bool} (e:ro=ro') {f:Nat} {gI:cT} {y:AV} (h:kL ro E f bs xs y gI):kL ro' E f bs xs y gI:=e ▸ h
variable {E:Env} {X:Fx E} {p p':bJ} {s s':LS} {y:AV} {gI:cT} {J f8 R:Type}
def ra (k:At X p' s' y gI) (sc:Sc E) (h:Jh (sd X (.at p' s') p s sc)=Ji (.at p' s') (sd X (.at p' s') p s sc):=by kernel_rfl):At X p s y gI:=aeO h k
def rr {f:J->AV} {g:J->cT} {v r:J} (h:V v=V r) (sc:Sc E) (e:Jh (sd X (.ret (f v) (g v)) p s sc)=Ji (.ret (f v) (g v)) (sd X (.ret (f v) (g v)) p s sc):=by kernel_rfl):At X p s (f r) (g r):=by
 cases h;exact alR e
def cB (k:At X p' s' y gI) (a b:Sc E) (h:Jh (sd X (.at p' s') p s (a++b))=Ji (.at p' s') (sd X (.at p' s') p s (a++b)):=by kernel_rfl):At X p s y gI:=aeO h k
def bq {f:J->AV} {g:J->cT} {v r:J} (h:V v=V r) (a b:Sc E) (e:Jh (sd X (.ret (f v) (g v)) p s (a++b))=Ji (.ret (f v) (g v)) (sd X (.ret (f v) (g v)) p s (a++b)):=by kernel_rfl):At X p s (f r) (g r):=rr h (a++b) e
def be {x:Z f8} {f:f8->Z J} {r:J} (h:x.bind f=V r) (k:∀y,x=V y->f y=V r->f9):f9:=by
 cases x with
 |none=>simp at h
 |some y=>exact k y rfl h
def ie {b:Bool} {x y:Z J} {r:J} (h:(if b=M then x else y)=V r) (k1:b=M->x=V r->f9) (k2:b=I->y=V r->f9):f9:=by
 cases b with
 |true=>exact k1 rfl (by simpa using h)
 |false=>exact k2 rfl (by simpa using h)
def nz {r:J} (h:G=V r):f9:=by cases h
def fx (E:Env) (fn:Func) (LI:bJ):Fx E:=⟨fn,fn.body.getD .skip,LI,I⟩
def fxR (E:Env) (fn:Func) (LI:bJ):Fx E:=⟨fn,fn.body.getD .skip,LI,M⟩
def Cx (E:Env) (k:Nat) (f:R->AV) (g:R->cT) (s:LS) (r:R):Prop:=iy E k s.bs (s.ts.map (·.2)) (f r) (g r)
def ca [Kv E] {k:Nat} {r:R} {f:R->AV} {g:R->cT} (h:At X [] s (f r) (g r)) (h1:E.fn.get k=V X.fn:=by kernel_rfl) (h2:X.fn.body=V X.code:=by kernel_rfl) (h3:L7 X.fn.name=I:=by kernel_rfl)
  (h9:kQ (s.ts.map (·.2)).length X.fn.ntmps=M:=by kernel_rfl) (h10:wX s.bs=X.LI:=by kernel_rfl) (h11:(⟨FQ 0 (s.ts.map (·.2)),s.bs⟩:LS)=s:=by kernel_rfl) (h0:X.ro=I:=by kernel_rfl):Cx E k f g s r:=
 aqZ h0 (J7 h1 h2 h3 h9 h10 h11 h)
def wj (sk:bJ) (bs:cT):cT:=sk.map λk=>(k,(lk k bs).getD (.map []))
def CxSR (E:Env) (k:Nat) (sk:bJ) (f:R->AV) (g:R->cT) (s:LS) (r:R):Prop:=kL M E k s.bs (s.ts.map (·.2)) (f r) (g r++wj sk s.bs)
def caSR [Kv E] {k:Nat} {r:R} {f:R->AV} {g:R->cT} (h:At X [] s (f r) (g r++wj sk s.bs)) (h1:E.fn.get k=V X.fn:=by kernel_rfl) (h2:X.fn.body=V X.code:=by kernel_rfl) (h3:L7 X.fn.name=I:=by kernel_rfl) (h9:kQ (s.ts.map (·.2)).length X.fn.ntmps=M:=by kernel_rfl) (h10:wX s.bs=X.LI:=by kernel_rfl) (h11:(⟨FQ 0 (s.ts.map (·.2)),s.bs⟩:LS)=s:=by kernel_rfl) (h0:X.ro=M:=by kernel_rfl):CxSR E k sk f g s r:=
 aqZ h0 (J7 h1 h2 h3 h9 h10 h11 h)
def atQ {J:Type} (s:List J):Z (J×List J):=match s with| []=>G|x::l=>V (x,l)
def atP {J:Type} {s:List J} {y:J×List J} (h:atQ s=V y):s=y.1::y.2:=by
 cases s with
 |nil=>cases h
 |cons x l=>cases h;rfl
def aQJ (k:Nat):AV:=match k with|0=>.uJ|n+1=>.fn (n+1) [] []
def Ax (X:Fx E) (f:R->AV) (g:R->cT) (p:bJ) (s:LS) (r:R):Prop:=At X p s (f r) (g r)
class dv (κ:Type) where z:κ
instance {R:Type}:dv (Z R):=⟨G⟩
instance {T κ:Type} [dv κ]:dv (T->κ):=⟨λ_=>dv.z⟩
class KC (σ κ R:Type) [dv κ] where
 K:(LS->R->Prop)->σ->κ->Prop
 h:∀{A s},K A s dv.z
instance {R:Type}:KC LS (Z R) R:=⟨λA s k=>∀ ⦃r⦄,k=V r->A s r,λh=>nz h⟩
instance {T σ κ R:Type} [dv κ] [KC σ κ R]:KC (T->σ) (T->κ) R:=⟨λA s k=>∀ ⦃a⦄,KC.K A (s a) (k a),KC.h⟩
abbrev KK {σ κ R:Type} [dv κ] [KC σ κ R]:(LS->R->Prop)->σ->κ->Prop:=KC.K
def KU {f:J->AV} {g:J->cT} {v r:J} (h:V v=V r) (sc:Sc E) (e:Jh (sd X (.ret (f v) (g v++wj sk s.bs)) p s sc)=Ji (.ret (f v) (g v++wj sk s.bs)) (sd X (.ret (f v) (g v++wj sk s.bs)) p s sc):=by kernel_rfl):At X p s (f r) (g r++wj sk s.bs):=by
 cases h;exact alR e
def AxS (X:Fx E) (sk:bJ) (f:R->AV) (g:R->cT) (p:bJ) (s:LS) (r:R):Prop:=At X p s (f r) (g r++wj sk s.bs)
def CxS (E:Env) (k:Nat) (sk:bJ) (f:R->AV) (g:R->cT) (s:LS) (r:R):Prop:=iy E k s.bs (s.ts.map (·.2)) (f r) (g r++wj sk s.bs)
def caS [Kv E] {k:Nat} {r:R} {f:R->AV} {g:R->cT} (h:At X [] s (f r) (g r++wj sk s.bs)) (h1:E.fn.get k=V X.fn:=by kernel_rfl) (h2:X.fn.body=V X.code:=by kernel_rfl) (h3:L7 X.fn.name=I:=by kernel_rfl) (h9:kQ (s.ts.map (·.2)).length X.fn.ntmps=M:=by kernel_rfl) (h10:wX s.bs=X.LI:=by kernel_rfl) (h11:(⟨FQ 0 (s.ts.map (·.2)),s.bs⟩:LS)=s:=by kernel_rfl) (h0:X.ro=I:=by kernel_rfl):CxS E k sk f g s r:=
 aqZ h0 (J7 h1 h2 h3 h9 h10 h11 h)
def Hv {g:cT} (k:At X p' s' y (g++wj sk s'.bs)) (hs:wj sk s'.bs=wj sk s.bs) (sc:Sc E) (h:Jh (sd X (.at p' s') p s sc)=Ji (.at p' s') (sd X (.at p' s') p s sc):=by kernel_rfl):At X p s y (g++wj sk s.bs):=aeO h (hs ▸ k)
end
section
def idx {J:Type} (xs:List J) (i:Int):Z J:=if 0<=i then xs[i.toNat]? else G
def app {J:Type} (xs ys:List J):Z (List J):=if xs.length<=1000000/\ys.length<=1000000 then V (xs++ys) else G
def Kc {J:Type} (xs:List J) (n:Nat) (ys:List J):Z (List J):=if n<=xs.length/\n<=1000000/\ys.length<=1000000 then V (xs.take n++ys) else G
def cut {J:Type} (xs:List J) (lo hi:Z Int):Z (List J):=
 if 0<=lo.getD 0/\0<=hi.getD 0/\(lo.getD 0).toNat<=(hi.map Int.toNat).getD xs.length/\(hi.map Int.toNat).getD xs.length<=xs.length then
  V ((xs.take ((hi.map Int.toNat).getD xs.length)).drop (lo.getD 0).toNat) else G
def cat (a b:U):Z U:=if a.size+b.size<=1000000 then V (a++b) else G
def Gy (s:U) (i:Int):Z UInt8:=if 0<=i then s.data.toList[i.toNat]? else G
def rem (a b:Int):Z Int:=if b=0 then G else V (a.tmod b)
def dX (n:Nat) (i:Int):cD:=if 0<=i/\i.toNat<n then V i.toNat else G
def setAt {J:Type} (xs:List J) (i:Nat) (x:J):Z (List J):=if i<xs.length then V (xs.set i x) else G
def tu {J:Type} (n:Int) (x:J):Z (List J):=if 0<=n/\n<=1000000 then V (V' n.toNat x) else G
abbrev aW (x:Int):Int:=IntKind.i64.wrap x
structure RowsK {J:Type} (enc:J->bb) (rows:List J->bz):Prop where
 map:∀xs,rows xs=xs.map enc
section
variable {J:Type} {enc:J->bb} {rows:List J->bz} {E:Env}
def RowsK.len (R:RowsK enc rows) (xs:List J):(rows xs).length=xs.length:=by rw[R.map,mL]
def RowsK.get (R:RowsK enc rows) {xs:List J} {x:J} (h:xs[j]? =V x):(rows xs)[j]? =V (enc x):=by rw[R.map,nQ,h];rfl
def RowsK.idx' (R:RowsK enc rows) {xs:List J} {n:Int} {x:J} (h:idx xs n=V x):Bz (rows xs) n=V (enc x):=by
 unfold Go.bM.idx at h;unfold Bz;split at h
 ·rename_i h0;rw[aG h0];exact R.get h
 ·cases h
def RowsK.idx (R:RowsK enc rows) {xs:List J} {n:Int} {x:J} (h:idx xs n=V x):It E:=.op (R.idx' h) (.row (enc x) [])
def RowsK.row (R:RowsK enc rows) {xs:List J} {j:Nat} {x:J} (h:xs[j]? =V x):It E:=.op (R.get h) (.row (enc x) [])
def aBR {i:Int} {k:Nat} (h:dX n i=V k):i=(k:Int)/\k<n:=by
 unfold dX at h;split at h
 ·rename_i h0;cases h;exact ⟨by omega,h0.2⟩
 ·cases h
def cX {n:Nat} {i:Int} {k:Nat} (h:dX n i=V k):It E:=.op (aBR h) (.nat k)
def Cz {xs zs:List J} {y:J} (h:setAt xs i y=V zs):zs=xs.set i y/\i<xs.length:=by
 unfold setAt at h;split at h
 ·cases h;exact ⟨rfl,by assumption⟩
 ·cases h
def l8 {xs zs:List J} {y:J} (h:setAt xs i y=V zs):zs.length=xs.length:=by rw[(Cz h).1,ld]
def As {xs ys zs:List J} (h:app xs ys=V zs):xs.length<=1000000/\ys.length<=1000000/\zs=xs++ys:=by
 unfold app at h;split at h
 ·rename_i h0;cases h;exact ⟨h0.1,h0.2,rfl⟩
 ·cases h
def RowsK.appP (R:RowsK enc rows) {xs ys zs:List J} (h:Go.bM.app xs ys=V zs):Zc M (rows xs) xs.length (rows zs) zs.length (rows ys):=
 ⟨λ_=>(R.len xs).symm,by rw[R.len];exact de _,(As h).1,by rw[R.len];exact (As h).2.1,by rw[<-R.len xs,uo,(As h).2.2,R.map,R.map,R.map,ka],R.len zs⟩
def RowsK.app (R:RowsK enc rows) {xs ys zs:List J} (h:Go.bM.app xs ys=V zs):It E:=.op (R.appP h) (.app M (rows ys) (rows zs) zs.length)
def RowsK.jS (R:RowsK enc rows) {xs ys zs:List J} (h:Go.bM.app xs ys=V zs):It E:=
 .op (P:=Zc M (rows xs) xs.length (rows zs) zs.length (rows ys)/\((rows ys).drop 0).take ys.length=rows ys/\0+ys.length<=(rows ys).length) ⟨R.appP h,by rw[ph,<-R.len,uo],by rw[R.len];omega⟩ (.app M (rows ys) (rows zs) zs.length)
def RowsK.er (R:RowsK enc rows) (K:Nat) (xs:List J):It E:=.gh ⟨R.len xs,.er K 0 xs.length⟩
end
abbrev eb {E:Env} {a b:Bool} (h:a=b):It E:=.op (bF AV.bool h) (.eqv (.bool b))
def cb {E:Env} {f:Nat} {gI:cT} {a b:Bool} (h:iy E f bs xs (.bool a) gI) (e:a=b):iy E f bs xs (.bool b) gI:=e ▸ h
def J6 {a b c:U} (h:cat a b=V c):a.size+b.size<=1000000/\a++b=c:=by
 unfold cat at h;split at h
 ·rename_i h0;cases h;exact ⟨h0,rfl⟩
 ·cases h
def aeY {a b c:Int} (h:rem a b=V c):b≠0/\a.tmod b=c:=by
 unfold rem at h;split at h
 ·cases h
 ·rename_i h0;cases h;exact ⟨h0,rfl⟩
section
variable {E:Env}
def It.nz {y:Int} (h:y≠0):It E:=.op h (.val 0)
def It.cat {x y:U} (h:x.size+y.size<=1000000):It E:=.op h (.val 0)
def aAA {s:U} {i:Int} {c:UInt8} (h:Gy s i=V c):(Bz s.data.toList i).map UInt8.toNat=V c.toNat:=by
 have h:Bz s.data.toList i=V c:=h;rw[h];rfl
def It.chr {s:U} {i:Int} {c:UInt8} (h:Gy s i=V c):It E:=.op (aAA h) (.val c.toNat)
def It.eqv {x y:AV} (h:x=y):It E:=.op h (.eqv y)
def It.laid {b b':Bx} (h:b=b'):It E:=.op (bF V h) (.laid b')
def It.iR (K K':Nat):It E:=.gh ⟨trivial,.iR K K'⟩
def It.born (ts:bJ) (cs:List (Nat×Nat)) (K:Nat) (z:Bool) (e sz:Nat):It E:=.gh ⟨trivial,.born ts cs K z e sz⟩
def It.seq (t:Nat) {x y:AV} (h:x=y):It E:=.gh ⟨h,.gm t y⟩
def It.beq (K:Nat) {x y:Bx} (h:x=y):It E:=.gh ⟨h,.bis K y⟩
def It.tU (t:Nat) (w:AV):It E:=.gh ⟨trivial,.tU t w⟩
def It.oV (K:Nat) (w:Bx):It E:=.gh ⟨trivial,.oV K w⟩
def int_eq {k:IntKind} {a b:Int} (h:(a==b)=M):AV.int k a=AV.int k b:=by rw[eq_of_beq h]
def en {k:IntKind} {a b:Int} (h:(a==b)=M):It E:=It.eqv (int_eq (k:=k) h)
end
end
section
def nilAt {J:Type} (xs:List (List J)) (j:Nat):Z Unit:=match xs[j]? with|some []=>V ()|_=>G
def gU (a b:Nat):Z Unit:=if a=b then V () else G
def oY {a b:Nat} {u:Unit} (h:gU a b=V u):a=b:=by
 unfold gU at h;split at h
 ·assumption
 ·cases h
def rR (n:Nat) (hi:Int):cD:=if 0<=hi/\hi.toNat<=n then V hi.toNat else G
def Er (n:Nat) (lo:Int):cD:=if 0<=lo/\lo.toNat<=n then V lo.toNat else G
def ti (h:rR n hi=V u):hi=(u:Int)/\u<=n:=by
 unfold rR at h;split at h
 ·rename_i h0;cases h;exact ⟨by omega,h0.2⟩
 ·cases h
def ML (h:Er n lo=V u):lo=(u:Int)/\u<=n:=by
 unfold Er at h;split at h
 ·rename_i h0;cases h;exact ⟨by omega,h0.2⟩
 ·cases h
def aIc {m:Nat} (h:Er n lo=V u) (le:n<=m):0+u+(n-u)<=m:=by
 have:=(ML h).2;omega
def xW {J:Type} {xs:List J} (h:u<=xs.length):(xs.take u).length=u:=by rw[dz];omega
def aBJ {J:Type} {xs zs:List J} {lo hi:Z Int} (h:cut xs lo hi=V zs):∃l u:Nat,aiH (lo.getD 0) (hi.getD (xs.length:Nat)) xs.length l u/\zs=(xs.drop l).take (u-l):=by
 unfold cut at h;split at h
 ·rename_i h0;cases h;obtain ⟨a,b,c,d⟩:=h0;refine ⟨(lo.getD 0).toNat,(hi.map Int.toNat).getD xs.length,⟨by omega,?_,c,d⟩,by rw[vZ]⟩
  cases hi with
  |none=>rfl
  |some v=>have:0<=v:=b;show v=((v.toNat:Nat):Int);omega
 ·cases h
def FT {J:Type} {xs ys zs:List J} (h:Kc xs n ys=V zs):n<=xs.length/\n<=1000000/\ys.length<=1000000/\zs=xs.take n++ys:=by
 unfold Kc at h;split at h
 ·rename_i h0;cases h;exact ⟨h0.1,h0.2.1,h0.2.2,rfl⟩
 ·cases h
def vr {J:Type} {n:Int} {x:J} {zs:List J} (h:tu n x=V zs):n=(n.toNat:Int)/\n.toNat<=1000000/\zs=V' n.toNat x:=by
 unfold tu at h;split at h
 ·rename_i h0;cases h;exact ⟨by omega,by omega,rfl⟩
 ·cases h
def QB {J:Type} {n:Int} {x:J} {zs:List J} (h:tu n x=V zs):n.toNat=zs.length:=by rw[(vr h).2.2,vY]
section
variable {J:Type} {enc:J->bb} {rows:List J->bz} {E:Env}
def RowsK.take (R:RowsK enc rows) (xs:List J) (u:Nat):(rows xs).take u=rows (xs.take u):=by rw[R.map,R.map,vm]
def RowsK.isE (R:RowsK enc rows) (xs:List J):(rows xs).isEmpty=xs.isEmpty:=by rw[R.map];cases xs<;>rfl
def RowsK.nilB (R:RowsK enc rows) (xs:List J):AV.bool (rows xs).isEmpty= .bool xs.isEmpty:=by rw[R.isE]
def Dy {f:Nat} (h:j<Q.length):Gk (Q.set j r) j f xs=V (Q.set j (gQ r f xs)):=by
 unfold Gk;rw[nf h];show V _=_;rw[vX]
def RowsK.azG (R:RowsK enc rows) {xs:List J} {x:J} {f:Nat} (h:xs[j]? =V x):Gk (rows xs) j f vs=V ((rows xs).set j (gQ (enc x) f vs)):=by unfold Gk;rw[R.get h];rfl
def RowsK.azO (R:RowsK enc rows) {xs zs:List J} {y:J} (h:setAt xs j y=V zs) (he:r=enc y):(rows xs).set j r=rows zs:=by rw[(Cz h).1,he,R.map,R.map,Dr]
def RowsK.lt (R:RowsK enc rows) {xs:List J} {x:J} (h:xs[j]? =V x):j<(rows xs).length:=by rw[R.len];exact (bO.1 h).1
def RowsK.ltS (R:RowsK enc rows) {xs zs:List J} {y:J} (h:setAt xs j y=V zs):j<(rows xs).length:=by rw[R.len];exact (Cz h).2
def ada {Q Q':bz} {j f:Nat} {vs:bb} (h:Gk Q j f vs=V Q'):It E:=.op h (.uR Q')
def RowsK.uR (R:RowsK enc rows) {xs zs:List J} {j:Nat} {x y:J} (f:Nat) (vs:bb) (h0:xs[j]? =V x) (h1:setAt xs j y=V zs) (he:gQ (enc x) f vs=enc y:=by kernel_rfl):It E:=ada (Q:=rows xs) (Q':=rows zs) (j:=j) (f:=f) (vs:=vs) (by rw[R.azG h0,R.azO h1 he])
def RowsK.hol (R:RowsK enc rows) {xs:List J} {j:Nat} {x:J} (f:Nat) (h0:xs[j]? =V x):It E:=ada (R.azG (f:=f) (vs:= [.undef]) h0)
def RowsK.holF (R:RowsK enc rows) {xs:List J} {j:Nat} {x:J} (f:Nat) (r':bb) (h:xs[j]? =V x) (hr:gQ (enc x) f [.undef]=r':=by kernel_rfl):It E:=ada (Q:=rows xs) (Q':=(rows xs).set j r') (j:=j) (f:=f) (vs:= [.undef]) (by rw[R.azG h,hr])
def RowsK.Aj (R:RowsK enc rows) {xs:List J} {j:Nat} {x:J} (f:Nat) (r r':bb) (h:xs[j]? =V x) (hr:gQ r f [.undef]=r':=by kernel_rfl):It E:=ada (Q:=(rows xs).set j r) (Q':=(rows xs).set j r') (j:=j) (f:=f) (vs:= [.undef]) (by rw[Dy (R.lt h),hr])
def RowsK.hrwS (R:RowsK enc rows) {xs:List J} {j:Nat} {x:J} (r r':bb) (h:xs[j]? =V x) (hr:gQ r 0 r'=r':=by kernel_rfl):It E:=ada (Q:=(rows xs).set j r) (Q':=(rows xs).set j r') (j:=j) (f:=0) (vs:=r') (by rw[Dy (R.lt h),hr])
def RowsK.atS (R:RowsK enc rows) {xs:List J} {x:J} (h:xs[j]? =V x):((rows xs).set j r)[j]? =V r:=nf (R.lt h)
def RowsK.rowS (R:RowsK enc rows) {xs:List J} {j:Nat} {x:J} (r:bb) (h:xs[j]? =V x):It E:=.op (R.atS (r:=r) h) (.row r [])
def RowsK.BS (R:RowsK enc rows) {xs:List J} {j:Nat} {x:J} (fs:bJ) (r:bb) (h:xs[j]? =V x):It E:=.op (R.atS (r:=r) h) (.row r fs)
def RowsK.cut (R:RowsK enc rows) {xs zs:List J} {lo hi:Z Int} (h:Go.bM.cut xs lo hi=V zs):It E:=.op (P:=CutR (rows xs) (lo.getD 0) (hi.getD (xs.length:Nat)) (rows zs) zs.length) (by
 obtain ⟨l,u,h1,rfl⟩:=aBJ h;exact ⟨l,u,by rw[R.len];exact h1,by rw[R.map,R.map,vm,A9],R.len _⟩) (.cut 0 0 (rows zs) zs.length)
def RowsK.rR (R:RowsK enc rows) {xs:List J} {n u:Nat} {hi:Int} (h:Go.bM.rR n hi=V u) (le:n<=xs.length):It E:=.op (P:=aiH 0 hi n 0 u/\0+n<=(rows xs).length) ⟨⟨rfl,(ti h).1,uq _,(ti h).2⟩,by rw[R.len];omega⟩ (.cut 0 u [] 0)
def RowsK.Er (R:RowsK enc rows) {xs:List J} {n u:Nat} {lo:Int} (h:Go.bM.Er n lo=V u) (le:n<=xs.length):It E:=.op (P:=aiH lo (n:Int) n u n/\0+n<=(rows xs).length) ⟨⟨(ML h).1,rfl,(ML h).2,de _⟩,by rw[R.len];omega⟩ (.cut u n [] 0)
def RowsK.appQ (R:RowsK enc rows) {xs ys zs:List J} (h:Go.bM.Kc xs n ys=V zs):Zc I (rows xs) n (rows zs) zs.length (rows ys):=
 ⟨λh=>(by cases h),by rw[R.len];exact (FT h).1,(FT h).2.1,by rw[R.len];exact (FT h).2.2.1,by rw[(FT h).2.2.2,R.map,R.map,R.map,ka,vm],R.len zs⟩
def FE {J:Type} (xs ys:List J):Z (List J):=if xs= [] then G else V (ys.take (min ys.length xs.length)++xs.drop (min ys.length xs.length))
def Es {xs ys zs:List J} (h:Go.bM.FE xs ys=V zs):xs≠ []/\zs=ys.take (min ys.length xs.length)++xs.drop (min ys.length xs.length):=by
 unfold Go.bM.FE at h;split at h
 ·cases h
 ·rename_i h0;cases h;exact ⟨h0,rfl⟩
def RowsK.FE (R:RowsK enc rows) {xs ys zs:List J} (h:Go.bM.FE xs ys=V zs):It E:=.op (P:=aCy (rows xs) (rows zs) 0 xs.length (min ys.length xs.length) (rows ys))
 ⟨by rw[R.len];omega,by have:=G6.2 (Es h).1;omega,by rw[R.len],by rw[(Es h).2,R.map,R.map,R.map,ka,vm,A9,yx,jy,cg]⟩ (.FE (rows ys) (rows zs) (min ys.length xs.length))
def RowsK.cpyW (R:RowsK enc rows) {xs ys zs:List J} (h:Go.bM.FE xs ys=V zs):It E:=.op (P:=aCy (rows xs) (rows zs) 0 xs.length (min ys.length xs.length) (rows ys)/\((rows ys).drop 0).take ys.length=rows ys/\0+ys.length<=(rows ys).length)
 ⟨⟨by rw[R.len];omega,by have:=G6.2 (Es h).1;omega,by rw[R.len],by rw[(Es h).2,R.map,R.map,R.map,ka,vm,A9,yx,jy,cg]⟩,by rw[ph,<-R.len,uo],by rw[R.len];omega⟩ (.FE (rows ys) (rows zs) (min ys.length xs.length))
def aIe {xs ys zs:List J} (h:Go.bM.FE xs ys=V zs):zs.length=xs.length:=by
 rw[(Es h).2,gy,dz,jx];omega
def RowsK.appB (R:RowsK enc rows) {xs ys zs:List J} {lo m n:Nat} (h:Go.bM.Kc xs n ((ys.drop lo).take m)=V zs) (hm:lo+m<=ys.length):It E:=
 .op (P:=Zc I (rows xs) n (rows zs) zs.length (rows ((ys.drop lo).take m))/\((rows ys).drop lo).take m=rows ((ys.drop lo).take m)/\lo+m<=(rows ys).length) ⟨R.appQ h,by rw[R.map,R.map,vm,A9],by rw[R.len];exact hm⟩ (.app I (rows ((ys.drop lo).take m)) (rows zs) zs.length)
def RowsK.made (R:RowsK enc rows) {n:Int} {x:J} {zs:List J} (h:tu n x=V zs) (sh:ee:= []):It E:=
 .op (P:=MkP n n (enc x) (rows zs) n.toNat) ⟨n.toNat,(vr h).1,(vr h).1,de _,(vr h).2.1,by rw[(vr h).2.2,R.map,List.map_replicate]⟩ (.mk (enc x) (rows zs) n.toNat sh)
def RowsK.aPu (R:RowsK enc rows) {n:Int} {x:J} {zs:List J} (h:tu n x=V zs) (sh:ee:= []):It E:=
 .op (P:=MkP 0 n (enc x) (rows []) 0) ⟨n.toNat,rfl,(vr h).1,uq _,(vr h).2.1,by rw[R.map];rfl⟩ (.mk (enc x) (rows []) 0 sh)
def It.shr (K:Nat) {Q P:bz} {u:Nat} (h:Q.take u=P):It E:=.gh ⟨h,.shr K u P⟩
def RowsK.Lr (R:RowsK enc rows) {xs ys zs:List J} (h:Go.bM.app xs ys=V zs):It E:=.op (P:=TapP (rows xs) xs.length) ⟨(R.len xs).symm,(As h).1⟩ .Lr
def RowsK.apS (R:RowsK enc rows) {xs zs:List J} {y:J} (h:Go.bM.app xs [y]=V zs):rows xs++ [r]=(rows zs).set xs.length r:=by
 rw[(As h).2.2,R.map,R.map,ka,vW _ _ (by rw[mL];exact de _),mL,qX]
 rfl
def RowsK.apL (R:RowsK enc rows) {xs zs:List J} {y:J} (h:Go.bM.app xs [y]=V zs):xs.length+1=zs.length:=by
 rw[(As h).2.2,gy];rfl
def RowsK.tfr (R:RowsK enc rows) (b:Bool) (K:Nat) (xs:List J):It E:=.gh ⟨R.len xs,.er K (aT b 2 0) xs.length⟩
def RowsK.frzN (R:RowsK enc rows) {n:Nat} (b:Bool) (K:Nat) (xs:List J) (h:n=xs.length):It E:=.gh ⟨(R.len xs).trans h.symm,.er K (aT b 2 0) n⟩
def RowsK.noDR (R:RowsK enc rows) (h:∀x,vx (enc x)=M) (xs:List J):aCf (rows xs):=λr hr=>by
 rw[R.map] at hr;obtain ⟨x,_,rfl⟩:=dM.1 hr;exact h x
def It.gi (x:It E):GI:=match x with| .gh g=>g|_=>⟨trivial,.iR 0 0⟩
def It.bsF (d s n:Nat) (fz:List (It E)):It E:=.opF (P:=AV.ms d s 0 n= .ms d s 0 n) rfl (.eqv (.ms d s 0 n)) (fz.map It.gi)
def It.AS {f:Nat} {bs gI:cT} {ys:bb} {y:AV} {P:Prop} (h:iy E f bs ys y gI) (gs:List (It E)) (hd:P) (ps rs:ir) (fz:List (It E):= []):It E:=.aFy h (gs.map It.gi) hd ps rs (fz.map It.gi)
def apq (K K2:Nat) {j f e2 s2 n:Nat} {x:Bool} {Q Q2 Q':bz} (h:aCe Q j f x e2 s2 n Q2 Q'):It E:=.gh ⟨h,.opn K K2 j f e2 s2 n Q2 Q'⟩
def clsO (K K2:Nat) {j f n:Nat} {y:AV} {Q Q2 Q':bz} (h:Q2.length=n/\Y7 Q j f y Q'):It E:=.gh ⟨h,.cls K K2 j f n Q'⟩
def cldO (K:Nat) {j f:Nat} (y:AV) {Q Q':bz} (h:Y7 Q j f y Q'):It E:=.gh ⟨h,.cld K j f y Q'⟩
variable {f8:Type} {mN:List f8->bz} {Ra:f8->bb}
def RowsK.oJ (R:RowsK enc rows) (N:RowsK Ra mN) {xs:List J} {j:Nat} {x:J} (K K2 f:Nat) (b:Bool) (e' s:Nat) (y:List f8) (h:xs[j]? =V x) (r':bb) (hx:(enc x)[f]? =V (yE b e' s y.length (mN y)):=by kernel_rfl) (hr:gQ (enc x) f [.undef]=r':=by kernel_rfl):It E:=
 apq (Q:=rows xs) (Q2:=mN y) (Q':=(rows xs).set j r') K K2 ⟨enc x,R.get h,hx,by rw[hr]⟩
def RowsK.xi (R:RowsK enc rows) (N:RowsK Ra mN) {xs:List J} {j:Nat} {x:J} {r:bb} (K K2 f:Nat) (b:Bool) (e' s:Nat) (y:List f8) (h:xs[j]? =V x) (r':bb) (hx:r[f]? =V (yE b e' s y.length (mN y)):=by kernel_rfl) (hr:gQ r f [.undef]=r':=by kernel_rfl):It E:=
 apq (Q:=(rows xs).set j r) (Q2:=mN y) (Q':=(rows xs).set j r') K K2 ⟨r,R.atS h,hx,by rw[hr,vX]⟩
def RowsK.ke (R:RowsK enc rows) (N:RowsK Ra mN) {xs zs:List J} {j:Nat} {z:J} {r:bb} (K K2 f:Nat) (b:Bool) (e' s:Nat) (y:List f8) (h:setAt xs j z=V zs) (r':bb) (hr:gQ r f [yE b e' s y.length (mN y)]=r':=by kernel_rfl):It E:=
 clsO (Q:=(rows xs).set j r) (Q2:=mN y) (Q':=(rows xs).set j r') (y:=yE b e' s y.length (mN y)) K K2 ⟨N.len y,by show Gk _ _ _ _=_;rw[Dy (R.ltS h),hr]⟩
def RowsK.iH (R:RowsK enc rows) (N:RowsK Ra mN) {xs zs:List J} {j:Nat} {z:J} {r:bb} (K K2 f:Nat) (b:Bool) (e' s:Nat) (y:List f8) (h:setAt xs j z=V zs) (hr:gQ r f [yE b e' s y.length (mN y)]=enc z:=by kernel_rfl):It E:=
 clsO (Q:=(rows xs).set j r) (Q2:=mN y) (Q':=rows zs) (y:=yE b e' s y.length (mN y)) K K2 ⟨N.len y,by show Gk _ _ _ _=_;rw[Dy (R.ltS h),R.azO h hr]⟩
def RowsK.clo (R:RowsK enc rows) {xs zs:List J} {j:Nat} {x y:J} (K:Nat) (f:Nat) (q:AV) (u:AV) (h0:xs[j]? =V x) (h1:setAt xs j y=V zs) (he:gQ (gQ (enc x) f [u]) f [q]=enc y:=by kernel_rfl):It E:=
 cldO (Q:=(rows xs).set j (gQ (enc x) f [u])) (Q':=rows zs) K q (by show Gk _ _ _ _=_;rw[Dy (R.lt h0),R.azO h1 he])
end
def gone (l:ee) (g:Nat) (Q:bz):bz:=(Q.take g).map (Jf l)++Q.drop g
def aKc:Q=gone l 0 Q:=rfl
def agz {g:Nat} (h:Q[g]? =V r):(gone l g Q)[g]? =V r:=by
 have dq:=(bO.1 h).1;unfold gone;rw[nF (by rw[mL,dz];omega),mL,dz,fp,fo (by omega),qX,nH]
 exact h
def aBe {g:Nat} (h:Q[g]? =V r):(gone l g Q).set g (Jf l r)=gone l (g+1) Q:=by
 have dq:=(bO.1 h).1;have hr:Q[g]=r:=(bO.1 h).2;have hl:((Q.take g).map (Jf l)).length=g:=by rw[mL,dz];omega
 unfold gone;rw[vW _ _ (by omega),hl,qX,sr dq,pU,cZ dq,hr]
 simp
section
variable {J f8:Type} {enc:J->bb} {rows:List J->bz} {mN:List f8->bz} {Ra:f8->bb} {E:Env}
def agA {g:Nat} {r0:bb} {u:Unit} (hg:gU j g=V u) (h:Q[j]? =V r0):((gone l g Q).set j r)[j]? =V r:=by
 have:=oY hg;subst this;exact nf (bO.1 (agz h)).1
def RowsK.aIY (R:RowsK enc rows) (N:RowsK Ra mN) {xs:List J} {j g:Nat} {x:J} {u:Unit} (l:ee) (hg:gU j g=V u) (K K2 f:Nat) (b:Bool) (e' s:Nat) (y:List f8) (h:xs[j]? =V x) (r':bb) (hx:(enc x)[f]? =V (yE b e' s y.length (mN y)):=by kernel_rfl) (hr:gQ (enc x) f [.undef]=r':=by kernel_rfl):It E:=
 apq (Q:=gone l g (rows xs)) (Q2:=mN y) (Q':=(gone l g (rows xs)).set j r') K K2 ⟨enc x,by have:=oY hg;subst this;exact agz (R.get h),hx,by rw[hr]⟩
def RowsK.atU (R:RowsK enc rows) (N:RowsK Ra mN) {xs:List J} {j g:Nat} {x:J} {u:Unit} (l:ee) (hg:gU j g=V u) (r:bb) (K K2 f:Nat) (b:Bool) (e' s:Nat) (y:List f8) (h:xs[j]? =V x) (r':bb) (hx:r[f]? =V (yE b e' s y.length (mN y)):=by kernel_rfl) (hr:gQ r f [.undef]=r':=by kernel_rfl):It E:=
 apq (Q:=(gone l g (rows xs)).set j r) (Q2:=mN y) (Q':=(gone l g (rows xs)).set j r') K K2 ⟨r,agA hg (R.get h),hx,by rw[hr,vX]⟩
def RowsK.aOY (R:RowsK enc rows) {xs:List J} {j g:Nat} {x:J} {u:Unit} (l:ee) (hg:gU j g=V u) (fs:bJ) (r:bb) (h:xs[j]? =V x):It E:=.op (agA (l:=l) (r:=r) hg (R.get h)) (.row r fs)
def RowsK.aqm (R:RowsK enc rows) {xs zs:List J} {g:Nat} {z:J} {u:Unit} (hg:gU j g=V u) (h:setAt xs j z=V zs) (hr:Jf l (enc z)=r:=by kernel_rfl):(gone l g (rows xs)).set j r=gone l (g+1) (rows zs):=by
 have:=oY hg;subst this;obtain ⟨e,dq⟩:=Cz h;have hz:zs[j]? =V z:=by rw[e,nf dq]
 rw[<-aBe (R.get hz),hr];have e2:gone l j (rows zs)=(gone l j (rows xs)).set j (enc z):=by
  have hl:(rows xs).length=xs.length:=R.len xs;unfold gone;rw[e,R.map,Dr,<-R.map,List.take_set_of_le (de _)];rw[vW _ _ (by rw[mL,dz];omega),mL,dz,fo (by omega),qX]
  rw[List.drop_set,aC (by omega),qX]
 rw[e2,vX]
end
class wJ (κ:Type) [DecidableEq κ] where
 kf:κ->AV
 eq:∀a b,S0 (kf a) (kf b)=V (iL (a=b))
instance:wJ U:=⟨.str,λ_ _=>rfl⟩
instance:wJ Int:=⟨.int .i64,λ_ _=>rfl⟩
section
variable {κ f8:Type} [DecidableEq κ] [wJ κ] {f:f8->AV} {k:κ} {d v:f8}
def mS (m:List (κ×f8)) (k:κ) (d:f8):f8:=match m with| []=>d|p::m=>if k=p.1 then p.2 else mS m k d
def mQ (m:List (κ×f8)) (k:κ) (v:f8):List (κ×f8):=match m with| []=> [(k,v)]|p::m=>if k=p.1 then (k,v)::m else p::mQ m k v
def ga (f:f8->AV) (m:List (κ×f8)):List (AV×AV):=m.map λp=>(wJ.kf p.1,f p.2)
def Td (p:κ×f8) (m:List (κ×f8)):tK (wJ.kf k) (ga f (p::m))=(match V (iL (k=p.1)) with
   |some M=>V (V (0,f p.2))
   |some I=>(match tK (wJ.kf k) (ga f m) with|some (V q)=>V (V (q.1+1,q.2))|r=>r)
   |none=>G):=by
 show (match S0 (wJ.kf k) (wJ.kf p.1) with
  |some M=>V (V (0,f p.2))
  |some I=>(match tK (wJ.kf k) (ga f m) with|some (V q)=>V (V (q.1+1,q.2))|r=>r)
  |none=>G)=_
 rw[wJ.eq]<;>rfl
def Mz:∀m:List (κ×f8),∃r,tK (wJ.kf k) (ga f m)=V r/\Ta I (V (f d)) r=V (f (mS m k d))
 | []=>⟨G,rfl,rfl⟩
 |p::m=>by
  obtain ⟨r,h1,h2⟩:=Mz m;have step:=Td (f:=f) (k:=k) p m;by_cases hk:k=p.1
  ·refine ⟨V (0,f p.2),by rw[step];simp[hk],?_⟩
   show V (f p.2)=V (f (mS (p::m) k d));unfold mS;rw[aG hk]
  ·have hg:mS (p::m) k d=mS m k d:=by rw[mS,aC hk]
   rw[hg];cases r with
   |none=>exact ⟨G,by rw[step];simp[hk,h1],h2⟩
   |some q=>exact ⟨V (q.1+1,q.2),by rw[step];simp[hk,h1],h2⟩
def BB:∀m:List (κ×f8),∃r,tK (wJ.kf k) (ga f m)=V r/\acR (ga f m) (wJ.kf k) (f v) r=ga f (mQ m k v)
 | []=>⟨G,rfl,rfl⟩
 |p::m=>by
  obtain ⟨r,h1,h2⟩:=BB m;have step:=Td (f:=f) (k:=k) p m;by_cases hk:k=p.1
  ·refine ⟨V (0,f p.2),by rw[step];simp[hk],?_⟩
   unfold mQ;rw[aG hk];rfl
  ·have hg:mQ (p::m) k v=p::mQ m k v:=by rw[mQ,aC hk]
   rw[hg];have hc:ga f (p::mQ m k v)=(wJ.kf p.1,f p.2)::ga f (mQ m k v):=rfl;have Co:ga f (p::m)=(wJ.kf p.1,f p.2)::ga f m:=rfl;cases r with
   |none=>exact ⟨G,by rw[step];simp[hk,h1],by rw[hc,<-h2,Co];rfl⟩
   |some q=>exact ⟨V (q.1+1,q.2),by rw[step];simp[hk,h1],by rw[hc,<-h2,Co];rfl⟩
def CK {d b:Bool} {m:List (κ×Bool)} (h:mS m k d=b):∃r,tK (wJ.kf k) (ga AV.bool m)=V r/\Ta I (V (.bool d)) r=V (.bool b):=h ▸ Mz m
end
def It.lkp {E:Env} {es:List (AV×AV)} {k x z:AV} (ok:Bool) (h:∃f,tK k es=V f/\Ta ok (V z) f=V x):It E:=.op h (.lkp x [])
def It.ly {E:Env} {es K3:List (AV×AV)} {k x:AV} (h:∃f,tK k es=V f/\acR es k x f=K3):It E:=.op h (.lkp .undef K3)
def It.nxt {E:Env} {b:U} {pos:Nat} (h:pos<b.size):It E:=.op h (.val 1)
def It.fin {E:Env} {b:U} {pos:Nat} (h:¬pos<b.size):It E:=.op h (.val 0)
def It.er {E:Env} {Q:bz} {n:Nat} (K:Nat) (h:Q.length=n):It E:=.gh ⟨h,.er K 0 n⟩
def cd {E:Env} {f:Nat} {gI:cT} (h:iy E f bs xs (.ms K sz 0 n) gI) (hq:Q.length=n) (hl:lk K gI=V (.rows z e sz Q):=by kernel_rfl) (hb:Yh K sz gI= []:=by kernel_rfl):
  iy E f bs xs (B7 0 n (.rows z e sz Q) sz 0) (LS.agC ⟨[],gI⟩ K 0 n (.rows z e sz Q)).bs:=.mk λr nn has=>by
 obtain ⟨F',g',φ',c',v,H',nx',h1,h2,h3,h4,h5,h6,h7,h8,_⟩:=h.go r nn has;have r0:=h7.put (V 0) λ_=>h6
 have kk:ku K K=M:=(beq_iff _ _).2 rfl;have ss:ku sz sz=M:=(beq_iff _ _).2 rfl;have ho:jl (agB ((⟨[],gI⟩:LS).put (V 0) (.ms K sz 0 n)) K n (.rows z e sz Q) λP=>⟨P,True,trivial⟩):=by
  refine ⟨hq,?_⟩;show jl ((((aT (ku K K&&(ku sz sz&&ku 0 0)) [n] [])++ [])++Yh K sz gI).map _);rw[hb,kk,ss];exact ⟨hq,trivial⟩
 obtain ⟨F2,c2,a1,_,r2⟩:=r0.er (m:=0) (λ_=>rfl) hl ho
 have e0:JQ K (B7 0 n (.rows z e sz Q)) (JP (.rows z e sz Q)) (.ms K sz 0 n)=B7 0 n (.rows z e sz Q) sz 0:=by
  show aT (ku K K) _ _=_;rw[kk]
 have cQ:B7 0 n (.rows z e sz Q) sz 0≠ .undef:=by
  show aT (ku sz sz&&ku 0 0) _ _≠_;rw[ss];exact λh=>by cases h
 obtain ⟨v',v1,v2⟩:=r2.tm 0 (JQ K (B7 0 n (.rows z e sz Q)) (JP (.rows z e sz Q)) (.ms K sz 0 n)) (show lk 0 [((0:Nat),_)]=V _ from by rw[dy,aG rfl]) (by rw[e0];exact cQ)
 obtain rfl:v=v':=by simpa[eG] using v1
 rw[e0] at v2;exact ⟨F2,g',φ',c2,v,H',nx',h1,h2,h3,h4.trans a1,h5,v2,{r2 with tm:=λt x hx=>(by cases hx)},h8,λh=>by cases h⟩
def iy.res {E:Env} {f:Nat} {gI:cT} {y:AV} (w:AV) (h:kL ro E f bs xs y gI):kL ro E f bs xs (cv w y) gI:=.mk λr nn has=>by
 obtain ⟨F',g',φ',c',v,H',nx',h1,h2,h3,h4,h5,h6,h7,h8⟩:=h.go r nn has;exact ⟨F',g',φ',c',v,H',nx',h1,h2,h3,h4,h5,FD h6,h7,h8⟩
end
section
variable {F F':Hf} {g g':Gb} {Y:Nat->Ow} {c:Nat->cD} {s s':LS} {T:Tf} {H:Hf} {E:Env}
def DP {k c nx:Nat} (hP:Ke E k c) {v:SV} (ho:xk E c H nx aa=V (v,ups)):qW E I (.fn (.func k) [] []) aa H nx v (gY H ups) (nx+1):=λm g w u us hE hr nk hu oc=>by
 cases hu with
 | @fn _ first j5 _ _ D6 HI=>
 have AO:mZ g (first.toList++us++j5.toList) ([]++aa++ []):=(D6.append oc).append HI
 rw[jy,r4] at AO;have xF:first++us.toArray++j5=(first.toList++us++j5.toList).toArray:=by apply A4;simp
 obtain ⟨Ec,aqj⟩:=avp hE hP hr (nk nx (de _)) AO ho m;refine ⟨{target:=.fn (.func k) j5,args:=first++us.toArray},rfl,.inl ⟨k,first++us.toArray++j5,aBf Ec _ w,?_⟩⟩
 rw[xF];refine CallsIn.mono aqj ?_;rintro e w' ⟨r,g',rfl,hp⟩;exact ⟨r,rfl,g',hp.val,hp.hr,hp.fr,λx hx=>hp.ro x (by omega),λx hx=>by rw[hp.ro x (by omega)];exact nk x (by omega)⟩
def Ju {v:SV} {s:Nat} (h:VA F g v (.ms K s 0 n)) (hn:0<n):(g K).b=M/\v= .sl (g K).n 0 n (g K).c:=by
 cases h with
 |sK _ hb=>omega
 |ms _ _ _ hb=>exact ⟨hb,by rw[mK];cases (g K).c<;>rfl⟩
 |yI _ _ hl=>omega
def Ox {s:Nat} (hb:(g K).b=M):VA F g (.sl (g K).n 0 n (g K).c) (.ms K s 0 n):=by
 have:=VA.ms (F:=F) (g:=g) (K:=K) s 0 n hb;rw[mK,show zx (g K).c 0=(g K).c from by cases (g K).c<;>rfl] at this
 exact this
def py {a b:Nat} (h:a<=b):kQ a b=M:=(bR _ _).2 h
def aIa {id:Nat} {cp:Cp} (hf:H id=V (SO.cells e svs)) (hi:i<j) (hj:j<=n) (hl:n*sz<=svs.length):
  aqN sz H [.sl id 0 n cp,.int .i64 (.lit (i:Int)),.int .i64 (.lit (j:Int))]=V (.sl id 0 (n-(j-i)) cp,[(id,V (SO.cells e (B8 (i*sz) (j*sz) (n*sz) svs)))]):=by
 show vd (V i) (V j) (mh (H id)) (λi j p=>aT (kQ (LJ i) j&&(kQ j n&&kQ (wW 0 (B' n sz)) p.2.length)) (V (SV.sl id 0 (Nat.sub n (Nat.sub j i)) cp,[(id,V (SO.cells p.1 (B8 (wW 0 (B' i sz)) (wW 0 (B' j sz)) (wW 0 (B' n sz)) p.2)))])) G)=_
 rw[hf];show aT (kQ (LJ i) j&&(kQ j n&&kQ (wW 0 (n*sz)) svs.length)) _ G=_;rw[py hi,py hj,show wW 0 (n*sz)=n*sz from cg _,py hl];simp only[Nat.add_eq,Nat.mul_eq,Nat.sub_eq,cg];rfl
def axN {B C:Nat} (h1:A<=B) (h2:B<=C) (h3:C<=svs.length):(B8 A B C svs).take (A+(C-B))=(svs.take C).take A++(svs.take C).drop B:=by
 have e0:B8 A B C svs=svs.take A++((svs.drop B).take (C-B)++(V' (B-A) SV.undef++svs.drop C)):=rfl;have e1:(svs.take A).length=A:=by simp;omega
 have e2:((svs.drop B).take (C-B)).length=C-B:=by simp;omega
 have e3:(svs.take C).take A=svs.take A:=by rw[l6,fo (by omega)]
 have e4:(svs.take C).drop B=(svs.drop B).take (C-B):=by rw[vZ]
 rw[e0,e3,e4,<-j8,G5 (by rw[gy,e1,e2])]
def Tt {s n' len:Nat} {c:Cp} (hc:zf e s n len c) (h:n'<=n):zf e s n' len c:=by
 cases c with
 |k m=>exact ⟨by have:=hc.1;omega,hc.2⟩
 |u e'=>exact ⟨hc.1,by have:=js s h;have:=hc.2;omega⟩
def Rel.wr0 {b b':Bx} {id nx:Nat} (r:Rel F g Y c ⟨[],[(0,b)]⟩ noT H) (nn:∀x,nx<=x->H x=G) (ji:H id≠G) (hc:c id=V 0) (hb:eT F g 0 b' L') (nd:(L'.map (·.1)).Nodup) (hL:∀p∈L',p=(id,o')\/p.1≠id/\H p.1=V p.2/\c p.1=V 0):
  ∃φ' c',(∀x,nx+1<=x->jn H (id,V o') x=G)/\Rel F g φ' c' ⟨[],[(0,b')]⟩ noT (jn H (id,V o'))/\∀x,x<nx->jn H (id,V o') x≠G->H x≠G:=by
 have hn:∀x,x≠id->jn H (id,V o') x=H x:=λx hx=>aC hx
 have lt:id<nx:=yw λh=>ji (nn _ h)
 obtain ⟨c',h1,_⟩:=r.chg (K:=0) (b':=b') (L':=L') (H':=jn H (id,V o')) hb nd (λp hp=>(hL p hp).elim (λe=>e ▸ ⟨aG rfl,.inl hc⟩) λh=>⟨(hn _ h.1).trans h.2.1,.inl h.2.2⟩) (λi hi=>.inl (pW λh=>hi (hn i λe=>h (e ▸ hc)))) (.inl rfl)
 refine ⟨_,c',λx hx=>(hn x (by omega)).trans (nn x (by omega)),h1.sub (λt x h=>(by cases h)) λk b h=> ?_,λx hx cQ=> ?_⟩
 ·show lk k [(0,b'),(0,_)]=_;rw[dy] at h ⊢;split
  ·rename_i e;rw[aG e] at h;exact h
  ·rename_i e;rw[aC e] at h;cases h
 ·by_cases e:x=id
  ·exact e ▸ ji
  ·rwa[hn x e] at cQ
def iy.del {k c:Nat} {ie:TI} (hP:Ke E k c) (h9:kQ 1048576 c=I) (h0:U' c 2=e) (h1:ku (aa3 c 2) 0=M) (hie:E.ty.get e=V ie) (hs:ie.size=sz) (hn:Q.length=n) (hi:i<j) (hj:j<=n):
  iy E k [(0,.bY I e sz l Q [])] [.ms 0 sz 0 n,.int .i64 (i:Int),.int .i64 (j:Int)] (.ms 0 sz 0 (n-(j-i))) [(0,.bY I e sz l (Q.take i++Q.drop j) [])]:=.mk λ{F g Y c0 H nx aa} r nn has=>by
 cases has with|cons q1 t1=>
 cases t1 with|cons q2 t2=>
 cases t2 with|cons q3 t3=>
 cases t3;obtain ⟨hb,rfl⟩:=Ju q1 (by omega)
 cases q2;cases q3;have hlk:lk 0 [((0:Nat),Bx.bY I e sz l Q [])]=V (.bY I e sz l Q []):=by rw[dy,aG rfl]
 rcases r.bY hlk with ⟨_,_,np,_⟩|⟨_,svs,L,hφ,hH,_,hu,jr,q,_⟩
 ·rw[hb] at np;cases np
 obtain ⟨_,nd,own⟩:=r.bx 0 _ hlk;rw[hφ] at nd own;subst hn;have hl:=oD jr;have hA:i*sz<=j*sz:=js _ (by omega)
 have hB:j*sz<=Q.length*sz:=js _ hj;have ho:xk E c H nx [.sl (g 0).n 0 Q.length (g 0).c,.int .i64 (.lit (i:Int)),.int .i64 (.lit (j:Int))]=V (.sl (g 0).n 0 (Q.length-(j-i)) (g 0).c,[((g 0).n,V (SO.cells e (B8 (i*sz) (j*sz) (Q.length*sz) svs)))]):=by
  unfold xk;rw[h9];show az (E.ty.get (U' c 2)) _=_;rw[h0,hie];show aT (ku (aa3 c 2) 0) (aqN ie.size H _) _=_;rw[h1,hs];exact aIa hH hi hj hl
 obtain ⟨A,B,e1,a1,a2⟩:=q.cut j hu;obtain ⟨A1,A2,rfl,b1,b2⟩:=a1.cut i λr hr=>hu r (oG hr)
 rw[l6,fo hA,show (Q.take j).take i=Q.take i by rw[l6,fo (by omega)]] at b1
 have Gz:(A1++B).Sublist L:=by
  rw[e1];exact List.Sublist.append (List.sublist_append_left _ _) (.refl _)
 have r1:(Q.take i++Q.drop j).length=Q.length-(j-i):=by simp;omega
 have r3:(Q.length-(j-i))*sz=i*sz+(Q.length*sz-j*sz):=by rw[show Q.length-(j-i)=i+(Q.length-j) by omega,fW,A7]
 have ji:=(own ((g 0).n,_) j7);have key:=r.wr0 (b':=.bY I e sz l (Q.take i++Q.drop j) []) (id:=(g 0).n) (o':=SO.cells e (B8 (i*sz) (j*sz) (Q.length*sz) svs)) (L':=((g 0).n,SO.cells e (B8 (i*sz) (j*sz) (Q.length*sz) svs))::(A1++B)) nn (by rw[hH];simp) ji.2 (.bY hb (λh=>by cases h) (λr hr=> ?_) ?_ ?_ λp hp=>by cases hp) ?_ λp hp=> ?_
 ·obtain ⟨φ',c',k1,k2,k3⟩:=key;exact ⟨F,g,φ',c',_,_,nx+1,DP hP ho,sm _,k1,.refl _,λ_ _=>rfl,Ox hb,k2,k3,λh=>by cases h⟩
 ·rcases eV.1 hr with hr|hr
  ·exact hu r (oG hr)
  ·exact hu r (nG hr)
 ·rw[r1,aBH hA hB hl];exact Tt jr (by omega)
 ·rw[r1,r3,axN hA hB hl];exact b1.append a2
 ·exact ((Gz.cons_cons _).map _).nodup nd
 ·rcases da.1 hp with e|hp
  ·exact .inl e
  ·have hp:=Gz.subset hp;exact .inr ⟨λe=>(pj.1 nd).1 (dM.2 ⟨p,hp,e⟩),own p (dQ _ hp)⟩
def aHR {id Fp q new:Nat} {c c2:Cp} {e2:pJ} {Lt:bc} (hf:H id=V (SO.cells e svs)) (hf2:H Fp=V (SO.cells e2 Lt)) (hi:i<=n) (hq:0<q) (zr:n<=1000000) (hq6:q<=1000000) (cQ:id≠Fp) (hl:n*sz<=svs.length) (HN:q*sz<=Lt.length) (hc:ara 0 svs.length sz c=M):
  apP e sz H new [.sl id 0 n c,.int .i64 (.lit (i:Int)),.sl Fp 0 q c2]=V (.sl new 0 (n+q) (.u e),[(id,G),(new,V (SO.cells e (B5 (svs.take (n*sz)) (i*sz) (Lt.take (q*sz)))))]):=by
 show vd (V i) (mh (H id)) (mh (H Fp)) (λi p p2=>aT (kQ i n&&(kQ 1 q&&(kQ n 1000000&&(kQ q 1000000&&(!ku id Fp&&(ku p.1 e&&(kQ (wW 0 (B' n sz)) p.2.length&&(kQ (wW 0 (B' q sz)) p2.2.length&&ara 0 p.2.length sz c)))))))) (V (SV.sl new 0 (wW n q) (.u e),[(id,G),(new,V (SO.cells e (B5 ((p.2.drop 0).take (B' n sz)) (B' i sz) ((p2.2.drop 0).take (B' q sz)))))])) G)=_
 rw[hf,hf2];show aT (kQ i n&&(kQ 1 q&&(kQ n 1000000&&(kQ q 1000000&&(!ku id Fp&&(ku e e&&(kQ (wW 0 (B' n sz)) svs.length&&(kQ (wW 0 (B' q sz)) Lt.length&&ara 0 svs.length sz c)))))))) _ G=_;rw[show wW 0 (B' n sz)=n*sz from cg _,show wW 0 (B' q sz)=q*sz from cg _];rw[py hi,py hq,py zr,py hq6,py hl,py HN,hc,(beq_iff _ _).2 rfl,show ku id Fp=I from acK.2 λh=>cQ ((beq_iff _ _).1 h)]
 rfl
def iy.ins {k c q:Nat} {e2:pJ} {ie:TI} {ex:bz} (hP:Ke E k c) (h9:kQ 1048576 c=I) (h0:U' c 2=e) (h1:ku (aa3 c 2) 0=I) (hie:E.ty.get e=V ie) (hs:ie.size=sz) (hn:Q.length=n) (hq:ex.length=q) (hi:i<=n) (hn0:0<n) (hq0:0<q) (zr:n<=1000000) (hq6:q<=1000000):
  iy E k [(2,.rows z e2 sz ex),(4294967296,.rows I e sz Q)] [.ms 4294967296 sz 0 n,.int .i64 (i:Int),.ms 2 sz 0 q] (.ms 4294967296 sz 0 (n+q)) [(4294967296,.rows I e sz (Q.take i++ex++Q.drop i)),(2,.rows z e2 sz ex)]:=.mk λ{F g Y c0 H nx aa} r nn has=>by
 generalize hK:(4294967296:Nat)=K at*;have hK2:K≠2:=by rw[<-hK];decide
 have hpn:pnL (wX [(2,Bx.rows z e2 sz ex),(K,Bx.rows I e sz Q)]) K=I:=by rw[<-hK];rfl
 cases has with|cons q1 t1=>
 cases t1 with|cons q2 t2=>
 cases t2 with|cons q3 t3=>
 cases t3;obtain ⟨hb,rfl⟩:=Ju q1 hn0;obtain ⟨hb2,rfl⟩:=Ju q3 hq0;cases q2;have hlk:lk K [((2:Nat),Bx.rows z e2 sz ex),(K,Bx.rows I e sz Q)]=V (.rows I e sz Q):=by rw[dy,aC hK2,dy,aG rfl]
 have hlk2:lk 2 [((2:Nat),Bx.rows z e2 sz ex),(K,Bx.rows I e sz Q)]=V (.rows z e2 sz ex):=by rw[dy,aG rfl]
 rcases r.bY hlk with ⟨_,_,np,_⟩|⟨_,svs,L,hφ,hH,_,hu,jr,w1,_⟩
 ·rw[hb] at np;cases np
 rcases r.bY hlk2 with ⟨_,_,np,_⟩|⟨_,Lt,L2,hφ2,hH2,_,hu2,aEF,w2,_⟩
 ·rw[hb2] at np;cases np
 have own:=(r.bx K _ hlk).2.2;have afm:=(r.bx 2 _ hlk2).2.2;rw[hφ] at own;rw[hφ2] at afm;have cK:=(own (_,_) j7).2;have c2:=(afm (_,_) j7).2;subst hn;subst hq;have hl:=oD jr;have HN:=oD aEF;have cQ:(g K).n≠(g 2).n:=λe=>by
  have cK:c0 (g K).n=V K:=cK;have c2:c0 (g 2).n=V 2:=c2;rw[e,c2] at cK;exact hK2 (kR cK).symm
 have jq:i*sz<=Q.length*sz:=js _ hi;have ho:xk E c H nx [.sl (g K).n 0 Q.length (g K).c,.int .i64 (.lit (i:Int)),.sl (g 2).n 0 ex.length (g 2).c]=V (.sl nx 0 (Q.length+ex.length) (.u e),[((g K).n,G),(nx,V (SO.cells e (B5 (svs.take (Q.length*sz)) (i*sz) (Lt.take (ex.length*sz)))))]):=by
  unfold xk;rw[h9];show az (E.ty.get (U' c 2)) _=_;rw[h0,hie];show aT (ku (aa3 c 2) 0) _ (apP e ie.size H nx _)=_;rw[h1,hs];refine aHR hH hH2 hi hq0 zr hq6 cQ hl HN ?_;cases hκ:(g K).c with
  |k m=>
   rw[hκ] at jr;show kQ (wW 0 (B' m sz)) svs.length=M;rw[jr.2];exact py (by show 0+m*sz<=_;omega)
  |u e'=>rfl
 have nk:=nn nx (de _);generalize hX:B5 (svs.take (Q.length*sz)) (i*sz) (Lt.take (ex.length*sz))=X at ho;have hXe:X=((svs.take (Q.length*sz)).take (i*sz))++(Lt.take (ex.length*sz)++(svs.take (Q.length*sz)).drop (i*sz)):=hX.symm;let H':Hf:=jn (jn H ((g K).n,G)) (nx,V (SO.cells e X));have JM:∀x,x≠(g K).n->x≠nx->H' x=H x:=λx h1 h2=>by
  show (if x=nx then _ else if x=(g K).n then _ else H x)=_
  rw[aC h2,aC h1]
 have qD:(Q.take i++ex++Q.drop i).length=Q.length+ex.length:=by simp;omega
 have hru:∀r∈Q.take i++ex++Q.drop i,r.length=sz:=λr hr=>by
  rcases eV.1 hr with hr|hr
  ·rcases eV.1 hr with hr|hr
   ·exact hu r (oG hr)
   ·exact hu2 r hr
  ·exact hu r (nG hr)
 have hXl:X.length=(Q.length+ex.length)*sz:=by
  rw[hXe];simp only[gy,dz,jx,fW];rw[fo hl,fo HN,fo jq];omega
 have hXv:dH F lH X (Q.take i++ex++Q.drop i).flatten:=by
  rw[hXe,List.flatten_append,List.flatten_append,j8,Mx hu,Fz hu];exact (w1.dat.take _).append (w2.dat.append (w1.dat.drop _))
 let g':Gb:=ly g K ⟨nx,.u e,M⟩;have gK:g' K=⟨nx,.u e,M⟩:=aG rfl;obtain ⟨c',k1,_⟩:=r.chg (K:=K) (g':=g') (b':=.rows I e sz (Q.take i++ex++Q.drop i)) (L':= [(nx,.cells e X)]) (H':=H') (by
   have:=eT.bY (F:=F) (g:=g') (K:=K) (z:=I) (e:=e) (s:=sz) (l:= []) (Q:=Q.take i++ex++Q.drop i) (o:= []) (svs:=X) (by rw[gK]) (λh=>by cases h) hru (by rw[gK,qD,hXl];exact ⟨rfl,de _⟩) (.vw hru (by rw[qD,<-hXl,uo];exact hXv)) λp hp=>by cases hp
   rwa[gK] at this) (by simp) (λp hp=>by rw[gL.1 hp];exact ⟨aG rfl,.inr nk⟩)
  (λx hx=>by
   by_cases h1:x=(g K).n
   ·exact .inl (h1 ▸ cK)
   ·by_cases h2:x=nx
    ·exact .inr (h2 ▸ nk)
    ·exact absurd (JM x h1 h2) hx)
  (.inr ⟨⟨λt x h=>(by cases h),λk b hk h=>by
   rw[dy] at h;split at h
   ·cases h;exact λhm=>by cases hm
   ·rw[dy] at h;split at h
    ·rename_i e;exact absurd e hk
    ·cases h⟩,λk hk=>aC hk⟩)
 refine ⟨F,g',_,c',_,H',nx+1,DP hP ho,sm _,λx hx=> ?_,.refl _,λk hk=>aC λe=>(by rw[e,hpn] at hk;cases hk),?_,k1.sub (λt x h=>(by cases h)) λk b h=> ?_,λx hx h=> ?_,λh=>by cases h⟩
 ·by_cases h1:x=(g K).n
  ·have:H (g K).n=V _:=hH;rw[<-h1,nn x (by omega)] at this;cases this
  ·exact (JM x h1 (by omega)).trans (nn x (by omega))
 ·have:=Ox (F:=F) (g:=g') (K:=K) (s:=sz) (n:=Q.length+ex.length) (by rw[gK])
  rw[gK] at this;exact this
 ·show lk k [(K,_),(2,_),(K,_)]=_;rw[dy] at h ⊢;split
  ·rename_i e;rw[aG e] at h;exact h
  ·rename_i e;rw[aC e] at h;rw[dy] at h ⊢;split
   ·rename_i e;rw[aG e] at h;exact h
   ·rename_i e;rw[aC e] at h;cases h
 ·by_cases h1:x=(g K).n
  ·rw[h1];have:H (g K).n=V _:=hH;rw[this];simp
  ·rwa[JM x h1 (by omega)] at h
def qv (xs:List Int):bz:=xs.map λx=> [AV.int .i64 x]
def CF (z:Bool) (xs:List Int):List Int:=aT z (eX xs) (lP xs)
def aoR (x:Int) (xs:List Int):(qv (x::xs)).flatten=AV.int .i64 x::(qv xs).flatten:=rfl
def Qz:∀xs:List Int,dH F g (fq xs) (qv xs).flatten
 | []=>.nil
 |x::xs=>.cons (.lit _) (Qz xs)
def Zp:∀{xs:List Int} {vs:bc},dH F g vs (qv xs).flatten->vs=fq xs
 | [],vs,h=>by cases h;rfl
 |x::xs,vs,h=>by
  rw[aoR] at h;cases h with|cons q t=>
  cases q;rw[Zp t];rfl
def JB:∀xs:List Int,JC (fq xs)=V xs
 | []=>rfl
 |x::xs=>by
  show cC (LY (.int .i64 (.lit x))) (JC (fq xs)) (λx r=>V (x::r))=_
  rw[JB xs];rfl
def apK (z:Bool) (xs:List Int) (l:bc):(fq (CG z xs)++l).take (CF z xs).length=fq (CF z xs):=by
 cases z
 ·show (fq (lP xs++V' (xs.length-(lP xs).length) 0)++l).take (lP xs).length=fq (lP xs);have e:fq (lP xs++V' (xs.length-(lP xs).length) 0)=fq (lP xs)++fq (V' (xs.length-(lP xs).length) 0):=by simp[fq]
  rw[e,j8,G5 (by simp[fq])]
 ·show (fq (eX xs)++l).take (eX xs).length=fq (eX xs);rw[G5 (by simp[fq])]
def YH:∀xs:List Int,(lP xs).length<=xs.length
 | []=>de _
 | [x]=>de _
 |x::y::l=>by
  have:=YH (y::l);show (if x=y then lP (y::l) else x::lP (y::l)).length<=_
  split
  ·exact Nat.le_succ_of_le this
  ·exact Nat.succ_le_succ this
def Qc (x:Int):∀ys:List Int,(B4 x ys).length=ys.length+1
 | []=>rfl
 |y::ys=>by
  unfold B4;split
  ·rfl
  ·rw[iu,Qc x ys];rfl
def yD:∀xs:List Int,(eX xs).length=xs.length
 | []=>rfl
 |x::xs=>by rw[eX,Qc,yD xs];rfl
def aAu (z:Bool) (xs:List Int):(CF z xs).length<=xs.length:=by
 cases z
 ·exact YH xs
 ·exact tp (yD xs)
def afV (b:Bool) (xs:List Int):(CG b xs).length=xs.length:=by
 cases b
 ·have:=YH xs;show (lP xs++V' (xs.length-(lP xs).length) 0).length=_;rw[gy,vY];omega
 ·exact yD xs
def E8 (xs:List Int):∀r∈qv xs,r.length=1:=λr hr=>by
 obtain ⟨x,_,rfl⟩:=dM.1 hr;rfl
def iy.ints {k c:Nat} {xs:List Int} (hP:Ke E k c) (h0:kQ 1048576 c=M) (h1:ku c 1048576=z) (hn:xs.length=n) (h6:n<=4294967295):
  iy E k [(0,.rows I e 1 (qv xs))] [.ms 0 1 0 n] (aT z (.dr []) (.ms 0 1 0 (CF z xs).length)) [(0,.rows I e 1 (qv (CF z xs)))]:=.mk λ{F g Y c0 H nx aa} r nn has=>by
 cases has with| @cons _ v _ _ _ q1 t1=>
 cases t1;have hpr:∀f new aa,xk E c f new aa=aaK z f aa:=λf new aa=>by
  unfold xk;rw[h0,h1,cE,aG rfl]
 subst hn;rcases RS xs.length with hz|Ai
 ·obtain rfl:xs= []:=vk.1 hz;have e0:CF z []= []:=by cases z<;>rfl
  rw[e0];have hv:v= .cq\/∃id c',v= .sl id 0 0 c':=by
   cases q1 with
   |sK=>exact .inl rfl
   |ms _ _ _ hb=>exact .inr ⟨(g 0).n,_,by rw[mK];rfl⟩
   |yI _ _ hl=>omega
  have ho:xk E c H nx [v]=V (aT z (.dr []) v,[]):=by
   rw[hpr];rcases hv with rfl|⟨id,c',rfl⟩
   ·cases z<;>rfl
   ·cases z<;>rfl
  refine ⟨F,g,Y,c0,_,_,nx+1,DP hP ho,sm _,λx hx=>nn x (by omega),.refl _,λ_ _=>rfl,?_,r,λx _ h=>h,λh=>by cases h⟩
  cases z
  ·exact q1
  ·exact .dr .nil
 ·obtain ⟨hb,rfl⟩:=Ju q1 Ai;have hlk:lk 0 [((0:Nat),Bx.rows I e 1 (qv xs))]=V (.rows I e 1 (qv xs)):=by rw[dy,aG rfl]
  rcases r.bY hlk with ⟨_,_,np,_⟩|⟨_,svs,L,hφ,hH,_,hu,jr,q,_⟩
  ·rw[hb] at np;cases np
  have own:=(r.bx 0 _ hlk).2.2;rw[hφ] at own;have qD:(qv xs).length=xs.length:=by simp[qv]
  have hl:=oD jr;have q:=q.dat;rw[qD,GU] at hl q;rw[qD] at jr;have e1:svs.take xs.length=fq xs:=Zp q;have e2:(svs.drop 0).take xs.length=fq xs:=by rw[ph];exact e1
  have ho:xk E c H nx [.sl (g 0).n 0 xs.length (g 0).c]=V (aT z (.dr []) (.sl (g 0).n 0 (lP xs).length (g 0).c),[((g 0).n,V (SO.cells e (svs.take 0++(fq (CG z xs)++svs.drop (wW 0 xs.length)))))]):=by
   rw[hpr];show aT (ku xs.length 0) _ (az (mh (H (g 0).n)) _)=_;rw[show H (g 0).n=_ from hH,show ku xs.length 0=I from acK.2 λh=>by have:=(beq_iff _ _).1 h;omega]
   show az (JC ((svs.drop 0).take xs.length)) _=_;rw[e2,JB];show aT (kQ 1 xs.length&&(kQ (wW 0 xs.length) svs.length&&kQ xs.length 4294967295)) _ G=_;rw[py Ai,py h6,show wW 0 xs.length=xs.length from cg _,py hl];rfl
  have hol:(qv (CF z xs)).length=(CF z xs).length:=by simp[qv]
  generalize hX:(svs.take 0++(fq (CG z xs)++svs.drop (wW 0 xs.length)))=X at ho;have hlen:X.length=svs.length:=by
   have:=afV z xs;have e3:wW 0 xs.length=xs.length:=cg _;rw[<-hX,e3];simp[fq,this];omega
  have key:=r.wr0 (b':=.rows I e 1 (qv (CF z xs))) (id:=(g 0).n) (o':=.cells e X) (L':= [((g 0).n,.cells e X)]) nn (by rw[show H (g 0).n=_ from hH];simp) (own (_,_) j7).2
   (.bY hb (λhc=>by cases hc) (E8 _) (by rw[hol,hlen];exact Tt jr (aAu z xs)) (.vw (E8 _) (by
    rw[hol,GU,<-hX,yx,jy,apK];exact Qz _)) λp hp=>by cases hp) (by simp) (λp hp=>.inl (gL.1 hp))
  obtain ⟨φ',c',k1,k2,k3⟩:=key;refine ⟨F,g,φ',c',_,_,nx+1,DP hP ho,sm _,k1,.refl _,λ_ _=>rfl,?_,k2,k3,λh=>by cases h⟩
  cases z
  ·exact Ox hb
  ·exact .dr .nil
def iy.cmp {k:Nat} {a b:U} (Mm:E.P.funcs[k]? =V fn) (hb:fn.body=G) (hn:(fn.name== "runtime.NumGoroutine")=I) (e1:Extern.findNext fn=G) (e2:Extern.find fn=V Extern.BytealgCompare.compare):iy E k [] [.str a,.str b] (.int .i64 (MN a b)) []:=.mk λ{F g Y c H nx aa} r nn has=>by
 cases has with|cons h1 t1=>
 cases t1 with|cons h2 t2=>
 cases t2;cases h1;cases h2;refine ⟨F,g,Y,c,.int .i64 (.lit (MN a b)),H,nx,λm g w u us hE hr nk hu oc=> ?_,de _,nn,.refl _,λ_ _=>rfl,.lit _,r,λ_ _ h=>h,λh=>by cases h⟩
 cases hu with
 | @fn _ first j5 _ _ D6 HI=>
 have AO:mZ g (first.toList++us++j5.toList) [.str a,.str b]:=(D6.append oc).append HI
 have xF:first++us.toArray++j5=(first.toList++us++j5.toList).toArray:=by apply A4;simp
 obtain ⟨v1,v2,e,h1,h2⟩:=He AO;rw[e] at xF;cases h1;cases h2;refine ⟨{target:=.fn (.func k) j5,args:=first++us.toArray},rfl,.inr (.inr ⟨.int .i64 (Lib.compareBytes a.data.toList b.data.toList),w,?_,_,rfl,g,.int _ _ ?_,hr,Fr.refl _ _ _,λ_ _=>rfl,nk⟩)⟩
 ·show (callFunc k (first++us.toArray++j5)).run E.P w=_
  rw[xF,run_callFunc_extern Mm hn (by rw[hb];rfl) e1 e2,Lib.run_compareString]
  rfl
 ·rw[ZK];rfl
end
end Go.bM
namespace Go.bM
open Go.RowKit
variable {nb nx:Nat} {v:C'} {H:Hf} {k f:FuncId} {aa:bc} {us:fG} {xs:bb}
section
def uc (nb:Nat):C'->SV
 | .bool b=>.bool b
 | .int k n=>.int k (.lit n)
 | .string s=>.str s
 | .slice a n c=>
  if n=0 then (if a=G/\c=0 then .cq else .sle)
  else (match a with
   |some ⟨b,o,G⟩=>if b<nb/\n<=c then .sl b o n (.k c) else .undef
   |_=>.undef)
 |_=>.undef
def agc (nb:Nat):C'->SV
 | .agg cs=>.agg (cs.toList.map (uc nb))
 |v=>uc nb v
def apQ (nb:Nat):Obj->Z SO
 | .cells cur _ _=>V (.ro (cur.toList.map (uc nb)))
 |_=>G
def mir (nb:Nat):List Obj->Nat->Hp
 | [],_=>.nil
 |o::l,i=>(mir nb l (i+1)).set i (apQ nb o)
def wG (W:World):Hp:=mir W.heap.size W.heap.toList 0
def gW (P:J5) (W:World):Gh:=⟨λ_=>0,P.cellsOf,λid=>if id<W.heap.size then V (id,0) else G,λ_=>0,λ_=>0,λb=>W.heap[b]?⟩
def amA (nb:Nat):∀(l:List Obj) (i x:Nat),(mir nb l i).get x=if x<i then G else (l[x-i]?).bind (apQ nb)
 | [],i,x=>by show (Tr.nil:Hp).get x=_;simp;rfl
 |o::l,i,x=>by
  show ((mir nb l (i+1)).set i (apQ nb o)).get x=_;rw[Tr.amQ];by_cases hx:x=i
  ·subst hx;simp
  ·rw[aC hx,amA nb l (i+1) x];by_cases dq:x<i
   ·rw[aG dq,aG (by omega)]
   ·rw[aC dq,aC (by omega),show x-i=(x-(i+1))+1 by omega,tR]
def Jv (W:World) (x:Nat):(wG W).get x=(W.heap[x]?).bind (apQ W.heap.size):=by
 unfold wG;rw[amA];simp
variable {P:J5} {W:World}
def axz (v:C'):VR (gW P W) v (uc W.heap.size v):=by
 unfold uc;split
 ·exact .bool _
 ·exact .int _ _ rfl
 ·exact .str _
 ·rename_i a n c;split
  ·rename_i hn;subst hn;split
   ·rename_i h;obtain ⟨rfl,rfl⟩:=h;exact .cq
   ·exact .sle
  ·split
   ·rename_i b o;split
    ·rename_i h;have:=VR.sl (g:=gW P W) (id:=b) (off:=o) (n:=n) (b:=b) (o:=0) (c:=c) (cap:=.k c) (by show (if b<W.heap.size then V (b,0) else G)=_;rw[aG h.1]) h.2 (λm hm=>by cases hm;rfl) (λe he=>by cases he)
     rwa[cg] at this
    ·exact .undef _
   ·exact .undef _
 ·exact .undef _
def aHS (h:KZ (uc nb v)=I):v.oneCell'=M:=by
 cases v<;>first|rfl|(cases h;done)
def aJU:HR (gW P W) (wG W).get W:=by
 refine ⟨λid o ho=> ?_,λi j x y b c d hx hy h1 h2=> ?_⟩
 ·rw[Jv] at ho;cases hb:W.heap[id]? with
  |none=>rw[hb] at ho;cases ho
  |some ob=>
   have dq:id<W.heap.size:=(oj.1 hb).1;refine ⟨id,0,aG dq,dq,?_⟩;rw[hb] at ho;cases ob with
   |cells cur e fz=>
    cases ho;refine ⟨cur,e,fz,hb,hb,λj x hx=> ?_⟩
    rw[nQ] at hx;cases hv:cur.toList[j]? with
    |none=>rw[hv] at hx;cases hx
    |some v=>
     rw[hv] at hx;cases hx;exact ⟨v,by rw[cg];simpa using hv,λhu=>⟨aHS hu,axz v⟩⟩
   |_=>cases ho
 ·have k1:(if i<W.heap.size then V (i,0) else G)=V (b,c):=h1
  have k2:(if j<W.heap.size then V (j,0) else G)=V (b,d):=h2
  split at k1
  ·split at k2
   ·cases k1;cases k2;rfl
   ·cases k2
  ·cases k1
variable {E:Env} {g:Gh} {w:World}
def aHn [hF:Kv E] {H':Hf} {nx':Nat} {v:SV} (sem:qW E I (.fn (.func k) [] []) aa H nx v H' nx') (Ec:aqn E (.fn (.func k) [] [])=M) (hE:fJ E g) (hr:HR g H w) (jj:∀x,nx<=x->g.O x=G) (oc:mZ g us aa) (m:Nat):CallsIn Fence.wide m E.P k us.toArray w λe w'=>∃r g',e= .returned r/\VR g' r v/\HR g' H' w'/\Fr g H w g' H' w':=by
 obtain ⟨k',fi,ca,fn,e1,Mm,S7⟩:=axC Ec;cases e1;obtain ⟨d,Ef,Mn⟩:=sem m g w (.func (.func k) #[] #[]) us hE hr jj (.fn .nil .nil) oc;have hd:d={target:=.fn (.func k) #[],args:= #[]++us.toArray}:=by
  rw[afv] at Ef;cases Ef;rfl
 subst hd;have aaL:∀(args:jw) (w:World),(invoke (.fn (.func k) #[]) args).run E.P w=(callFunc k (args++ #[])).run E.P w:=λ_ _=>rfl
 rcases yF (hF.fn k fn Mm).1 S7 (#[]++us.toArray++ #[]) w with ⟨hc,_⟩|hc
 ·rcases Mn with ⟨k',as',q1,q2⟩|⟨l,k',t',as',b',q1,_⟩|⟨r,w',q1,_⟩<;>(rw[aaL,hc] at q1;cases q1)
 ·rcases Mn with ⟨k',as',q1,q2⟩|⟨l,k',t',as',b',q1,_⟩|⟨r,w',q1,_⟩
  ·rw[aaL,hc] at q1;cases q1;have e: #[]++us.toArray++ #[]=us.toArray:=by simp
   rw[e] at q2;refine CallsIn.mono q2 ?_;rintro e w' ⟨r,rfl,g',h1,h2,h3,_,_⟩;exact ⟨r,g',rfl,h1,h2,h3⟩
  ·rw[aaL,hc] at q1;cases q1
  ·rw[aaL,hc] at q1;cases q1
def arb {E:Env} [Kv E] (hE:fJ E (gW E.P W)) {b:Bool} (hc:iy E f [] xs (.bool b) []) (Ec:aqn E (.fn (.func f) [] [])=M) (hx:dH (wG W).get lH aa xs) (oc:mZ (gW E.P W) us aa):Calls E.P f us.toArray W λe W'=>e= .returned (.bool b)/\Below W.heap.size W W':=by
 have nn:∀x,W.heap.size<=x->(wG W).get x=G:=λx hx=>by
  rw[Jv,GV hx];rfl
 have aAW:Rel (wG W).get lH (λ_=> []) (λ_=>G) ⟨[],[]⟩ noT (wG W).get:=⟨λt x hx=>(by cases hx),λk b hb=>(by cases hb),λi o h=>⟨h,rfl⟩,λ_ _=>rfl⟩
 obtain ⟨F',g',φ',c',v,H',nx',sem,nk,hbd',hF,_,hv,hrel,_,_⟩:=hc.go aAW nn hx;have:=callsIn_wide.1 (aHn sem Ec hE aJU (λx hx=>aC (Nat.not_lt.2 hx)) oc 0)
 refine this.mono ?_;rintro e W' ⟨r,g2,rfl,k1,k2,k3⟩;cases hv;cases k1;refine ⟨rfl,k3.os,k3.tape,k3.output,k3.size,λx hx=> ?_⟩
 cases hm:(wG W).get x with
 |none=>
  refine k3.old x hx λ⟨id,o,c,z1,z2⟩=> ?_
  have z2:(if id<W.heap.size then V (id,0) else G)=V (x,c):=z2
  split at z2
  ·cases z2;have z1:(wG W).get x=V o:=z1;rw[hm] at z1;cases z1
  ·cases z2
 |some o=>
  obtain ⟨b',c',y1,y2,y3⟩:=k2.ob x o (hrel.fr x o (hF x o hm)).1;have y0:g2.O x=V (x,0):=k3.le.O x (x,0) (aG hx);rw[y0] at y1;cases y1;rw[Jv] at hm;cases hb:W.heap[x]? with
  |none=>rw[hb] at hm;cases hm
  |some ob=>
   rw[hb] at hm;cases ob with
   |cells cur e fz=>
    cases hm;obtain ⟨jP,e',fz',w1,w2,_⟩:=y3;have w3:g2.wb x=W.heap[x]? :=congrFun k3.le.wb x;rw[w1,<-w2,w3,hb]
   |_=>cases hm
end
end Go.bM
namespace Go.bM
open Go.RowKit Go.Proofs.YtbnkhmoelnfjoaaGreat
variable {a vs:fG} {x xs:bb} {v:C'} {J:Type} {c s nb:Nat} {e t:pJ} {ps:List MemPlace}
section
mutual
def OS:AV->Nat
 | .lit (.str s)=>s.size+1
 | .sl _ _ _ _ rows=>Ap rows+1
 |_=>1
def Ap:bz->Nat
 | []=>0
 |r::rs=>nE r+Ap rs
def nE:bb->Nat
 | []=>0
 |x::xs=>OS x+nE xs
end
def MO (xs ys:bb):nE (xs++ys)=nE xs+nE ys:=by
 induction xs with
 |nil=>simp[nE]
 |cons x xs ih=>simp[nE,ih];omega
def y9 {J f8:Type} (R:J->f8->Prop):List J->List f8->Prop
 | [],[]=>True
 |a::l,b::m=>R a b/\y9 R l m
 |_,_=>False
def kK (P:J5):Nat->pJ->bb->Prop
 |0,_,_=>False
 |n+1,t,xs=>
  match P.underlying t with
  |some .bool=>∃b,xs= [.bool b]
  |some (.int k)=>∃i,xs= [.int k i]/\(Lit.int k i).wf=M
  |some .string=>∃s:U,xs= [.str s]/\s.size<=maxLen
  |some (.slice e)=>∃rows,xs= [.rY e (P.cellsOf e) rows.length rows]/\∀r∈rows,kK P n e r
  |some (.struct fs)=>∃sy:bz,xs=sy.flatten/\y9 (λf ys=>kK P n f.type ys) fs.toList sy
  |some (.array m e)=>∃sy:bz,xs=sy.flatten/\sy.length=m/\∀ys∈sy,kK P n e ys
  |_=>False
def xV (P:J5) (S:pJ->Bool) (total:Nat):Nat->List Field->Bool
 |off,[]=>off==total
 |off,f::fs=>f.offset==off&&S f.type&&xV P S total (off+P.cellsOf f.type) fs
def Lq (P:J5) (S:pJ->Bool) (t:pJ):Bool:=
 match P.underlying t with
 |some .bool|some (.int _)|some .string=>M
 |some (.struct fs)=>xV P S (P.cellsOf t) 0 fs.toList
 |some (.array n e)=>P.cellsOf t==n*P.cellsOf e&&S e
 |some (.slice e)=>S e&&iL (0<P.cellsOf e)
 |_=>I
def CR (W:World) (cs:fG) (xs:bb):Prop:=dH (wG W).get lH (cs.map (uc W.heap.size)) xs/\∀v∈cs,KZ (uc W.heap.size v)=I
section
variable {H:Type} {enc:pJ×C'->H} {P:J5} {S:pJ->Bool} {w:World} {base:Nat} {spare:Nat->Bool} {held:Bool}
def CR.nil:CR w [] []:=⟨.nil,λv hv=>by cases hv⟩
def CR.append {b:fG} {y:bb} (h:CR w a x) (k:CR w b y):CR w (a++b) (x++y):=⟨by rw[ka];exact h.1.append k.1,λv hv=>(eV.1 hv).elim (h.2 v) (k.2 v)⟩
def CR.one {x:AV} (h:VA (wG w).get lH (uc w.heap.size v) x) (hu:KZ (uc w.heap.size v)=I):CR w [v] [x]:=⟨.cons h .nil,λu ud=>by rw[gL.1 ud];exact hu⟩
def CR.length (h:CR w a x):a.length=x.length:=by have:=h.1.length;simpa using this
def Bn {J f8:Type} {f:J->Z f8}:∀{l:List J} {r:List f8},l.mapM f=V r->y9 (λa b=>f a=V b) l r
 | [],r,h=>by simp at h;subst h;trivial
 |a::l,r,h=>by
  rw[V7] at h;cases ha:f a with
  |none=>simp[ha] at h
  |some b=>
   cases hl:l.mapM f with
   |none=>simp[ha,hl] at h
   |some m=>
    simp[ha,hl] at h;subst h;exact ⟨ha,Bn hl⟩
def Qk {J f8:Type} {R:J->f8->Prop}:∀{l:List J} {m:List f8},y9 R l m->l.length=m.length
 | [],[],_=>rfl
 |_::_,_::_,h=>by simp[Qk h.2]
 | [],_::_,h=>h.elim
 |_::_,[],h=>h.elim
def Rk {J f8:Type} {R:J->f8->Prop}:∀{l:List J} {m:List f8},y9 R l m->∀{i:Nat} {b:f8},m[i]? =V b->∃a,l[i]? =V a/\R a b
 | [],[],_,_,_,h=>by simp at h
 |a::l,b::m,h,i,x,hx=>by
  cases i with
  |zero=>simp at hx;subst hx;exact ⟨a,rfl,h.1⟩
  |succ i=>simp at hx;obtain ⟨y,h1,h2⟩:=Rk h.2 hx;exact ⟨y,by simpa using h1,h2⟩
 | [],_::_,h,_,_,_=>h.elim
 |_::_,[],h,_,_,_=>h.elim
def aBW {f8:Type} {R:J->f8->Prop} {l:List J} {m:List f8} (h:y9 R l m) {b:f8} (hb:b∈m):∃a,R a b:=by
 obtain ⟨i,hi⟩:=List.mem_iff_getElem?.1 hb;obtain ⟨a,_,ha⟩:=Rk h hi;exact ⟨a,ha⟩
def KS (n:Nat)
  (ih:∀t cs x,S t=M->ab0 enc P w base spare held n t cs=V x->∃xs,CR w cs xs/\kK P n t xs/\nE xs<=Rows.uptoBulk x.1) (total:Nat):
  ∀(fs:List Field) (off:Nat) (cs:fG) (ys:List (DataW H×List MemPlace)),xV P S total off fs=M->cs.length=total->
   y9 (λf y=>ab0 enc P w base spare held n f.type ((cs.drop f.offset).take (P.cellsOf f.type))=V y) fs ys->off<=total->
   ∃sy:bz,CR w (cs.drop off) sy.flatten/\y9 (λf zs=>kK P n f.type zs) fs sy/\nE sy.flatten<=Rows.uptoBulkAll (ys.map (·.1))
 | [],off,cs,ys,ht,hl,h2,_=>by
  simp[xV] at ht;refine ⟨[],?_,trivial,by simp[nE]⟩
  rw[p7 (by omega)]
  exact .nil
 |f::fs,off,cs,[],_,_,h2,_=>h2.elim
 |f::fs,off,cs,y::ys,ht,hl,h2,ho=>by
  simp only[xV,bG,sq] at ht;obtain ⟨⟨ht0,htt⟩,ht1⟩:=ht;obtain ⟨h0,h1⟩:=h2;obtain ⟨xs,c1,c2,c3⟩:=ih _ _ _ htt h0;have hle:∀(fs:List Field) (o:Nat),xV P S total o fs=M->o<=total:=by
   intro fs;induction fs with
   |nil=>intro o h;simp[xV] at h;omega
   |cons g gs ihg=>intro o h;simp only[xV,bG] at h;have:=ihg _ h.2;omega
  have hle':=hle fs _ ht1;obtain ⟨sy,d1,d2,d3⟩:=KS n ih total fs (off+P.cellsOf f.type) cs ys ht1 hl h1 hle';refine ⟨xs::sy,?_,⟨c2,d2⟩,?_⟩
  ·rw[ht0] at c1;have:cs.drop off=(cs.drop off).take (P.cellsOf f.type)++cs.drop (off+P.cellsOf f.type):=by
    rw[<-sw];exact (C4 _ _).symm
   rw[this];exact c1.append d1
  ·simp only[pX,jX,Rows.uptoBulkAll,MO];omega
def MR (n:Nat) (e:pJ) (he:S e=M)
  (ih:∀t cs x,S t=M->ab0 enc P w base spare held n t cs=V x->∃xs,CR w cs xs/\kK P n t xs/\nE xs<=Rows.uptoBulk x.1) (cs:fG):
  ∀(m k:Nat) (ys:List (DataW H×List MemPlace)),cs.length=(k+m)*P.cellsOf e->
   y9 (λi y=>ab0 enc P w base spare held n e ((cs.drop (i*P.cellsOf e)).take (P.cellsOf e))=V y) (List.range' k m) ys->
   ∃sy:bz,CR w (cs.drop (k*P.cellsOf e)) sy.flatten/\sy.length=m/\(∀zs∈sy,kK P n e zs)/\nE sy.flatten<=Rows.uptoBulkAll (ys.map (·.1))
 |0,k,ys,hl,h2=>by
  refine ⟨[],?_,rfl,by simp,by simp[nE]⟩
  rw[p7 (by simp at hl;omega)]
  exact .nil
 |m+1,k,[],_,h2=>by simp[A5,y9] at h2
 |m+1,k,y::ys,hl,h2=>by
  rw[A5] at h2;obtain ⟨h0,h1⟩:=h2;obtain ⟨xs,c1,c2,c3⟩:=ih _ _ _ he h0;obtain ⟨sy,d1,d2,d3,d4⟩:=MR n e he ih cs m (k+1) ys (by rw[hl];congr 1;omega) h1
  refine ⟨xs::sy,?_,by simp[d2],?_,?_⟩
  ·have:cs.drop (k*P.cellsOf e)=(cs.drop (k*P.cellsOf e)).take (P.cellsOf e)++cs.drop ((k+1)*P.cellsOf e):=by
    rw[fW,so,<-sw];exact (C4 _ _).symm
   rw[this];exact c1.append d1
  ·intro zs hz;rcases da.1 hz with rfl|hz
   ·exact c2
   ·exact d3 zs hz
  ·simp only[pX,jX,Rows.uptoBulkAll,MO];omega
def aIw (a:Addr) (k j:Nat) (h:a.spot=G\/0<k):(a.add k).add j=⟨a.block,a.off+k+j,G⟩:=by
 obtain ⟨b,o,s⟩:=a;by_cases hk:k=0
 ·subst hk;simp at h;subst h;by_cases hj:j=0<;>simp[Addr.add,hj]
 ·by_cases hj:j=0<;>simp[Addr.add,hk,hj]
def Lz (n:Nat) (e:pJ) (he:S e=M) (a:Addr)
  (ih:∀t cs x,S t=M->ab0 enc P w base spare held n t cs=V x->∃xs,CR w cs xs/\kK P n t xs/\nE xs<=Rows.uptoBulk x.1) (hs:0<P.cellsOf e):
  ∀(m k:Nat) (ys:List (DataW H×List MemPlace)),
   y9 (λi y=>((w.cells? base (a.add (i*P.cellsOf e)) (P.cellsOf e)).bind (ab0 enc P w base spare held n e))=V y) (List.range' k m) ys->
   ∃(rows:bz) (vs:fG),CR w vs rows.flatten/\vs.length=m*P.cellsOf e/\(∀j v,vs[j]? =V v->w.cell? ⟨a.block,a.off+k*P.cellsOf e+j,G⟩=V v)/\rows.length=m/\(∀zs∈rows,kK P n e zs/\zs.length=P.cellsOf e)/\Ap rows<=Rows.uptoBulkAll (ys.map (·.1))/\(k=0->0<m->a.spot=G)
 |0,k,ys,h2=>⟨[],[],.nil,by simp,λj v hv=>(by simp at hv),rfl,by simp,by simp[Ap],by simp⟩
 |m+1,k,[],h2=>by simp[A5,y9] at h2
 |m+1,k,y::ys,h2=>by
  rw[A5] at h2;obtain ⟨h0,h1⟩:=h2;obtain ⟨rows,vs,d1,dl,dc,d2,d3,d4,d5⟩:=Lz n e he a ih hs m (k+1) ys h1;cases hc:w.cells? base (a.add (k*P.cellsOf e)) (P.cellsOf e) with
  |none=>simp[hc] at h0
  |some cs=>
   simp only[hc,ak] at h0;obtain ⟨xs,c1,c2,c3⟩:=ih _ _ _ he h0;unfold World.cells? at hc;split at hc
   ·have gS:=Bn hc;have hlen:cs.length=P.cellsOf e:=by have:=Qk gS;simpa using this.symm
    have oS:∀j v,cs[j]? =V v->w.cell? ((a.add (k*P.cellsOf e)).add j)=V v:=by
     intro j v hj;obtain ⟨i,hi,hv⟩:=Rk gS hj;have uX:i=j:=by
      have:=(bO.1 hi);obtain ⟨q1,q2⟩:=this;simpa using q2.symm
     rw[<-uX];exact hv
    have aEy:a.spot=G\/0<k*P.cellsOf e:=by
     by_cases hk:0<k*P.cellsOf e
     ·exact .inr hk
     ·have hk0:k*P.cellsOf e=0:=by omega
      have h00:=oS 0 (cs[0]'(by omega)) (by simp)
      rw[hk0] at h00;simp only[Addr.add,aw] at h00;unfold World.cell? at h00;split at h00
      ·split at h00
       ·simp at h00
       ·rename_i q;left;simpa using q
      ·simp at h00
    refine ⟨xs::rows,cs++vs,?_,?_,λj v hj=> ?_,by simp[d2],?_,?_,?_⟩
    ·rw[pX];exact c1.append d1
    ·rw[gy,hlen,dl,fW];omega
    ·by_cases gn:j<cs.length
     ·rw[pd gn] at hj;have h:=oS j v hj;rw[aIw a _ j aEy] at h;exact h
     ·rw[nF (by omega)] at hj
      have h:=dc _ v hj;rw[hlen] at h;rw[hlen] at gn;rw[fW,so] at h;rw[show a.off+k*P.cellsOf e+j=a.off+(k*P.cellsOf e+P.cellsOf e)+(j-P.cellsOf e) by omega]
      exact h
    ·intro zs hz;rcases da.1 hz with rfl|hz
     ·exact ⟨c2,by rw[<-c1.length,hlen]⟩
     ·exact d3 zs hz
    ·simp only[Ap,jX,Rows.uptoBulkAll];omega
    ·intro hk0 _;rcases aEy with h|h
     ·exact h
     ·subst hk0;simp at h
   ·simp at hc
def azM {b o n:Nat} {rows:bz} (h:CR w vs rows.flatten) (hl:vs.length=n*s) (hc:∀j v,vs[j]? =V v->w.cell? ⟨b,o+j,G⟩=V v) (hn:rows.length=n) (hn0:0<n) (hs:0<s) (hu:∀r∈rows,r.length=s) (jr:n<=c):
  VA (wG w).get lH (uc w.heap.size (.slice (V ⟨b,o,G⟩) n c)) (.rY e s rows.length rows)/\KZ (uc w.heap.size (.slice (V ⟨b,o,G⟩) n c))=I:=by
 have Ai:0<n*s:=Nat.mul_pos hn0 hs;have hb:∃cur et fz,w.heap[b]? =V (.cells cur et fz):=by
  have h0:=hc 0 (vs[0]'(by omega)) (by simp)
  unfold World.cell? at h0;split at h0
  ·rename_i cur et fz q;exact ⟨cur,et,fz,q⟩
  ·simp at h0
 obtain ⟨cur,et,fz,hb⟩:=hb;have dq:b<w.heap.size:=(oj.1 hb).1;have GA:∀j v,vs[j]? =V v->cur[o+j]? =V v:=λj v hj=>by
  have:=hc j v hj;unfold World.cell? at this;rw[hb] at this;simpa using this
 have hle:o+n*s<=cur.size:=by
  have h0:=GA (n*s-1) (vs[n*s-1]'(by omega)) (by simp)
  have:=(oj.1 h0).1;omega
 have heq:(cur.toList.drop o).take (n*s)=vs:=by
  apply vV;intro j;rw[eZ];split
  ·rename_i hj;rw[fp];have:=GA j (vs[j]'(by omega)) (by simp)
   rw[l5,this];simp
  ·rename_i hj;rw[qP (by omega)]
 have himg:uc w.heap.size (.slice (V ⟨b,o,G⟩) n c)= .sl b o n (.k c):=by
  show (if n=0 then _ else if b<w.heap.size/\n<=c then SV.sl b o n (.k c) else .undef)=_
  rw[aC (by omega),aG ⟨dq,jr⟩]
 have hwin:((cur.toList.map (uc w.heap.size)).drop o).take (n*s)=vs.map (uc w.heap.size):=by
  rw[<-A9,<-vm,heq]
 have hF:jD ((wG w).get b) o (n*s)=V (0,cur.toList.map (uc w.heap.size)):=by
  rw[Jv,hb];show aT (xc (((cur.toList.map (uc w.heap.size)).drop o).take (n*s))) (V (0,cur.toList.map (uc w.heap.size))) G=_;rw[hwin,cE,aG (MH λj x hx=> ?_)]
  rw[nQ] at hx;cases hv:vs[j]? with
  |none=>rw[hv] at hx;cases hx
  |some v=>rw[hv] at hx;cases hx;exact h.2 v (bQ hv)
 rw[himg];subst hn;exact ⟨.sl rfl hF jr (λh=>by cases h) hu (by simpa using hle) (by rw[hwin];exact h.1),rfl⟩
def L9 {a:Z Addr} {F:Hf}:VA F lH (uc nb (.slice a 0 c)) (.rY e s 0 [])/\KZ (uc nb (.slice a 0 c))=I:=by
 have h:uc nb (.slice a 0 c)=if a=G/\c=0 then SV.cq else .sle:=by simp[uc]
 rw[h];split
 ·exact ⟨.nil _ _ _,rfl⟩
 ·exact ⟨.sle _ _,rfl⟩
def RX (hP:∀t,S t=M->Lq P S t=M):∀(n:Nat) (t:pJ) (cs:fG) (x:DataW H×List MemPlace),S t=M->ab0 enc P w base spare held n t cs=V x->
  ∃xs,CR w cs xs/\kK P n t xs/\nE xs<=Rows.uptoBulk x.1
 |0,_,_,_,_,h=>by simp[ab0] at h
 |n+1,t,cs,x,dq,h=>by
  have ih:=RX hP n;have sg:=hP t dq;unfold ab0 at h;unfold Lq at sg;split at h
  ·rename_i b hu;simp at h;subst h;exact ⟨[.bool b],.one (.lit (.bool b)) rfl,by simp[kK,hu],by simp[nE,OS,Rows.uptoBulk]⟩
  ·rename_i k k' i hu;split at h
   ·rename_i hc;obtain ⟨rfl,hw⟩:=hc;simp at h;subst h;exact ⟨[.int k' i],.one (.lit (.int _ (.lit _))) rfl,by simp[kK,hu,hw],by simp[nE,OS,Rows.uptoBulk]⟩
   ·simp at h
  ·rename_i k k' i hu;rw[hu] at sg;cases sg
  ·rename_i s hu;split at h
   ·rename_i hc;simp at h;subst h;exact ⟨[.str s],.one (.lit (.str _)) rfl,by simp[kK,hu,hc],by simp[nE,OS,Rows.uptoBulk]⟩
   ·simp at h
  ·rename_i hu;rw[hu] at sg;cases sg
  ·rename_i e a hu;rw[hu] at sg;cases sg
  ·rename_i e hu;simp at h;subst h;exact ⟨[.rY e (P.cellsOf e) 0 []],.one (L9 (a:=G) (c:=0)).1 (L9 (F:=λ_=>G) (e:=0) (s:=0)).2,by simp only[kK,hu];exact ⟨[],rfl,λr hr=>by cases hr⟩,by simp[nE,OS,Ap,Rows.uptoBulk]⟩
  ·rename_i e a len cap hu;simp only at h;split at h
   ·rename_i hc;cases hr:(aa1 len).mapM λi=>(w.cells? base (a.add (i*P.cellsOf e)) (P.cellsOf e)).bind (ab0 enc P w base spare held n e) with
    |none=>simp[hr] at h
    |some ys=>
     simp only[hr,ak,wc] at h;obtain ⟨rest,_,rfl⟩:=h;simp only[hu,bG,jA] at sg;obtain ⟨he,hs⟩:=sg;have h2:=Bn hr;rw[Lc] at h2;obtain ⟨rows,vs,d1,dl,dc,d2,d3,d4,d5⟩:=Lz n e he a ih hs len 0 ys h2;have key:VA (wG w).get lH (uc w.heap.size (.slice (V a) len cap)) (.rY e (P.cellsOf e) rows.length rows)/\KZ (uc w.heap.size (.slice (V a) len cap))=I:=by
      by_cases zt:len=0
      ·subst zt;rw[v8 d2];exact L9
      ·have hsp:=d5 rfl (by omega)
       obtain ⟨ab,ao,asp⟩:=a;simp at hsp;subst hsp;exact azM d1 dl (λj v hj=>by have:=dc j v hj;simpa using this) d2 (by omega) hs (λr hr=>(d3 r hr).2) hc.2.1
     refine ⟨[.rY e (P.cellsOf e) rows.length rows],.one key.1 key.2,?_,?_⟩
     ·simp only[kK,hu];exact ⟨rows,rfl,λr hr=>(d3 r hr).1⟩
     ·simp only[nE,OS,Rows.uptoBulk];omega
   ·simp at h
  ·rename_i fs hu;split at h
   ·rename_i hl;simp only[wc] at h;obtain ⟨ys,hm,rfl⟩:=h;simp only[hu] at sg;obtain ⟨sy,d1,d2,d3⟩:=KS n ih _ fs.toList 0 _ ys sg hl (Bn hm) (uq _);exact ⟨sy.flatten,by simpa using d1,by simp only[kK,hu];exact ⟨sy,rfl,d2⟩,by simp only[Rows.uptoBulk];omega⟩
   ·simp at h
  ·rename_i m e hu;split at h
   ·rename_i hl;simp only[wc] at h;obtain ⟨ys,hm,rfl⟩:=h;simp only[hu,sq,bG] at sg;have h2:=Bn hm;rw[Lc] at h2;obtain ⟨sy,d1,d2,d3,d4⟩:=MR n e sg.2 ih _ m 0 ys (by rw[hl,sg.1];simp) h2
    exact ⟨sy.flatten,by simpa using d1,by simp only[kK,hu];exact ⟨sy,rfl,d2,d3⟩,by simp only[Rows.uptoBulk];omega⟩
   ·simp at h
  all_goals first
   |(rename_i hu;rw[hu] at sg;cases sg;done)
   |(cases h;done)
mutual
def Tc:AV->Prop
 | .lit (.int k (.lit n))=>(Lit.int k n).wf=M
 | .lit (.str s)=>s.size<=maxLen
 | .sl _ _ _ _ rows=>Ek rows
 |_=>True
def Ek:bz->Prop
 | []=>True
 |r::rs=>yR r/\Ek rs
def yR:bb->Prop
 | []=>True
 |x::xs=>Tc x/\yR xs
end
def agH {ys:bb} (h:yR xs) (k:yR ys):yR (xs++ys):=by
 induction xs with
 |nil=>exact k
 |cons x xs ih=>exact ⟨h.1,ih h.2⟩
def akN {rows:bz} (h:∀r∈rows,yR r):Ek rows:=by
 induction rows with
 |nil=>trivial
 |cons r rs ih=>exact ⟨h r (by simp),ih λx hx=>h x (by simp[hx])⟩
def K1 {rows:bz} (h:∀r∈rows,yR r):yR rows.flatten:=by
 induction rows with
 |nil=>trivial
 |cons r rs ih=>exact agH (h r (by simp)) (ih λx hx=>h x (by simp[hx]))
def acT:∀(n:Nat) (t:pJ) (xs:bb),kK P n t xs->yR xs
 |0,_,_,h=>h.elim
 |n+1,t,xs,h=>by
  have ih:=acT n;unfold kK at h;split at h
  ·obtain ⟨b,rfl⟩:=h;exact ⟨trivial,trivial⟩
  ·obtain ⟨b,rfl,hw⟩:=h;exact ⟨hw,trivial⟩
  ·obtain ⟨b,rfl,hw⟩:=h;exact ⟨hw,trivial⟩
  ·obtain ⟨rows,rfl,hr⟩:=h;exact ⟨akN λr h=>ih _ _ (hr r h),trivial⟩
  ·obtain ⟨sy,rfl,h2⟩:=h;exact K1 λr hr=>by obtain ⟨f,hf⟩:=aBW h2 hr;exact ih _ _ hf
  ·obtain ⟨sy,rfl,_,h2⟩:=h;exact K1 λr hr=>ih _ _ (h2 r hr)
  ·exact h.elim
def aHo {en:J->bb} {rows:bz} (h:∀r∈rows,∃x,r=en x):∃ys:List J,rows=ys.map en:=by
 induction rows with
 |nil=>exact ⟨[],rfl⟩
 |cons r rs ih=>
  obtain ⟨y,rfl⟩:=h r (by simp)
  obtain ⟨ys,rfl⟩:=ih λx hx=>h x (by simp[hx])
  exact ⟨y::ys,rfl⟩
def AR (W:World) (P:J5) (v:C') (x:AV):Prop:=VA (wG W).get lH (agc W.heap.size v) x/\VR (gW P W) v (agc W.heap.size v)
def aIt (hP:∀t,S t=M->Lq P S t=M) (ht:S t=M) {d:DataW H} (h:DataW.Trod enc P w base spare held t v d ps) (hv:v.cells.toList= [v]):
  ∃x n,AR w P v x/\kK P n t [x]/\nE [x]<=Rows.uptoBulk d:=by
 obtain ⟨n,hn⟩:=h;obtain ⟨xs,h1,h2,h3⟩:=RX hP n t _ _ ht hn;rw[hv] at h1;obtain ⟨h1,hu⟩:=h1;cases h1 with
 |cons hd ht=>
  cases ht;have e:agc w.heap.size v=uc w.heap.size v:=by
   cases v<;>first|rfl|(have:=hu _ (gL.2 rfl);cases this;done)
  exact ⟨_,n,⟨by rw[e];exact hd,by rw[e];exact axz v⟩,h2,h3⟩
end
end
end Go.bM
namespace Go.bM
open Go.RowKit Go.ChangeShapes Go.Proofs.YtbnkhmoelnfjoaaGreat
variable {E:Env} {f:FuncId} {fn:Func} {s:ChangeSpec} {tb t:pJ} {W:World} {before:List MemPlace} {base:Nat} {v:C'}
section
section
variable {H:Type} {enc:pJ×C'->H} {P:J5}
def KR (hl:laidOutB P=M) {W W':World} {sp:Nat->Bool}:∀{ts:List pJ} {vs:fG} {ds:List (DataW H)} {ps:List MemPlace},
  (∀t∈ts,P.readableRec t=M/\t<P.types.size)->DataW.TrodAll enc P W 0 (λ_=>M) M ts vs ds ps->Below W.heap.size W W'->(∀p∈ps,p.block<W.heap.size)->(∀p∈ps,sp p.block=M)->
  DataW.TrodAll enc P W' 0 sp M ts vs ds ps
 | [],_,_,_,_,h,_,_,_=>by
  obtain ⟨rfl,rfl,rfl⟩:=trodAll_nil h;exact rfl
 |t::ts,_,_,_,ht,h,hb,dq,hsp=>by
  obtain ⟨v,vs,d,ds,p,q,rfl,rfl,rfl,h1,h2⟩:=trodAll_cons h;refine ⟨p,q,?_,KR hl (λt h=>ht t (by simp[h])) h2 hb (λx hx=>dq x (by simp[hx])) (λx hx=>hsp x (by simp[hx])),rfl⟩
  exact WideElems.Trod_stays hl (ht t (by simp)).1 (ht t (by simp)).2 h1 (λx hx=>hb.same (dq x (by simp[hx]))) (λx hx=>hsp x (by simp[hx]))
def akl {W:World}:∀{vs:fG} {xs:bb},y9 (AR W P) vs xs->dH (wG W).get lH (vs.map (agc W.heap.size)) xs/\mZ (gW P W) vs (vs.map (agc W.heap.size))
 | [],[],_=>⟨.nil,.nil⟩
 |v::vs,x::xs,h=>⟨.cons h.1.1 (akl h.2).1,.cons h.1.2 (akl h.2).2⟩
 | [],_::_,h=>h.elim
 |_::_,[],h=>h.elim
def law_contract [Kv E] (hE:∀W,fJ E (gW E.P W)) (Ec:aqn E (.fn (.func f) [] [])=M) (hl:laidOutB E.P=M) (mH:(fn.params.toList.all λt=>E.P.readableRec t&&iL (t<E.P.types.size))=M) (QY:fn.resultTypes= #[tb]) (htb:E.P.underlying tb=V .bool) (hv:s.vars= []) (Mm:∀ds:List (DataW H),ds.length=fn.params.size->s.fn H ds={results:= [.lit (.bool M)],args:=ds}) {args:jw} {ds gs:List (DataW H)} (hW:DataW.Whole enc E.P fn.params.toList s.vars I W args.toList ds gs before) (aqj:∃xs:bb,iy E f [] xs (.bool M) []/\y9 (AR W E.P) args.toList xs):
  Calls E.P f args W λe W'=>∃v,e= .returned v/\s.post enc E.P fn I M I I W args v W':=by
 obtain ⟨xs,hs,h2⟩:=aqj;obtain ⟨k1,k2⟩:=akl h2;have hc:=arb (hE W) hs Ec k1 k2;rw[Array.toArray_toList] at hc;refine hc.mono ?_;rintro e W' ⟨rfl,hb⟩;refine ⟨_,rfl,?_⟩;have hW':=hW;obtain ⟨p,q,hA,hV,rfl,hfz,Fs⟩:=hW;rw[hv] at hV;obtain ⟨rfl,rfl⟩:=trodVars_none hV;have rB:ds.length=fn.params.size:=by
  have:∀{ts:List pJ} {vs:fG} {ds:List (DataW H)} {ps:List MemPlace},DataW.TrodAll enc E.P W 0 (λ_=>M) M ts vs ds ps->ds.length=ts.length:=by
   intro ts;induction ts with
   |nil=>intro vs ds ps h;obtain ⟨rfl,rfl,rfl⟩:=trodAll_nil h;rfl
   |cons t ts ih=>intro vs ds ps h;obtain ⟨v,vs,d,ds,p,q,rfl,rfl,rfl,h1,h2⟩:=trodAll_cons h;simp[ih h2]
  simpa using this hA
 have hf:=Mm (ds++ []) (by simpa using rB)
 have dq:∀x∈p,x.block<W.heap.size:=λx hx=>hW'.lt x (by simp[hx])
 have htt:∀t∈fn.params.toList,E.P.readableRec t=M/\t<E.P.types.size:=λt ht=>by
  have:=jJ.1 mH t ht;simpa using this
 have hold:∀x∈p,(λb=>iL (b<W.heap.size)) x.block=M:=λx hx=>by simpa using dq x hx
 refine ⟨ds,[],p++ [],[],p,[],hW',?_,?_,?_,hb.frame _,λh=>by cases h⟩
 ·rw[hf,QY];exact trodAll_cons_mk (shut_bool htb _) trodAll_mk0
 ·rw[hf];simp only[r4];exact KR hl htt hA hb dq hold
 ·rw[hf,hv];exact rfl
def akD {e:pJ} (hu:P.underlying t=V (.slice e)) (h:Value.okWide P W .any base t v):v.cells.toList= [v]:=by
 simp only[Value.okWide,hu,Cell.okWide,Cell.ok] at h;split at h<;>first|rfl|(simp_all;done)|(exact h.elim)
end
end
end Go.bM
section
namespace Go.bM
open Go.RowKit
variable {E:Env} {nt:Nat} {g g1 g2:Gh} {m m1 m2 m':MS} {a a1 a2:Act} {w w1 w2:World} {e:Ex} {P P1 P2:Ex->MS->Prop} {c x y:P'}
variable {ops:eP} {o:S'} {it:Ew} {iid i:Nat} {seen:bJ} {es:ig} {v:SV}
structure MS.Le (m1 m2:MS):Prop where
 T:∀x v,m1.T x=V v->m2.T x=V v
 H:∀x o,m1.H x=V o->m2.H x=V o
 nx:m1.nx=m2.nx
def Now.azy (h:Now E nt g m a w) (k:m1.Le m):Now E nt g m1 a w:=⟨h.env,⟨h.fr.sz,λt x hx=>h.fr.tm t x (k.T t x hx)⟩,h.hr.sub k.H,λx hx=>h.fresh x (by rw[<-k.nx];exact hx)⟩
def xJ.azy (h:xJ g m w a g1 m2 w1 a1) (k:m1.Le m2):xJ g m w a g1 m1 w1 a1:=⟨{h.fr with own:=λb hb hm=>h.fr.own b hb (let ⟨i,o,c,h1,h2⟩:=hm;⟨i,o,c,k.H i o h1,h2⟩)},h.df,h.ro,by rw[k.nx];exact h.nx⟩
def mC (E:Env) (nt:Nat) (c:P') (m:MS) (P:Ex->MS->Prop):Prop:=codeOk c=M->∀(ro:cD) (k:Nat) (g:Gh) (a:Act) (w:World) (Q:Exit->Act->World->Prop),Now E nt g m a w->
 (∀g' a' w' x e m',P e m'->ExR g' e x->Now E nt g' m' a' w'->xJ g m w a g' m' w' a'->Q x a' w')->wpX (wC ro) k E.P c Q a w
namespace mC
def of (h:gj E nt c m e m1) (k:m2.Le m1) (hp:P e m2):mC E nt c m P:=λok ro n g a w Q hn hq=>h ok ro n g a w Q hn λg' a' w' x hx n' t'=>hq g' a' w' x e m2 hp hx (n'.azy k) (t'.azy k)
def toT (h:mC E nt c m λx y=>x=e/\y=m1):gj E nt c m e m1:=λok ro n g a w Q hn hq=>h ok ro n g a w Q hn λg' a' w' x e' m' hp hx n' t'=>by
 obtain ⟨rfl,rfl⟩:=hp;exact hq g' a' w' x hx n' t'
def seq (h1:mC E nt x m P1) (h2:∀e m1,P1 e m1->(e= .normal/\mC E nt y m1 P)\/(tE e=I/\P e m1)):mC E nt (.seq x y) m P:=λok ro k g a w Q n h=>
 wpIn_seq (sA (h1 (okL ok) ro k g a w _ n λg1 a1 w1 x e m1 hp hx n1 t1=>by
  rcases h2 e m1 hp with ⟨rfl,h2⟩|⟨he,h2⟩
  ·cases hx;exact sA (h2 (okR ok) ro k g1 a1 w1 Q n1 λg2 a2 w2 y e m2 hp hy n2 t2=>h g2 a2 w2 y e m2 hp hy n2 (t1.trans t2))
  ·have:=h g1 a1 w1 x e m1 h2 hx n1 t1;cases hx<;>first|exact this|cases he))
def loop (h1:mC E nt c m P1) (h2:∀e m1,P1 e m1->(e= .normal/\mC E nt (.loop c) m1 P)\/(tE e=I/\P e m1)):mC E nt (.loop c) m P:=λok ro k g a w Q n h=>
 BY (sA (h1 ok ro k g a w _ n λg1 a1 w1 x e m1 hp hx n1 t1=>by
  rcases h2 e m1 hp with ⟨rfl,h2⟩|⟨he,h2⟩
  ·cases hx;exact h2 ok ro k g1 a1 w1 Q n1 λg2 a2 w2 y e m2 hp hy n2 t2=>h g2 a2 w2 y e m2 hp hy n2 (t1.trans t2)
  ·have:=h g1 a1 w1 x e m1 h2 hx n1 t1;cases hx<;>first|exact this|cases he))
def block {id:Nat} (h1:mC E nt c m λe m1=>P (leave id e) m1):mC E nt (.block id c) m P:=λok ro k g a w Q n h=>
 wpIn_block (sA (h1 ok ro k g a w _ n λg1 a1 w1 x e m1 hp hx n1 t1=>by
  have key:∀y,ExR g1 (leave id e) y->Q y a1 w1:=λy hy=>h g1 a1 w1 y _ m1 hp hy n1 t1
  cases hx with
  |normal=>exact key _ .normal
  |ret=>exact key _ .ret
  |zp hv=>exact key _ (.zp hv)
  |exit i=>
   rw[SX] at key;show (if i=id then Q .normal a1 w1 else Q (.exit i) a1 w1)
   split
   ·rename_i hi;rw[aG hi] at key;exact key _ .normal
   ·rename_i hi;rw[aC hi] at key;exact key _ (.exit i)))
end mC
def mC.next {id:Nat} {jf since last c0:Nat} (hi:ops[0]? =V o) (gu:o.op= .next it I) (hw:j0 ops.toList o m.T=V M) (hd:mX nt o.dst=M) (hx:dB m.T it=V (.ptr iid 0)) (ji:m.H iid=V (.mapIter (V jf) since seen last)) (aAT:m.H jf=V (.map es c0)) (hit:iterM since seen last c0 es=M) (hend:qw seen es= []->∃m1,lG E nt ops 1 ⟨eG m.T o.dst (.dr [.bool I]),m.H,m.nx⟩ m1/\P .normal m1) (aqa:∀e∈qw seen es,∃m1,lG E nt ops 1 ⟨eG m.T o.dst (.dr [.bool M,e.1,e.2.1]),jn m.H (iid,V (.mapIter (V jf) since (seen++ [e.2.2]) c0)),m.nx⟩ m1/\P .normal m1):mC E nt (.region id ops I) m P:=λok ro k g a w Q n h=>by
 have dq:0<ops.size:=by
  by_cases hc:0<ops.size
  ·exact hc
  ·rw[GV (by omega)] at hi;cases hi
 refine wpIn_region ?_;show wpOpsIn (wC ro) k E.P ops Q (aa1 ops.size) a w;rw[Lc,show ops.size=(ops.size-1)+1 by omega,A5,wpOpsIn_cons]
 have hu:=s9 n.fr hx;generalize hue:a.eval it=u at hu;cases hu with
 | @ptr _ _ b c hρ=>
 obtain ⟨hold,HK⟩:=apJ hit;obtain ⟨hbs,rfl,bm,sa,h1,h2,h3⟩:=n.hr.at ji hρ;obtain ⟨bm',y,rfl,h4⟩:=h3;obtain ⟨_,ms,m1,m2⟩:=n.hr.at aAT h4;have q6:∀z∈ms.toList,z.born<since:=λz hz=>by
  obtain ⟨e,he,h5⟩:=m2.mem z hz;rw[h5.2.2];exact hold e he
 have zt:=akI h2 m2;refine aDn hi (P3 n.fr hw) ?_;rw[Oper.semAt_eq _ _ _ (λc' h=>by rw[gu] at h;cases h)]
 have rest:∀{m1:MS} {g1:Gh} {a1:Act} {w1:World} {m':MS},lG E nt ops 1 m1 m'->P .normal m'->Now E nt g1 m1 a1 w1->xJ g m w a g1 m1 w1 a1->wpOpsIn (wC ro) k E.P ops Q (List.range' (0+1) (ops.size-1)) a1 w1:=λhT hP hn ht=>
  hT ro k _ _ _ Q hn λg2 a2 w2 n2 t2=>h g2 a2 w2 _ _ _ hP .normal n2 (ht.trans t2)
 rcases run_next_at (P:=E.P) w o.type b bm' since last sa ms c0 h1 m1 q6 HK with ⟨h0,hn⟩|⟨e,he,w1,hw1,hn⟩
 ·obtain ⟨m',hT,hP⟩:=hend (zt.aHF.1 (v8 (by simpa using h0)))
  have hex:(execOp a.eval o).run E.P w= .ok (.value (.tuple #[.bool I])) w:=by
   simp only[execOp,gu,hue,nH,D',hn,E',I']
  rw[hex];exact rest hT hP ⟨n.env,n.fr.put hd (.dr (.cons (.bool I) .nil)),n.hr,n.fresh⟩ ⟨.refl _ _ _,put_defers _ _ _,λ_ _=>rfl,de _⟩
 ·obtain ⟨x0,Me,aAV⟩:=zt.mem e he;obtain ⟨m',hT,hP⟩:=aqa x0 Me;have hex:(execOp a.eval o).run E.P w= .ok (.value (.tuple #[.bool M,e.key,e.val])) (ac7 w1 b (.mapIter (V bm') since (sa.push e.born) c0)):=by
   simp only[execOp,gu,hue,nH,D',hn,E',I']
  rw[hex];have OG:w1.heap=w.heap/\w1.os=w.os/\w1.tape=w.tape/\w1.output=w.output:=by
   rcases hw1 with rfl|rfl
   ·exact ⟨rfl,rfl,rfl,rfl⟩
   ·exact ⟨rfl,rfl,rfl,rfl⟩
  obtain ⟨t1,t2⟩:=HR.write n.hr (o':=.mapIter (V jf) since (seen++ [x0.2.2]) c0) (w':=ac7 w1 b (.mapIter (V bm') since (sa.push e.born) c0)) ji hρ (by simp[ac7,OG.1]) (λk hk=>by simp[ac7,OG.1,Array.getElem?_setIfInBounds_ne (wO hk)])
   ⟨rfl,V bm',sa.push e.born,by simp[ac7,OG.1,hbs],by rw[Array.toList_push,h2,aAV.2.2],bm',y,rfl,h4⟩ OG.2.1 OG.2.2.1 OG.2.2.2
  exact rest hT hP ⟨n.env,n.fr.put hd (.dr (.cons (.bool M) (.cons aAV.1 (.cons aAV.2.1 .nil)))),t1,n.fresh⟩ ⟨t2,put_defers _ _ _,λ_ _=>rfl,de _⟩
def qA.entry (hi:ops[i]? =V o) (gu:o.op= .entry it) (hw:j0 ops.toList o m.T=V M) (hd:mX nt o.dst=M) (hx:dB m.T it=V (.ptr iid 0)) (hv:MC m.H iid=V v):
  lG E nt ops (i+1) ⟨eG m.T o.dst v,m.H,m.nx⟩ m'->lG E nt ops i m m':=λhT ro k g a w Q n h=>by
 have dq:i<ops.size:=by
  by_cases hc:i<ops.size
  ·exact hc
  ·rw[GV (by omega)] at hi;cases hi
 rw[show ops.size-i=(ops.size-(i+1))+1 by omega,A5,wpOpsIn_cons]
 have hu:=s9 n.fr hx;generalize hue:a.eval it=u at hu;cases hu with
 | @ptr _ _ b c hρ=>
 unfold MC at hv;split at hv;rotate_left
 ·cases hv
 rename_i m0 since seen last ji;split at hv;rotate_left
 ·cases hv
 rename_i es c0 aAT;obtain ⟨hc,HI⟩:=ba hv;have hc:=(beq_iff _ _).1 hc;subst hc;obtain ⟨bo,h1,h2⟩:=aq HI;obtain ⟨_,rfl,bm,sa,q1,q2,q3⟩:=n.hr.at ji hρ;obtain ⟨bm',y',rfl,q4⟩:=q3;obtain ⟨_,ms,m1,m2⟩:=n.hr.at aAT q4;obtain ⟨e,e1,e2⟩:=Te m2 h2;have aK:sa.back? =V bo:=by rw[<-Array.getLast?_toList,q2];exact SY h1
 refine aDn hi (P3 n.fr hw) ?_;rw[Oper.semAt_eq _ _ _ (λc' h=>by rw[gu] at h;cases h)]
 have hf:ms.find? (·.born==bo)=V e:=by rw[<-Array.find?_toList];exact e1
 have hn:(Instr.entry (.pointer (V ⟨b,0,G⟩))).run E.P w= .ok (.tuple #[e.key,e.val]) w:=by
  simp only[Instr.entry,getObj,D',Sem.run,q1,m1,Result.andThen,aK,ia,ax,au,hf];rfl
 have hex:(execOp a.eval o).run E.P w= .ok (.value (.tuple #[e.key,e.val])) w:=by
  simp only[execOp,gu,hue,nH,D',hn,E',I']
 rw[hex];exact hT ro k g _ w Q ⟨n.env,n.fr.put hd e2,n.hr,n.fresh⟩ λg2 a2 w2 n2 t2=>h g2 a2 w2 n2 ((⟨.refl _ _ _,put_defers _ _ _,λ_ _=>rfl,de _⟩:xJ g m w a g ⟨eG m.T o.dst v,m.H,m.nx⟩ w (a.put o.dst (.tuple #[e.key,e.val]))).trans t2)
end Go.bM
end
namespace Go.Proofs.YtbnkhmoelnfjoaaGreat
open Go.bM
def tyT:Tr TI:=aCG Tryz.prog 312
def aBj:Tr Func:=aEH Tryz.prog
def aoI:abd Tryz.prog tyT aBj:=aIZ 312 203 (fe:=Tryz.f203) (by kernel_rfl) (by kernel_rfl) Tryz.func203 (by kernel_rfl) (by kernel_rfl) (by kernel_rfl)
end Go.Proofs.YtbnkhmoelnfjoaaGreat
end
