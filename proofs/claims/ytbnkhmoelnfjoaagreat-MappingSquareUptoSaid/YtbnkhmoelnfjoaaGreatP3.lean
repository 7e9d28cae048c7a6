/- Part. -/
import Derived.Test.YtbnkhmoelnfjoaaGreatP2
import Derived.KernelRfl
import Derived.Below
import Derived.Carry
import Derived.OpenShut
import Derived.JoinedCond
import Derived.Test.YtbnkhmoelnfjoaaGreatRows
import Derived.WalkKit
import Derived.ProofKit
import Derived.Deep.DeepHandedRow
set_option linter.all false
open Option renaming some->V,none->A
open List renaming length->O,replicate->Va,range->DO
open Bool renaming true->I,false->U
open Nat renaming beq->Cz,ble->D',add->E',mul->N',succ->S6,mod->Ht,div->Ys
open Go renaming TypeId->Ey,Code->MJ,Oper->pw,Value->O',Program->Y',Operand->S',ResultVar->NR
open Decidable renaming decide->A'
open Go.DataW renaming trod->Nu
open Array renaming replicate->ad6
noncomputable section
namespace Go.bM
def bv {p:Prop} (h:p:=by kernel_rfl):p:=h
variable {k K sz e e2 AK n K2 f j t:Nat} {w:LS} {ae L0:Ow} {bs:de} {v:SV} {x y:AV} {ts:bQ} {cs:List (Nat×Nat)} {z:Bool} {l l2:eG} {vs:bj} {Q Q':bB} {R:bg} {o:fN} {sh:Sh} {Y:Type} {ob:Prop->cF} {q:List cF×LS}
section
variable {F F':Hf} {g g':Gb} {Z:Nat->Ow} {c:Nat->cC} {s s':LS} {T:Tf} {H:Hf} {E:Env} {pn:Nat->Bool}
def cvX (w b:Bx):Bx:=
 match w,cvB w b with
 | .bG _ _ _ l' _ o',.bG z e s l Q o=>.bG z e s (aT (S2 l l' Q) l' l) Q (match o' with| []=> []|_=>o)
 |_,b=>b
def ajw {w b:Bx} (q:fg F g k b ae):fg F g k (cvX w b) ae:=by
 have q:=aMU (w:=w) q;unfold cvX;generalize cvB w b=b' at q;split
 .rename_i l' _ o' z e s l Q o;rw[cx];cases q with
  |nil hb=>cases o'<;>exact .nil hb
  |bG hb hz hu hc q1 ho=>
   refine .bG hb hz hu hc ?_ ?_
   .split
    .rename_i h;exact aoF h q1
    .exact q1
   .split
    .exact λp hp=>by cases hp
    .exact ho
 .exact q
def cvT (w:fN) (ts:fN):fN:=w.map λp=>(p.1,cv p.2 ((lk p.1 ts).getD .undef))
def OA (bs:de):de->G de
 | []=>V []
 |p::l=>cq (lk p.1 bs) (OA bs l) λb r=>V ((p.1,cvX p.2 b)::r)
def apN {bs:de} {k:Nat} {b':Bx}:∀{w r:de},OA bs w=V r->lk k r=V b'->∃w b,lk k bs=V b/\b'=cvX w b
 | [],r,h,hk=>by cases h;cases hk
 |p::l,r,h,hk=>by
  let ⟨b,r',h1,h2,h⟩:=bV h;cases h;rw[dH] at hk;split at hk
  .rename_i e;cases hk;exact ⟨p.2,b,e ▸ h1,rfl⟩
  .exact apN h2 hk
def aAz {ts:fN} {t:Nat} {y:AV}:∀{w:fN},lk t (cvT w ts)=V y->∃w,y=cv w ((lk t ts).getD .undef)
 | [],h=>by cases h
 |p::l,h=>by
  rw[show cvT (p::l) ts=(p.1,cv p.2 ((lk p.1 ts).getD .undef))::cvT l ts from rfl,dH] at h;split at h
  .rename_i e;cases h;exact ⟨p.2,by rw[e]⟩
  .exact aAz h
def ahR (w:AV):cv w .undef= .undef:=by cases w<;>rfl
def Rel.cv (r:Rel F g Z c s T H) (h:OA s.bs w.bs=V bs):Rel F g Z c ⟨cvT w.ts s.ts,bs⟩ T H:=
 {r with
  tm:=λt y hy hn=>by
   obtain ⟨w,rfl⟩:=aAz hy;cases hl:lk t s.ts with
   |none=>rw[hl] at hn;exact absurd (ahR w) hn
   |some x=>
    rw[hl] at hn;let ⟨v,v1,v2⟩:=r.tm t x hl λe=>hn (by rw[e];exact ahR w)
    exact ⟨v,v1,Ec v2⟩
  bx:=λk b hk=>by
   obtain ⟨w,b0,h0,rfl⟩:=apN h hk;let ⟨q,q2⟩:=r.bx k b0 h0;exact ⟨ajw q,q2⟩}
def kT.cv (h:OA s.bs w.bs=V bs):kT pn s ⟨cvT w.ts s.ts,bs⟩:=.mk λr=>⟨_,_,_,_,.refl _,λ_ _=>rfl,r.cv h⟩
def Dg (K K' k:Nat):Nat:=aT (Cz k K) K' k
def aoK (K K' k:Nat):Dg K K' k=if k=K then K' else k:=by
 unfold Dg;rw[cx];by_cases h:k=K
 .rw[ax h,ax ((f9 _ _).2 h)]
 .rw[au h,au (λe=>h ((f9 _ _).1 e))]
def LS.iS (s:LS) (K K':Nat):LS:=⟨s.ts.map λp=>(p.1,Fg (Dg K K') p.2),s.bs.map λp=>(Dg K K' p.1,p.2.iS (Dg K K'))⟩
def ayL {K K' k:Nat} {b':Bx}:∀{l:de},lk K' l=A->lk k (l.map λp=>(Dg K K' p.1,p.2.iS (Dg K K')))=V b'->∃k0 b0,lk k0 l=V b0/\Dg K K' k0=k/\k0≠K'/\b'=b0.iS (Dg K K')
 |(j,x)::l,hn,h=>by
  rw[dH] at hn;rw[j2,dH] at h;split at hn
  .cases hn
  .rename_i hj;split at h
   .rename_i e;cases h;exact ⟨j,x,by rw[dH,ax rfl],e.symm,λc=>hj c.symm,rfl⟩
   .rename_i e;let ⟨k0,b0,a1,a2,a3,a4⟩:=ayL hn h;exact ⟨k0,b0,by rw[dH,au (λc=>e (by rw[<-a2,c])),a1],a2,a3,a4⟩
def kT.iS {K':Nat} (hk:s.free K') (CM:pn K'=U) (hn:lk K' s.bs=A):kT pn s (s.iS K K'):=.mk λ{F g Z c T H} r=>by
 let g2:Gb:=λk=>if k=K' then g K else g k
 have one:∀k,k≠K'->g2 (Dg K K' k)=g k:=λk jz=>by
  rw[aoK];by_cases e:k=K
  .subst e;rw[ax rfl];exact ax rfl
  .rw[au e];exact au jz
 let φ2:Nat->Ow:=λk=>if k=K' then Z K else Z k
 let c2:Nat->cC:=λi=>(c i).map (Dg K K')
 refine ⟨F,g2,φ2,c2,.refl _,λk jz=>au λe=>(by rw[e,CM] at jz;cases jz),⟨λt y hy dd=> ?_,λk b hb=> ?_,λi o hi=>⟨(r.fr i o hi).1,by show (c i).map _=A;rw[(r.fr i o hi).2];rfl⟩,λi hi=>by show (c i).map _=A;rw[r.cn i hi];rfl⟩⟩
 .let ⟨x,hx,e⟩:=xb.1 ((Ft (λ(_:Nat) (x:AV)=>Fg (Dg K K') x) t s.ts).symm.trans hy)
  subst e;by_cases hu:x= .undef
  .subst hu;exact absurd rfl dd
  .let ⟨v,v1,v2⟩:=r.tm t x hx hu;exact ⟨v,v1,v2.map (.refl F) λk hm=>one k λe=>hk.1 t x hx (e ▸ hm)⟩
 .obtain ⟨k0,b0,a1,a2,a3,rfl⟩:=ayL hn hb;let ⟨q1,q2,q3⟩:=r.bx k0 b0 a1;have hφ:φ2 k=Z k0:=by
   show (if k=K' then Z K else Z k)=_
   rw[<-a2,aoK];by_cases e:k0=K
   .rw[ax e,ax rfl,e]
   .rw[au e,au a3]
  rw[hφ];exact ⟨q1.mv (.refl F) (by rw[<-a2];exact one k0 a3) λk hm=>one k λe=>hk.2 k0 b0 a3 a1 (e ▸ hm),q2,λp hp=>⟨(q3 p hp).1,by show (c p.1).map _=_;rw[(q3 p hp).2,<-a2];rfl⟩⟩
def QA (K sz:Nat) (x:AV):AV:=
 match x with
 | .lit .bY=>.ms K sz 0 0
 |x=>x
def hasC (cs:List (Nat×Nat)) (k i:Nat):Bool:=cs.any λq=>Cz q.1 k&&Cz q.2 i
def atP (cs:List (Nat×Nat)) (k K sz:Nat):Nat->bg->bg
 |_,[]=> []
 |i,x::l=>aT (hasC cs k i) (QA K sz x) x::atP cs k K sz (i+1) l
def aIl (cs:List (Nat×Nat)) (K sz k:Nat) (b:Bx):Bx:=
 match b with
 | .flat e l=>.flat e (atP cs k K sz 0 l)
 | .bG z e s l Q o=>.bG z e s l Q (o.map λp=>(p.1,aT (cs.any λq=>Cz q.1 k) (QA K sz p.2) p.2))
 |b=>b
def LS.born (s:LS) (ts:bQ) (cs:List (Nat×Nat)) (K:Nat) (z:Bool) (e sz:Nat):LS:=
 ⟨s.ts.map λp=>(p.1,aT (nN p.1 ts) (QA K sz p.2) p.2),(s.set K (.rows z e sz [])).bs.map λp=>(p.1,aIl cs K sz p.1 p.2)⟩
def ahO (hb:(g K).b=U) (h:VA F g v x) (b:Bool):VA F g v (aT b (QA K sz x) x):=by
 rw[cx];split
 .unfold QA;split
  .cases h;exact .sw sz hb
  .exact h
 .exact h
def ajG {cs:List (Nat×Nat)} {k K sz:Nat} (hb:(g K).b=U):∀{xs:bg} {vs:bj} {i:Nat},dS F g vs xs->dS F g vs (atP cs k K sz i xs)
 | [],_,_,h=>h
 |x::l,_,i,.cons h t=>.cons (ahO hb h _) (ajG hb t)
def kT.born (hk:s.free K) (hp:pn K=U):kT pn s (s.born ts cs K z e sz):=.mk λ{F g Z c T H} r=>by
 let g2:Gb:=j4 g K ⟨0,.k 0,U⟩;have hb:(g2 K).b=U:=by show (j4 g K _ K).b=U;unfold j4;rw[ax rfl]
 let ⟨c',r2,_,_,_⟩:=r.chg (K:=K) (b':=.rows z e sz []) (L':= []) (g':=g2) (H':=H) (.nil hb) am (λp hp=>by cases hp) (λi hi=>absurd rfl hi) (.inr ⟨hk,λk dd=>au dd⟩)
 refine ⟨F,g2,_,c',.refl _,λk jz=>au λe=>(by rw[e,hp] at jz;cases jz),r2.arR (ft:=λt x=>aT (nN t ts) (QA K sz x) x) (fb:=λk b=>aIl cs K sz k b) r2.fr (λt=>by rw[cx];split<;>rfl) (λt v x _ hv=>ahO hb hv _) λk b ae _ q=> ?_⟩
 cases q with
 |flat q=>exact .flat (ajG hb q)
 |nil h=>exact .nil h
 |bG lL hz hu hc q ho=>
  refine .bG lL hz hu hc q λp hp=> ?_
  obtain ⟨p0,hp0,rfl⟩:=dL.1 hp;let ⟨v,v1,v2⟩:=ho p0 hp0;exact ⟨v,v1,ahO hb v2 _⟩
 |map h1 h2 h3=>exact .map h1 h2 h3
 |iter=>exact .iter
def nSh (l:eG):eG:=aT (uc l) [] l
def aMz (q:TR F l vs Q ae):TR F (nSh l) vs Q ae:=by
 unfold nSh;rw[cx];split
 .rename_i h;exact q.uc h rfl
 .exact q
def TC.open {x x':Bool} {ii:bB} (q:TC F (.o x l2) v y L0) (hy:y=zw x' e2 AK n ii):∃gk L2,L2.Sublist L0/\∀g2:Gb,g2 K2=gk->fg F g2 K2 (.bG U e2 AK (nSh l2) ii []) L2/\VA F g2 v (.ms K2 AK 0 n):=by
 cases q with
 |any=>cases hy
 |nil=>
  injection hy with _ _ _ h1 h2
  subst h1;subst h2;exact ⟨⟨0,.k 0,U⟩,[],.refl _,λg2 e=>⟨.nil (by rw[e]),.sw _ (by rw[e])⟩⟩
 | @sl _ _ id cp svs e s n' Q ae hn hu hc q=>
  injection hy with _ h1 h2 h3 h4
  subst h1;subst h2;subst h3;subst h4;subst hn;refine ⟨⟨id,cp,I⟩,_,.refl _,λg2 e=>⟨?_,?_⟩⟩
  .have:=fg.bG (F:=F) (g:=g2) (K:=K2) (z:=U) (o:= []) (by rw[e]) (λh=>by cases h) hu (by rw[e];exact hc) (aMz q) (λp hp=>by cases hp)
   rwa[e] at this
  .exact sw e
def aES (Q:bB) (j f:Nat) (x:Bool) (e2 s2 n:Nat) (ii:bB) (Q':bB):Prop:=∃R,Q[j]? =V R/\R[f]? =V (zw x e2 s2 n ii)/\Q.set j (iL R f [.undef])=Q'
def BU (h:f<O R):iL R f [x]=R.set f x:=by
 show R.take f++ [x]++R.drop (f+1)=_;rw[List.set_eq_take_append_cons_drop,ax h];simp
def arp {R R':bg} (hu:∀r∈Q,O r=sz) (h:O R'=sz):∀r∈Q.set j R',O r=sz:=λr hr=>by
 rcases PD hr with hr|rfl
 .exact hu r hr
 .exact h
def ahy {R':bg} (hj:Q[j]? =V R):Q.set j R'≠ []:=λe=>by
 have:=bH O e;rw[iy] at this;rw[qg.1 this] at hj;cases hj
def kT.opn {x x':Bool} {ii:bB} (hb:lk K s.bs=V (.bG z e sz l Q o)) (hP:aES Q j f x' e2 AK n ii Q') (hl:(l.drop f).headD .d= .o x l2) (hk:s.free K2) (hp:pn K2=U) (hn:lk K2 s.bs=A):
  kT pn s ⟨s.ts,(K2,.bG U e2 AK (nSh l2) ii [])::(K,.bG z e sz l Q' ((j*sz+f,.ms K2 AK 0 n)::o))::s.bs⟩:=.mk λ{F g Z c T H} r=>by
 obtain ⟨R,hj,hf,rfl⟩:=hP;have hR:=(bk.1 hf).1;let ⟨ta,svs,ae,hφ,hH,hu,hc,q,ho,_,hRl,_⟩:=r.row hb hj;let ⟨v,L1,L0,L2,h1,h2,h3,h4⟩:=q.foc hu hj hf;rw[hl] at h3 h4;let ⟨gk,LK,hs,gP⟩:=h3.open (K2:=K2) rfl;have dd:K≠K2:=λe=>by rw[e,hn] at hb;cases hb
 let ⟨b1,b2⟩:=gP (j4 g K2 gk) (ax rfl);have gK:j4 g K2 gk K=g K:=au dd;have nd:=(r.bx K _ hb).2.1;rw[hφ,h2] at nd;have hv:svs[j*sz+f]? =V v:=by
  rw[eO] at h1;split at h1
  .exact h1
  .cases h1
 refine ⟨F,j4 g K2 gk,_,_,.refl _,λk jz=>au λe=>(by rw[e,hp] at jz;cases jz),r.split (b1:=.bG z e sz l (Q.set j (iL R f [.undef])) ((j*sz+f,.ms K2 AK 0 n)::o)) (L1:=((g K).n,.cells e svs)::(L1++([]++L2))) hb hk hn (λk dd=>au dd) ?_ b1 (λp hp=> ?_) ?_⟩
 .rw[<-gK];rw[BU hR];refine .bG (by rw[gK];exact ta) (λ_=>ahy hj) (arp (R:=R) hu (by rw[iy];exact hRl)) (by rw[gK,iy];exact hc) (by rw[iy];exact h4 _ _ (.any v)) λp hp=> ?_
  rcases cU.1 hp with rfl|hp
  .exact ⟨v,hv,b2⟩
  .let ⟨w,w1,w2⟩:=ho p hp;exact ⟨w,w1,w2.same (.refl F) λk jz=>au λ(ek:k=K2)=>hk.2 K _ dd hb (ek ▸ D2 (dL.2 ⟨p,hp,rfl⟩) k jz)⟩
 .rw[hφ,h2];have:(((g K).n,SO.cells e svs)::(L1++([]++L2))++LK).Subset (((g K).n,SO.cells e svs)::(L1++(L0++L2))):=λp hp=>by
   have hs:= @(hs.subset);simp only[xa,cU,fk,jb] at hp ⊢;rcases hp with h|(h|h)|h
   .exact .inl h
   .exact .inr (.inl h)
   .exact .inr (.inr (.inr h))
   .exact .inr (.inr (.inl (hs h)))
  exact this hp
 .have key:((((g K).n,SO.cells e svs)::(L1++([]++L2))++L0).map (·.1)).Nodup:=by
   refine (List.Perm.nodup_iff ?_).1 nd;refine List.Perm.map _ ?_;rw[xa,jb,l6];exact .cons _ (.append_left _ List.perm_append_comm)
  exact ((asL hs _).map _).nodup key
def RZ (Q:bB) (j f:Nat) (y:AV) (Q':bB):Prop:=HV Q j f [y]=V Q'
def Rel.cls (r:Rel F g Z c s T H) {p:Nat} {z2 x:Bool} {l2':eG} {ii:bB} (hb:lk K s.bs=V (.bG z e sz l Q ((p,.ms K2 AK 0 n)::o))) (hb2:lk K2 s.bs=V (.bG z2 e2 AK l2' ii [])) (hp:p=j*sz+f) (hn:O ii=n) (hP:RZ Q j f (zw x e2 AK n ii) Q') (hl:(l.drop f).headD .d= .o x l2) (hsh:S2 l2' l2 ii=I) (hf:f<sz) (dd:K≠K2):
  ∃φ' c',(∀i k,c' i=V k->c i=V k\/(k=K/\c i=V K2))/\Rel F g φ' c' ⟨(s.qd K2).ts,(K,.bG z e sz l Q' (o.map λp=>(p.1,pZ K2 p.2)))::l3 K2 (s.qd K2).bs⟩ T H:=by
 let ⟨R,hj,hQ⟩:=ak hP;cases hQ;subst hp;let ⟨ta,svs,ae,hφ,hH,hu,hc,q,ho,_,hRl,_⟩:=r.row hb hj;obtain ⟨xo,hxo⟩:∃xo,R[f]? =V xo:=⟨R[f]' W,bJ _⟩
 let ⟨v,L1,L0,L2,h1,h2,h3,h4⟩:=q.foc hu hj hxo;rw[hl] at h4;let ⟨v',G8,hx⟩:=ho _ kr;have ev:v'=v:=by
  rw[eO] at h1;split at h1
  .exact kh (G8.symm.trans h1)
  .cases h1
 subst ev;let ⟨_,nd,own⟩:=r.bx K _ hb;let ⟨q2,nd2,S5⟩:=r.bx K2 _ hb2;have pY:TC F (.o x l2) v' (zw x e2 AK n ii) (Z K2):=by
  generalize Z K2=f2 at q2;cases q2 with
  |nil hb1=>
   cases hn;cases hx with
   |sw=>exact .nil
   |ms _ _ _ h=>rw[hb1] at h;cases h
   |zQ _ _ h=>cases h
  |bG hb1 AO hu1 rl q1 Js=>
   subst hn;generalize hm:O ii=m at hx;cases hx with
   |sw _ h=>rw[hb1] at h;cases h
   |zQ _ _ h=>cases h
   |ms=>
    subst hm;rw[nX];have:A6 (g K2).c 0=(g K2).c:=by cases (g K2).c<;>rfl
    rw[this];exact .sl rfl hu1 rl (aoF hsh q1)
 have lf:∀{k b},lk k s.bs=V b->lk k (s.qd K2).bs=V (b.qd K2):=λ{k b} hb=>by
  rw[show (s.qd K2).bs=s.bs.map λp=>(p.1,p.2.qd K2) from rfl,Ft (λ(_:Nat) (b:Bx)=>b.qd K2),hb];rfl
 have sub:∀p∈((g K).n,SO.cells e svs)::(L1++(Z K2++L2)),p∈Z K\/p∈Z K2:=λp hp=>by
  rw[hφ,h2];simp only[cU,fk] at hp ⊢;rcases hp with h|h|h|h
  .exact .inl (.inl h)
  .exact .inl (.inr (.inl h))
  .exact .inr h
  .exact .inl (.inr (.inr (.inr h)))
 refine ⟨_,_,λi k h=> ?_,(r.qd K2).join (b1:=.bG z e sz l (Q.set j (iL R f [zw x e2 AK n ii])) (o.map λp=>(p.1,pZ K2 p.2))) (L1:=((g K).n,.cells e svs)::(L1++(Z K2++L2))) (lf hb) (lf hb2) dd ?_ sub ?_⟩
 .split at h
  .rename_i hm;obtain ⟨p,hp,rfl⟩:=dL.1 hm;cases h;exact (sub p hp).imp (λh=>(own p h).2) λh=>⟨rfl,(S5 p h).2⟩
  .exact .inl h
 .rw[BU W]
  refine .bG ta (λ_=>ahy hj) (arp (R:=R) hu (by rw[iy];exact hRl)) (by rw[iy];exact hc) (by rw[iy];exact h4 _ _ pY) λp hp=> ?_
  obtain ⟨p0,hp0,rfl⟩:=dL.1 hp;let ⟨w,w1,w2⟩:=ho p0 (fj _ hp0);exact ⟨w,w1,Ly w2⟩
 .rw[hφ,h2] at nd own;have hd:∀p∈Z K2,∀p'∈((g K).n,SO.cells e svs)::(L1++(L0++L2)),p.1≠p'.1:=λp hp p' CM e0=>by
   have h1:=(S5 p hp).2;rw[e0,(own p' CM).2] at h1;exact dd (kh h1)
  have key:(((((g K).n,SO.cells e svs)::(L1++L2))++Z K2).map (·.1)).Nodup:=by
   rw[ky];have sl:(((g K).n,SO.cells e svs)::(L1++L2)).Sublist (((g K).n,SO.cells e svs)::(L1++(L0++L2))):=.cons_cons _ (asL (PC _ _) _);refine Cf.2 ⟨(sl.map _).nodup nd,nd2,λa ha b lL e0=> ?_⟩
   obtain ⟨p',CM,rfl⟩:=dL.1 ha;obtain ⟨p,hp,rfl⟩:=dL.1 lL;exact hd p hp p' (sl.subset CM) e0.symm
  refine (List.Perm.nodup_iff ?_).1 key;refine List.Perm.map _ ?_;rw[xa,l6];exact .cons _ (.append_left _ List.perm_append_comm)
def YY (sh:Sh) (y x:AV):G AV:=
 match sh with
 | .d=>aT (kU x).isEmpty (V (cv y x)) A
 | .o b _=>(match x,y with
  | .lit .bY,.sl _ e s _ _=>V (zw b e s 0 [])
  |_,_=>A)
def aKK {y':AV} (h:YY sh y x=V y') (q:VA F g v x):TC F sh v y' []:=by
 unfold YY at h;split at h
 .let ⟨h1,h⟩:=bf h;cases h;exact .d (Ec (q.tR h1))
 .split at h
  .cases h;cases q;exact .nil
  .cases h
def fg.cld {p:Nat} {y':AV} (hp:p=j*sz+f) (hP:RZ Q j f y' Q') (hy:YY ((l.drop f).headD .d) y x=V y') (hf:f<sz) (q:fg F g K (.bG z e sz l Q ((p,x)::o)) ae):∃L',L'.Sublist ae/\fg F g K (.bG z e sz l Q' o) L':=by
 let ⟨R,hj,hQ⟩:=ak hP;cases hQ;subst hp;cases q with
 | @bG _ _ _ _ _ _ svs ae ta hz hu hc q ho=>
 have hRl:=hu R (bF hj);obtain ⟨xo,hxo⟩:∃xo,R[f]? =V xo:=⟨R[f]' W,bJ _⟩
 let ⟨v,L1,L0,L2,h1,h2,h3,h4⟩:=q.foc hu hj hxo;let ⟨v',G8,hx⟩:=ho _ kr;have ev:v'=v:=by
  rw[eO] at h1;split at h1
  .exact kh (G8.symm.trans h1)
  .cases h1
 subst ev;refine ⟨_,?_,.bG ta (λ_=>ahy hj) (arp (R:=R) hu (by rw[BU W,iy];exact hRl)) (by rw[iy];exact hc) (by rw[BU W,iy];exact h4 _ _ (aKK hy hx)) λp hp=>ho p (fj _ hp)⟩
 rw[h2];exact .cons_cons _ (asL (PC _ _) _)
def kT.shr {u:Nat} {P:bB} (hb:lk K s.bs=V (.bG z e sz l Q o)) (hP:Q.take u=P):kT pn s (s.set K (.bG U e sz l P [])):=by
 subst hP;refine kT.K1 hb λ{F g ae} q=> ?_
 cases q with
 |nil Od=>exact ⟨[],.refl _,by rw[List.take_nil];exact .nil Od⟩
 | @bG _ _ _ _ _ _ svs ae ta hz hu hc q ho=>
  let ⟨L',hs,q'⟩:=q.take u hu;have lm:O (Q.take u)<=O Q:=by rw[dv];exact Nat.min_le_right _ _
  have e1:min (u*sz) (O Q*sz)=O (Q.take u)*sz:=by
   rw[dv];rcases Nat.le_total u (O Q) with h|h
   .rw[fG h,fG (jv _ h)]
   .rw[asM h,asM (jv _ h)]
  rw[mC,e1] at q';refine ⟨_,.cons_cons _ hs,.bG ta (λe=>by cases e) (λr hr=>hu r (oB hr)) ?_ q' λp hp=>by cases hp⟩
  cases hκ:(g K).c with
  |k m=>rw[hκ] at hc;exact ⟨lO lm hc.1,hc.2⟩
  |u e'=>rw[hκ] at hc;exact ⟨hc.1,lO (jv _ lm) hc.2⟩
def cvQ:bB->bB->bB
 |w::ws,r::rs=>Oz w r::cvQ ws rs
 |_,rs=>rs
def apM:∀(ws xs:bg),O (Oz ws xs)=O xs
 | [],_=>rfl
 |_::_,[]=>rfl
 |_::ws,_::xs=>bH S6 (apM ws xs)
def Qv:∀(ac Q:bB),O (cvQ ac Q)=O Q
 | [],_=>rfl
 |_::_,[]=>rfl
 |_::ac,_::Q=>bH S6 (Qv ac Q)
def aty {sz:Nat}:∀{ac Q:bB},(∀r∈Q,O r=sz)->∀r∈cvQ ac Q,O r=sz
 | [],_,hu,r,hr=>hu r hr
 |_::_,[],_,r,hr=>by cases hr
 |w::ac,q::Q,hu,r,hr=>by
  rcases cU.1 (show r∈Oz w q::cvQ ac Q from hr) with rfl|hr
  .rw[apM];exact hu q am
  .exact aty (λr hr=>hu r (fj _ hr)) r hr
def aAA:∀{ac Q:bB} {vs:bj},dS F g vs Q.flatten->dS F g vs (cvQ ac Q).flatten
 | [],_,_,q=>q
 |_::_,[],_,q=>q
 |w::ac,r::Q,vs,q=>by
  rw[qQ] at q;have q1:=q.take (O r);have q2:=q.drop (O r);rw[asN] at q1;rw[asO] at q2;have:=(JD (ws:=w) q1).append (aAA (ac:=ac) q2);rw[vC] at this;exact this
def fg.brw {ac:bB} (ha:uc l=I) (q:fg F g K (.bG z e sz l Q o) ae):∃L',L'.Sublist ae/\fg F g K (.bG z e sz [] (cvQ ac Q) o) L':=by
 cases q with
 |nil hb=>exact ⟨[],.refl _,by cases ac<;>exact .nil hb⟩
 |bG hb hz hu hc q ho=>exact ⟨_,.cons_cons _ (PB _),.bG hb (λh e0=>hz h (qg.1 (by rw[<-Qv ac Q,e0];rfl))) (aty hu) (by rw[Qv];exact hc) (by rw[Qv];exact .tQ (aty hu) (aAA (q.uc ha rfl).dat)) ho⟩
def Rel.thaw (r:Rel F g Z c s T H) (hb:lk K s.bs=V (.bG z e sz l Q o)):∃F' φ' c',oW F F'/\Rel F' g φ' c' (s.set K (.bG z e sz [] Q [])) T H:=by
 let ⟨q,nd,own⟩:=r.bx K _ hb;generalize hL:Z K=ae at q nd own;let F':Hf:=λi=>if c i=V K/\i≠(g K).n then H i else F i
 have hF:oW F F':=λi o ho=>by
  show (if c i=V K/\i≠(g K).n then H i else F i)=V o
  rw[(r.fr i o ho).2,au am]
  exact ho
 refine ⟨F',λk=>if k=K then ae.take 1 else Z k,λi=>if c i=V K/\i≠(g K).n then A else c i,hF,λt x hx hn=> ?_,λk b hk=> ?_,λi o hi=> ?_,λi hi=> ?_⟩
 .let ⟨v,v1,v2⟩:=r.tm t x hx hn;exact ⟨v,v1,v2.mono hF⟩
 .have hk:lk k ((K,.bG z e sz [] Q [])::s.bs)=V b:=hk;rw[dH] at hk;by_cases ek:k=K
  .subst ek;rw[ax rfl] at hk;cases hk;show fg F' g k _ (if k=k then _ else _)/\((if k=k then _ else _:Ow).map (·.1)).Nodup/\∀p∈(if k=k then _ else _:Ow),_
   rw[ax rfl];cases q with
   |nil Od=>exact ⟨.nil Od,am,λp hp=>by cases hp⟩
   | @bG _ _ _ _ _ _ svs ae ta hz hu hc q ho=>
    have nd':(g k).n∉ae.map (·.1):=(qV.1 nd).1
    refine ⟨.bG ta hz hu hc (.tQ hu (q.data hF λp hp=> ?_)) (λp hp=>by cases hp),am,λp hp=> ?_⟩
    .let ⟨h1,h2⟩:=own p (fj _ hp);show (if c p.1=V k/\p.1≠(g k).n then H p.1 else F p.1)=V p.2
     rw[ax ⟨h2,λh=>nd' (h ▸ dL.2 ⟨p,hp,rfl⟩)⟩]
     exact h1
    .obtain rfl:=gy.1 (show p∈ [_] from hp);let ⟨h1,h2⟩:=own _ kr;refine ⟨h1,?_⟩;show (if c (g k).n=V k/\(g k).n≠(g k).n then A else c (g k).n)=V k
     rw[au (λh=>h.2 rfl)]
     exact h2
  .rw[au ek] at hk;let ⟨q1,q2,q3⟩:=r.bx k b hk;show fg F' g k b (if k=K then _ else _)/\((if k=K then _ else _:Ow).map (·.1)).Nodup/\∀p∈(if k=K then _ else _:Ow),_
   rw[au ek];refine ⟨q1.same hF rfl λ_ _=>rfl,q2,λp hp=>⟨(q3 p hp).1,?_⟩⟩
   show (if c p.1=V K/\p.1≠(g K).n then A else c p.1)=V k
   rw[(q3 p hp).2,au λh=>ek (by injection h.1)]
 .have hi:(if c i=V K/\i≠(g K).n then H i else F i)=V o:=hi
  show H i=V o/\(if c i=V K/\i≠(g K).n then A else c i)=A
  split at hi
  .rename_i h;rw[ax h];exact ⟨hi,rfl⟩
  .rename_i h;rw[au h];exact r.fr i o hi
 .show (if c i=V K/\i≠(g K).n then A else c i)=A
  rw[r.cn i hi,au (λh=>by cases h.1)]
inductive Gp where
 |eD (K m n:Nat)
 |iS (K K':Nat)
 |born (ts:bQ) (cs:List (Nat×Nat)) (K:Nat) (z:Bool) (e sz:Nat)
 |shr (K u:Nat) (P:bB)
 |opn (K K2 j f e2 s2 n:Nat) (rows Q':bB)
 |cls (K K2 j f n:Nat) (Q':bB)
 |cld (K j f:Nat) (y:AV) (Q':bB)
 |gT (t:Nat) (y:AV)
 |bis (K:Nat) (b:Bx)
 |pN (t:Nat) (w:AV)
 |kH (K:Nat) (w:Bx)
 |brw (K:Nat) (ac:bB)
 |thw (K:Nat)
def shX (l:eG) (f:Nat):G (Bool×eG):=
 match (l.drop f).headD .d with
 | .o x l2=>V (x,l2)
 |_=>A
def ahw {p:Bool×eG} (h:shX l f=V p):(l.drop f).headD .d= .o p.1 p.2:=by
 unfold shX at h;split at h
 .rename_i e;cases h;exact e
 .cases h
def Lv (pn:Nat->Bool) (s:LS) (gp:Gp) (ob:Prop->cF):G (List cF×LS):=
 match gp with
 | .thw K=>aA (lk K s.bs) λb=>(match b with
  | .bG z e sz _ Q _=>V ([],s.set K (.bG z e sz [] Q []))
  |_=>A)
 | .eD K m n=>aA (lk K s.bs) λb=>V (NK s K n b ob,s.NJ K m n b)
 | .iS K K'=>aT (Hg s K'&&(!pn K'&&(lk K' s.bs).isNone)) (V ([],s.iS K K')) A
 | .born ts cs K z e sz=>aT (Hg s K && !pn K) (V ([],s.born ts cs K z e sz)) A
 | .shr K u P=>aA (lk K s.bs) λb=>(match b with
  | .bG _ e sz l Q _=>V ([ob (Q.take u=P)],s.set K (.bG U e sz l P []))
  |_=>A)
 | .opn K K2 j f e2 s2 n ii Q'=>aA (lk K s.bs) λb=>(match b with
  | .bG z e sz l Q o=>aA (shX l f) λx=>aT (Hg s K2&&(!pn K2&&(lk K2 s.bs).isNone)) (V ([ob (aES Q j f x.1 e2 s2 n ii Q')],⟨s.ts,(K2,.bG U e2 s2 (nSh x.2) ii [])::(K,.bG z e sz l Q' ((E' (N' j sz) f,.ms K2 s2 0 n)::o))::l3 K s.bs⟩)) A
  |_=>A)
 | .cls K K2 j f n Q'=>cq (lk K s.bs) (lk K2 s.bs) λb b2=>(match b,b2 with
  | .bG z e sz l Q ((p,.ms k2 s2 0 n0)::o),.bG _ e2 AK l2' ii []=>aA (shX l f) λx=>aT ((Cz k2 K2&&Cz s2 AK)&&(S2 l2' x.2 ii&&(D' (S6 f) sz && !Cz K K2)))
    (V ([ob (O ii=n/\RZ Q j f (zw x.1 e2 AK n ii) Q'),eqO n0 n,eqO p (E' (N' j sz) f)],⟨(s.qd K2).ts,(K,.bG z e sz l Q' (o.map λp=>(p.1,pZ K2 p.2)))::l3 K (l3 K2 (s.qd K2).bs)⟩)) A
  |_,_=>A)
 | .cld K j f y Q'=>aA (lk K s.bs) λb=>(match b with
  | .bG z e sz l Q ((p,x)::o)=>aA (YY ((l.drop f).headD .d) y x) λy'=>aT (D' (S6 f) sz) (V ([ob (RZ Q j f y' Q'),eqO p (E' (N' j sz) f)],s.set K (.bG z e sz l Q' o))) A
  |_=>A)
 | .gT t y=>aA (lk t s.ts) λx=>V ([ob (x=y)],⟨(t,y)::l3 t s.ts,s.bs⟩)
 | .bis K b=>aA (lk K s.bs) λb0=>V ([ob (b0=b)],⟨s.ts,(K,b)::l3 K s.bs⟩)
 | .pN t w=>aA (lk t s.ts) λx=>V ([],⟨(t,cv w x)::l3 t s.ts,s.bs⟩)
 | .kH K w=>aA (lk K s.bs) λb=>V ([],s.set K (cvX w b))
 | .brw K ac=>aA (lk K s.bs) λb=>(match b with
  | .bG z e sz l Q o=>aT (uc l) (V ([],s.set K (.bG z e sz [] (cvQ ac Q) o))) A
  |_=>A)
def kT.lks (h1:∀t,lk t s'.ts=lk t s.ts) (h2:∀k,lk k s'.bs=lk k s.bs):kT pn s s':=.mk λr=>⟨_,_,_,_,.refl _,λ_ _=>rfl,r.sub (λt x h=>(h1 t).symm.trans h) λk b h=>(h2 k).symm.trans h⟩
def yx {x:Y} {l:List (Nat×Y)}:lk k ((t,x)::l3 t l)=lk k ((t,x)::l):=by
 rw[dH,dH,yw];split
 .rfl
 .rfl
def Rel.gcls (r:Rel F g Z c s T H) (gX:∀P,(ob P).need=P) (h:Lv pn s (.cls K K2 j f n Q') ob=V q) (ho:jF q.1):∃φ' c',(∀i k,c' i=V k->c i=V k\/(k=K/\c i=V K2))/\Rel F g φ' c' q.2 T H:=by
 let ⟨b,b2,hb,hb2,h⟩:=bV h;split at h
 .rename_i z e sz l Q p k2 s2 n0 o z2 e2 AK l2' ii;let ⟨x,hx,h⟩:=ak h;let ⟨h1,h⟩:=bf h;cases h;simp only[bI] at h1;let ⟨⟨k1,k3⟩,k4,k5,k6⟩:=h1;obtain rfl:=(f9 _ _).1 k1;obtain rfl:=(f9 _ _).1 k3;let ⟨hp,hn,hpp,_⟩:=ho;rw[gX] at hp;have hn:n0=n:=hn;subst hn;let ⟨φ',c',a1,a2⟩:=r.cls hb hb2 hpp hp.1 hp.2 (ahw hx) k4 ((bO _ _).1 k5) (λe=>by rw[(f9 _ _).2 e] at k6;cases k6)
  exact ⟨φ',c',a1,a2.sub (λ_ _ h=>h) λk b h=>yx.symm.trans h⟩
 .cases h
def aDH {gp:Gp} (gX:∀P,(ob P).need=P) (h:Lv pn s gp ob=V q) (ho:jF q.1):kT pn s q.2:=by
 cases gp with
 |eD K m n=>
  let ⟨b,hb,h⟩:=ak h;cases h;exact .mk λr=>by
   let ⟨F',c',hF,_,r'⟩:=r.eD (m:=m) gX hb ho;exact ⟨F',_,_,c',hF,λ_ _=>rfl,r'⟩
 |thw K=>
  let ⟨b,hb,h⟩:=ak h;split at h
  .cases h;exact .mk λr=>by
    let ⟨F',φ',c',hF,r'⟩:=r.thaw hb;exact ⟨F',_,φ',c',hF,λ_ _=>rfl,r'⟩
  .cases h
 |iS K K'=>
  let ⟨h1,h⟩:=bf h;cases h;simp only[bI] at h1;exact kT.iS (yG h1.1) (by simpa using h1.2.1) (by simpa using h1.2.2)
 |born ts cs K z e sz=>
  let ⟨h1,h⟩:=bf h;cases h;rw[bI] at h1;exact kT.born (yG h1.1) (by simpa using h1.2)
 |shr K u P=>
  let ⟨b,hb,h⟩:=ak h;split at h
  .cases h;have hp:=ho.1;rw[gX] at hp;exact kT.shr hb hp
  .cases h
 |opn K K2 j f e2 s2 n ii Q'=>
  let ⟨b,hb,h⟩:=ak h;split at h
  .rename_i z e sz l Q o;let ⟨x,hx,h⟩:=ak h;let ⟨h1,h⟩:=bf h;cases h;simp only[bI] at h1;have hp:=ho.1;rw[gX] at hp;refine (kT.opn hb hp (ahw hx) (yG h1.1) (by simpa using h1.2.1) (by simpa using h1.2.2)).trans (kT.lks (λ_=>rfl) λk=> ?_)
   show lk k ((K2,_)::(K,_)::l3 K s.bs)=lk k ((K2,_)::(K,_)::s.bs);rw[dH,dH (k:=K2),yx];rfl
  .cases h
 |cls K K2 j f n Q'=>exact .mk λr=>
  let ⟨φ',c',_,r'⟩:=r.gcls gX h ho;⟨_,_,φ',c',.refl _,λ_ _=>rfl,r'⟩
 |cld K j f y Q'=>
  let ⟨b,hb,h⟩:=ak h;split at h
  .rename_i z e sz l Q p x o;let ⟨y',hy,h⟩:=ak h;let ⟨h1,h⟩:=bf h;cases h;let ⟨hp,hpp,_⟩:=ho;rw[gX] at hp;exact kT.K1 hb λq=>fg.cld hpp hp hy ((bO _ _).1 h1) q
  .cases h
 |gT t y=>
  let ⟨x,hx,h⟩:=ak h;cases h;have hp:=ho.1;rw[gX] at hp;subst hp;refine kT.lks (λk=> ?_) λ_=>rfl
  show lk k ((t,x)::l3 t s.ts)=_;rw[yx,dH];split
  .rename_i e;rw[e,hx]
  .rfl
 |bis K b=>
  let ⟨x,hx,h⟩:=ak h;cases h;have hp:=ho.1;rw[gX] at hp;subst hp;refine kT.lks (λ_=>rfl) λk=> ?_
  show lk k ((K,x)::l3 K s.bs)=_;rw[yx,dH];split
  .rename_i e;rw[e,hx]
  .rfl
 |pN t w=>
  let ⟨x,hx,h⟩:=ak h;cases h;refine .mk λ{F g Z c T H} r=>⟨F,g,Z,c,.refl _,λ_ _=>rfl,{r with tm:=λk y hy hn=> ?_}⟩
  rw[show ({ts:=(t,cv w x)::l3 t s.ts,bs:=s.bs}:LS).ts=(t,cv w x)::l3 t s.ts from rfl,yx,dH] at hy;split at hy
  .rename_i e;cases hy;let ⟨v,v1,v2⟩:=r.tm t x hx λe=>hn (by rw[e];exact ahR w)
   exact ⟨v,e ▸ v1,Ec v2⟩
  .exact r.tm k y hy hn
 |kH K w=>
  let ⟨b,hb,h⟩:=ak h;cases h;exact kT.K1 hb λq=>⟨_,.refl _,ajw q⟩
 |brw K ac=>
  let ⟨b,hb,h⟩:=ak h;split at h
  .let ⟨ha,h⟩:=bf h;cases h;exact kT.K1 hb λq=>q.brw ha
  .cases h
end
end Go.bM
namespace Go.bM
open Go.RowKit
variable {f nx nZ K k j i:Nat} {v:SV} {H' F1:Hf} {o:SO} {bs hY:de} {c1 c':Nat->cC} {gc:Gb} {φ':Nat->Ow}
section
variable {F F':Hf} {g g':Gb} {Z:Nat->Ow} {c:Nat->cC} {s s':LS} {T:Tf} {H:Hf} {E:Env} {pn:Nat->Bool}
def oV (k:Nat):Bool:=D' 1152921504606846976 k
def evK (k:Nat):Bool:=Cz (Ht (Ys k 4294967296) 2) 0
def pnL (ks:bQ) (k:Nat):Bool:=oV k||(evK k&&nN k ks)
def xQ (bs:de):bQ:=bs.map (·.1)
def noT:Tf:=λ_=>A
structure kM (ro:Bool) (E:Env) (f:Nat) (bs:de) (xs:bg) (y:AV) (hY:de):Prop where
 go:∀{F:Hf} {g:Gb} {Z:Nat->Ow} {c:Nat->cC} {H:Hf} {nx:Nat} {aa:bj},Rel F g Z c ⟨[],bs⟩ noT H->(∀x,nx<=x->H x=A)->dS F g aa xs->∃F' g' φ' c' v H' nx',p8 E U (.fn (.func f) [] []) aa H nx v H' nx'/\nx<=nx'/\(∀x,nx'<=x->H' x=A)/\
  oW F F'/\(∀k,pnL (xQ bs) k=I->g' k=g k)/\VA F' g' v y/\Rel F' g' φ' c' ⟨[],hY⟩ noT H'/\(∀x,x<nx->H' x≠A->H x≠A)/\(ro=I->∀x,H x≠A->H' x=H x/\c' x=c x)
abbrev iE (E:Env) (f:Nat) (bs:de) (xs:bg) (y:AV) (hY:de):Prop:=kM U E f bs xs y hY
def axM {fi aa ca:bj} (h:p8 E U (.fn (.func f) [] []) (fi++aa++ca) H nx v H' nZ):p8 E U (.fn (.func f) fi ca) aa H nx v H' nZ:=λm g w u us hE hr oH hu mK=>by
 cases hu with
 | @fn _ first kL _ _ h1 h2=>
 have h0:VR g (.func (.func f) #[] #[]) (.fn (.func f) [] []):=.fn .nil .nil;let ⟨d,hd,hc⟩:=h m g w _ (first.toList++us++kL.toList) hE hr oH h0 ((h1.append mK).append h2)
 have hd:Result.ok ({target:=.fn (.func f) #[],args:= #[]++(first.toList++us++kL.toList).toArray}:Deferred) w=Result.ok d w:=hd
 injection hd with e
 subst e;have key:invoke (.fn (.func f) #[]) (#[]++(first.toList++us++kL.toList).toArray)=invoke (.fn (.func f) kL) (first++us.toArray):=by
  show callFunc f (#[]++(first.toList++us++kL.toList).toArray++ #[])=callFunc f (first++us.toArray++kL)
  congr 1;apply Cg;simp
 refine ⟨{target:=.fn (.func f) kL,args:=first++us.toArray},rfl,?_⟩
 show (∃k aa,Sem.run E.P (invoke (.fn (.func f) kL) (first++us.toArray)) w=_/\_)\/(∃l k tmps aa bo,Sem.run E.P (invoke (.fn (.func f) kL) (first++us.toArray)) w=_/\_)\/∃r w',Sem.run E.P (invoke (.fn (.func f) kL) (first++us.toArray)) w=_/\_
 rw[<-key];exact hc
abbrev ja:=List (Nat×Nat)
def jY (al:ja):ja:=al.map λq=>(q.2,q.1)
def uo (al:ja) (K:Nat):Nat:=(lk K al).getD K
def SX (l:ja) (K:Nat):Bool:=(lk K l).isSome
def D7 (al:ja):Bool:=al.all λq=>Cz (uo al q.1) q.2&&Cz (uo (jY al) q.2) q.1
def idP (al:ja) (k:Nat):Bool:=oV k&&(!SX al k && !SX (jY al) k)
def Jk {Y:Type} {t:Nat} {x:Y}:∀{l:List (Nat×Y)},(t,x)∈l->∃y,lk t l=V y
 |(k,y)::l,h=>by
  rw[dH];split
  .exact ⟨_,rfl⟩
  .rename_i e;rcases cU.1 h with h|h
   .exact absurd (bH Prod.fst h) e
   .exact Jk h
def NM {Y:Type} {t:Nat} {x:Y} (b:List (Nat×Y)):∀{a:List (Nat×Y)},lk t a=V x->lk t (a++b)=V x
 |(k,y)::a,h=>by
  rw[xa];rw[dH] at h ⊢;split
  .rename_i e;rw[ax e] at h;exact h
  .rename_i e;rw[au e] at h;exact NM b h
def wK {l:ja} (h:lk K l=V k):uo l K=k:=by unfold uo;rw[h];rfl
def FP {al:ja} (hg:D7 al=I) (h:(K,k)∈al):lk K al=V k/\lk k (jY al)=V K:=by
 have:=j3.1 ((jR.1 hg) (K,k) h);let ⟨j,hj⟩:=Jk h;let ⟨j',hj'⟩:=Jk (l:=jY al) (dL.2 ⟨(K,k),h,rfl⟩);have e1:=(f9 _ _).1 this.1;have e2:=(f9 _ _).1 this.2;rw[wK hj] at e1;rw[wK hj'] at e2;exact ⟨(show j=k from e1) ▸ hj,(show j'=K from e2) ▸ hj'⟩
def wI {al:ja} (hg:D7 al=I):lk k (jY al)=V K↔lk K al=V k:=by
 constructor
 .intro h;let ⟨q,hq,e⟩:=dL.1 (qk h);cases e;exact (FP hg hq).1
 .exact λh=>(FP hg (qk h)).2
def api {l:ja} (h:(!SX l k)=I):lk k l=A:=by
 unfold SX at h;cases hl:lk k l with
 |none=>rfl
 |some j=>rw[hl] at h;cases h
def aiP {al:ja} (h:idP al k=I):oV k=I/\lk k al=A/\lk k (jY al)=A:=by
 have h:=j3.1 (show (oV k&&(!SX al k && !SX (jY al) k))=I from h);have h2:=j3.1 h.2;exact ⟨h.1,api h2.1,api h2.2⟩
def Jy {l:ja} (h:lk k l=A):uo l k=k:=by unfold uo;rw[h];rfl
def inK (ps al:ja) (k:Nat):Bool:=SX ps k||idP al k
def blP (al:ja) (k:Nat):Bool:=match lk k al with|some k'=>oV k'|none=>U
def inP (ps al:ja) (k:Nat):Bool:=inK ps al k||blP al k
def GU (al:ja):ja:=al.filter λq=> !oV q.2
def ayM {al:ja} (hg:D7 al=I):lk j (GU al)=V k↔lk j al=V k/\oV k=U:=by
 have fwd:∀{k},lk j (GU al)=V k->lk j al=V k/\oV k=U:=λ{k} h=>by
  let ⟨h1,h2⟩:=uX.1 (qk h);exact ⟨(FP hg h1).1,by simpa using h2⟩
 refine ⟨fwd,λ⟨h1,h2⟩=> ?_⟩
 let ⟨y,hy⟩:=Jk (l:=GU al) (uX.2 ⟨qk h1,by simp[h2]⟩)
 have:=(fwd hy).1;rw[h1] at this;cases this;exact hy
def abm {al:ja} (hg:D7 al=I) (h:lk j (GU al)=A) (hk:lk j al=V k):oV k=I:=by
 cases hb:oV k with
 |true=>rfl
 |false=>rw[(ayM hg).2 ⟨hk,hb⟩] at h;cases h
def UI (ps al:ja) (sb:de):de->G de
 | []=>V []
 |p::l=>cq (aA (lk p.1 (jY ps)) λK=>lk K sb) (UI ps al sb l) λb r=>aT (b.keys.all (inP ps al)) (V ((p.1,cvX p.2 (b.iS (uo al)))::r)) A
def ahV {ps al:ja} {sb:de} {k:Nat} {b':Bx}:∀{l r:de},UI ps al sb l=V r->lk k r=V b'->∃K b w,lk k (jY ps)=V K/\lk K sb=V b/\b.keys.all (inP ps al)=I/\b'=cvX w (b.iS (uo al))
 | [],r,h,hk=>by cases h;cases hk
 |p::l,r,h,hk=>by
  let ⟨b,r',h1,h2,h⟩:=bV h;let ⟨K,hK,hb⟩:=ak h1;let ⟨h3,h⟩:=bf h;cases h;rw[dH] at hk;split at hk
  .rename_i e;cases hk;exact ⟨K,b,p.2,e ▸ hK,hb,h3,rfl⟩
  .exact ahV h2 hk
open Classical in
def tj (F:Hf) (c:Nat->cC) (ps:ja) (H:Hf):Hf:=λi=>if F i≠A\/∃K,c i=V K/\lk K ps≠A then H i else A
def ahJ {ps:ja} (h:tj F c ps H i=V o):H i=V o:=by
 unfold tj at h;split at h
 .exact h
 .cases h
def aSb {ps rs:ja} (hg:D7 (ps++rs)=I):lk k (jY ps)=V K->lk K ps=V k/\lk K (ps++rs)=V k/\uo (jY (ps++rs)) k=K:=λh=>by
 let ⟨q,hq,e⟩:=dL.1 (qk h);cases e;let ⟨a,b⟩:=FP hg (iP _ hq);let ⟨j,hj⟩:=Jk hq;have:=NM rs hj;rw[a] at this;cases this;exact ⟨hj,a,wK b⟩
def aHe {ps rs:ja} (hg:D7 (ps++rs)=I) (h:inP ps (ps++rs) j=I):g (uo (jY (ps++rs)) (uo (ps++rs) j))=g j:=by
 rcases (tG _ _).mp h with h|h
 rcases (tG _ _).mp h with h|h
 .let ⟨k,hk⟩:=PA.1 (show (lk j ps).isSome=I from h);let ⟨a,b⟩:=FP hg (iP _ (qk hk));rw[wK a,wK b]
 .let ⟨_,a,b⟩:=aiP h;rw[Jy a,Jy b]
 .unfold blP at h;split at h
  .rename_i k hk;rw[wK hk,wK ((wI hg).2 hk)]
  .cases h
def Rel.enter (r:Rel F g Z c s T H) {ps rs:ja} {bsw:de} (hg:D7 (ps++rs)=I) (hp:UI ps (ps++rs) s.bs bsw=V bs):
  Rel F (λk=>g (uo (jY (ps++rs)) k)) (λk=>Z (uo (jY (ps++rs)) k)) (λi=>(c i).bind λK=>lk K ps) ⟨[],bs⟩ noT (tj F c ps H):=by
 refine ⟨λt x hx=>(by cases hx),λk b' hk=> ?_,λi o hi=>⟨?_,?_⟩,λi hi=> ?_⟩
 .obtain ⟨K,b,w,h1,h2,h3,rfl⟩:=ahV hp hk;let ⟨a1,a2,a3⟩:=aSb hg h1;let ⟨q1,q2,q3⟩:=r.bx K b h2;rw[a3];refine ⟨ajw (q1.mv (.refl F) (bH g a3) λj hj=>aHe hg (jR.1 h3 j hj)),q2,λp hp=> ?_⟩
  let ⟨p1,p2⟩:=q3 p hp;refine ⟨?_,by rw[p2];exact a1⟩
  show (if F p.1≠A\/∃K,c p.1=V K/\lk K ps≠A then H p.1 else A)=_
  rw[ax (.inr ⟨K,p2,by rw[a1];simp⟩)]
  exact p1
 .show (if F i≠A\/∃K,c i=V K/\lk K ps≠A then H i else A)=_
  rw[ax (.inl (by rw[hi];simp))]
  exact (r.fr i o hi).1
 .rw[(r.fr i o hi).2];rfl
 .have hi:(if F i≠A\/∃K,c i=V K/\lk K ps≠A then H i else A)=A:=hi
  cases hc:c i with
  |none=>rfl
  |some K=>
   split at hi
   .rw[r.cn i hi] at hc;cases hc
   .rename_i h;show lk K ps=A;exact qP λhn=>h (.inr ⟨K,hc,hn⟩)
def ZH (al:ja):de->G de
 | []=>V []
 |p::l=>cq (lk p.1 (jY al)) (ZH al l) λK r=>aT (!oV p.1&&p.2.keys.all (inK (jY al) al)) (V ((K,p.2.iS (uo (jY al)))::r)) A
def apf {al:ja} {K:Nat} {b':Bx}:∀{l r:de},ZH al l=V r->lk K r=V b'->∃k b,(k,b)∈l/\lk k (jY al)=V K/\(oV k=U/\b.keys.all (inK (jY al) al)=I)/\b'=b.iS (uo (jY al))
 | [],r,h,hk=>by cases h;cases hk
 |p::l,r,h,hk=>by
  let ⟨K',r',h1,h2,h⟩:=bV h;let ⟨h3,h⟩:=bf h;cases h;rw[dH] at hk;split at hk
  .rename_i e;cases hk;exact ⟨p.1,p.2,am,e ▸ h1,by simpa[bI] using h3,rfl⟩
  .let ⟨k,b,m1,m2,m3,m4⟩:=apf h2 hk;exact ⟨k,b,fj _ m1,m2,m3,m4⟩
def Lx (l:de):Bool:=match l with| []=>I|p::l=>(lk p.1 l).isNone&&Lx l
def apI {k:Nat} {b:Bx}:∀{l:de},Lx l=I->(k,b)∈l->lk k l=V b
 |p::l,h,hm=>by
  have h:=j3.1 (show ((lk p.1 l).isNone&&Lx l)=I from h);rw[show p::l=(p.1,p.2)::l from rfl,dH];rcases cU.1 hm with e|hm
  .rw[<-e,ax rfl]
  .split
   .rename_i e;let ⟨y,hy⟩:=Jk hm;rw[e] at hy;rw[hy] at h;cases h.1
   .exact apI h.2 hm
def LM (al:ja) (l:de):de:=
 match al with
 | []=>l
 |q::al=>l3 q.1 (LM al l)
def aiu {k:Nat} {b:Bx}:∀{al:ja} {l:de},lk k (LM al l)=V b->lk k l=V b/\lk k al=A
 | [],_,h=>⟨h,rfl⟩
 |q::al,l,h=>by
  have h:lk k (l3 q.1 (LM al l))=V b:=h;rw[yw] at h;split at h
  .cases h
  .rename_i e;let ⟨a,b⟩:=aiu h;exact ⟨a,by rw[show q::al=(q.1,q.2)::al from rfl,dH,au e];exact b⟩
def LS.Ab (s:LS):bQ->LS
 | []=>s
 |K::l=>(s.qd K).Ab l
def Rel.Ab:∀{l:bQ} {s:LS},Rel F g Z c s T H->Rel F g Z c (s.Ab l) T H
 | [],_,r=>r
 |K::l,s,r=>show Rel F g Z c ((s.qd K).Ab l) T H from Rel.Ab (r.qd K)
def Rel.leave (r:Rel F g Z c s T H) (nr:∀x,nx<=x->H x=A) {F2:Hf} (rl:∀i k,c1 i=V k->c i=V k) (hF1:oW F F1) (hf1:∀i o,F1 i=V o->H i=V o/\c1 i=A) {ps rs:ja} {out:de} (hg:D7 (ps++rs)=I) (hnb:(ps.all λq=> !oV q.2)=I) (hgc:gc=λk=>g (uo (jY (ps++rs)) k)) (hF':oW F1 F') (r':Rel F' g' φ' c' ⟨[],hY⟩ noT H') (hold:∀x,x<nx->H' x≠A->tj F1 c1 ps H x≠A) (hbd':∀x,nZ<=x->H' x=A) (oH:nx<=nZ) (hA:oW F F2) (hB:∀i o,F2 i=V o->F' i=V o/\(F1 i≠A->F i≠A)) (hbx:∀k b ae,lk k hY=V b->fg F' g' k b ae->fg F2 g' k b ae) (ho:ZH (ps++rs) hY=V out) (hdup:Lx hY=I) (rm:∀k,oV k=I->g' k=gc k) (Yn:∀K k,lk K (ps++rs)=V k->g' k=gc k\/(∀t x,lk t s.ts=V x->K∉kU x)/\∀j b,lk j s.bs=V b->K∉b.keys):
  ∃g2 φ2 c2 H2,(∀K,lk K (ps++rs)=A->g2 K=g K)/\(∀K k,lk K (ps++rs)=V k->g2 K=g' k)/\Rel F2 g2 φ2 c2 ⟨s.ts,out++LM (GU (ps++rs)) s.bs⟩ T H2/\(∀x,nZ<=x->H2 x=A)/\
   (∀x,H x≠A->(∀K,c x=V K->lk K ps=A)->H2 x=H x/\c2 x=c x)/\(∀x,x<nx->H2 x≠A->H x≠A)/\(∀x,H' x≠tj F1 c1 ps H x->H2 x=H' x)/\(∀x,H' x=tj F1 c1 ps H x->H2 x=H x)/\∀x,H x≠A->(tj F1 c1 ps H x≠A->H' x=tj F1 c1 ps H x/\c' x=(c1 x).bind λK=>lk K ps)->H2 x=H x/\c2 x=c x:=by
 classical
 generalize hal:ps++rs=al at*;let H0:=tj F1 c1 ps H;let H2:Hf:=λx=>if H' x≠H0 x then H' x else H x
 let dom:Nat->Prop:=λi=>nx<=i\/∃K,c1 i=V K/\lk K ps≠A
 let c2:Nat->cC:=λi=>if dom i then (c' i).bind λk=>lk k (jY al) else c i
 let g2:Gb:=λj=>(lk j al).elim (g j) λk=>g' k
 let φ2:Nat->Ow:=λj=>(lk j (GU al)).elim (Z j) λk=>φ' k
 have aEU:∀{i o},H0 i=V o->H i=V o:=ahJ;have up:∀{i o},H' i=V o->H2 i=V o:=λ{i o} hi=>by
  show (if H' i≠H0 i then H' i else H i)=_
  split
  .exact hi
  .rename_i h;have h:H' i=H0 i:=qP h;exact aEU (h ▸ hi)
 have H0F:∀{i},H0 i≠A->¬dom i->F1 i≠A:=λ{i} h hd hf=>by
  refine h ?_;show (if F1 i≠A\/∃K,c1 i=V K/\lk K ps≠A then H i else A)=A
  rw[au];rintro (h1|h1)
  .exact h1 hf
  .exact hd (.inr h1)
 have aFb:∀{i},F1 i≠A->∃o,F1 i=V o/\H' i=V o/\H0 i=V o/\c' i=A:=λ{i} h=>by
  let ⟨o,ho⟩:=vB.1 h;let ⟨a,b⟩:=r'.fr i o (hF' i o ho);refine ⟨o,ho,a,?_,b⟩;show (if F1 i≠A\/∃K,c1 i=V K/\lk K ps≠A then H i else A)=_
  rw[ax (.inl h)];exact (hf1 i o ho).1
 have same:∀{x},H x≠A->¬dom x->H2 x=H x/\c2 x=c x:=λ{x} hx hd=>by
  refine ⟨?_,au hd⟩;show (if H' x≠H0 x then H' x else H x)=_
  split
  .rename_i dd;exfalso;by_cases h0:H0 x=A
   .exact hold x (zm λh=>hd (.inl h)) (λe=>dd (e.trans h0.symm)) h0
   .let ⟨o,_,a,b,_⟩:=aFb (H0F h0 hd);exact dd (a.trans b.symm)
  .rfl
 have lt:∀{x},H x≠A->x<nx:=λ{x} hx=>zm λh=>hx (nr x h)
 have g2n:∀{j},lk j al=A->g2 j=g j:=λ{j} h=>by show (lk j al).elim _ _=_;rw[h];rfl
 have g2s:∀{j k},lk j al=V k->g2 j=g' k:=λ{j k} h=>by show (lk j al).elim _ _=_;rw[h];rfl
 have gcK:∀{K k},lk K al=V k->gc k=g K:=λ{K k} h=>by rw[hgc];show g (uo (jY al) k)=_;rw[wK ((wI hg).2 h)]
 have keep:∀{j},((∃t x,lk t s.ts=V x/\j∈kU x)\/∃i b,lk i s.bs=V b/\j∈b.keys)->g2 j=g j:=λ{j} hj=>by
  cases h:lk j al with
  |none=>exact g2n h
  |some k=>
   rw[g2s h];rcases Yn j k h with e|⟨e1,e2⟩
   .rw[e,gcK h]
   .rcases hj with ⟨t,x,h1,h2⟩|⟨i,b,h1,h2⟩
    .exact absurd h2 (e1 t x h1)
    .exact absurd h2 (e2 i b h1)
 refine ⟨g2,φ2,c2,H2,λK=>g2n,λK k=>g2s,⟨λt x hx hu=> ?_,λj b hj=> ?_,λi o hi=> ?_,λi hi=> ?_⟩,λx hx=> ?_,λx hx hW=>same hx ?_,λx hx h2=> ?_,λx h=>ax h,λx h=>au (λhn=>hn h),λx hx hl=> ?_⟩
 .let ⟨v,v1,v2⟩:=r.tm t x hx hu;exact ⟨v,v1,v2.same hA λk hk=>keep (.inl ⟨t,x,hx,hk⟩)⟩
 .have hj:lk j (out++LM (GU al) s.bs)=V b:=hj;cases Oi:lk j out with
  |some b1=>
   rw[NM _ Oi] at hj;cases hj;obtain ⟨k,b0,m1,m2,m3,rfl⟩:=apf ho Oi;have qu:=apI hdup m1;have hja:=(wI hg).1 m2;let ⟨q1,q2,q3⟩:=r'.bx k b0 qu;rw[show φ2 j=φ' k from by show (lk j (GU al)).elim _ _=_;rw[(ayM hg).2 ⟨hja,m3.1⟩];rfl]
   refine ⟨(hbx k b0 _ qu q1).mv (.refl F2) (g2s hja) λi hi=> ?_,q2,λp hp=> ?_⟩
   .rcases (tG _ _).mp (jR.1 m3.2 i hi) with h|h
    .let ⟨K',hK'⟩:=PA.1 (show (lk i (jY al)).isSome=I from h);rw[wK hK'];exact g2s ((wI hg).1 hK')
    .let ⟨h1,h2,h3⟩:=aiP h;rw[Jy h3,g2n h2,rm i h1,hgc];show g i=g (uo (jY al) i);rw[Jy h3]
   .let ⟨p1,p2⟩:=q3 p hp;refine ⟨up p1,?_⟩;have hd:dom p.1:=qP λhd=>by
     have h0:=hold p.1 (zm λh=>hd (.inl h)) (by rw[p1];simp)
     let ⟨_,_,_,_,h⟩:=aFb (H0F h0 hd);rw[h] at p2;cases p2
    show (if dom p.1 then _ else _)=_
    rw[ax hd,p2];exact m2
  |none=>
   have hj:lk j (LM (GU al) s.bs)=V b:=by
    have key:∀{a:de} {d},lk j a=A->lk j (a++d)=lk j d:=λ{a d}=>by
     induction a with
     |nil=>exact λ_=>rfl
     |cons p a ih=>
      intro h;rw[show p::a=(p.1,p.2)::a from rfl,dH] at h;rw[show (p::a)++d=(p.1,p.2)::(a++d) from rfl,dH];split at h
      .cases h
      .rename_i e;rw[au e];exact ih h
    rw[<-key Oi];exact hj
   let ⟨h1,h2⟩:=aiu hj;let ⟨q1,q2,q3⟩:=r.bx j b h1;rw[show φ2 j=Z j from by show (lk j (GU al)).elim _ _=_;rw[h2];rfl]
   have hgj:g2 j=g j:=by
    cases hk:lk j al with
    |none=>exact g2n hk
    |some k=>rw[g2s hk,rm k (abm hg h2 hk),gcK hk]
   refine ⟨q1.same hA hgj λk hk=>keep (.inr ⟨j,b,h1,hk⟩),q2,λp hp=> ?_⟩
   let ⟨p1,p2⟩:=q3 p hp;have hd:¬dom p.1:=by
    rintro (h|⟨K,h3,h4⟩)
    .rw[nr _ h] at p1;cases p1
    .rw[rl _ _ h3] at p2;cases p2;refine h4 ?_;cases hp:lk j ps with
     |none=>rfl
     |some k=>
      have hk:lk j al=V k:=by rw[<-hal];exact NM _ hp
      have hb:=abm hg h2 hk;have:=(jR.1 hnb) _ (qk hp);rw[show oV (j,k).2=I from hb] at this;cases this
   let ⟨e1,e2⟩:=same (by rw[p1];simp) hd
   exact ⟨e1.trans p1,e2.trans p2⟩
 .let ⟨h1,h2⟩:=hB i o hi;let ⟨h3,h4⟩:=r'.fr i o h1;refine ⟨up h3,?_⟩;show (if dom i then _ else _)=_
  split
  .rw[h4];rfl
  .rename_i hd;have h0:=hold i (zm λh=>hd (.inl h)) (by rw[h3];simp)
   let ⟨o',ho'⟩:=vB.1 (h2 (H0F h0 hd));exact (r.fr i o' ho').2
 .show (if dom i then _ else _)=_
  have hi:(if H' i≠H0 i then H' i else H i)=A:=hi
  split
  .have:H' i=A:=by
    split at hi
    .exact hi
    .rename_i h;have h:H' i=H0 i:=qP h;rw[h];cases h0:H0 i with
     |none=>rfl
     |some o=>rw[aEU h0] at hi;cases hi
   rw[r'.cn i this];rfl
  .rename_i hd;split at hi
   .rename_i h;exfalso;have h0:H0 i≠A:=λe=>h (hi.trans e.symm)
    let ⟨o,_,a,_,_⟩:=aFb (H0F h0 hd);rw[hi] at a;cases a
   .exact r.cn i hi
 .show (if H' x≠H0 x then H' x else H x)=A
  rw[hbd' x hx,nr x (lO oH hx)];split<;>rfl
 .rintro (h|⟨K,h3,h4⟩)
  .exact hx (nr x h)
  .exact h4 (hW K (rl _ _ h3))
 .have h2:(if H' x≠H0 x then H' x else H x)≠A:=h2
  split at h2
  .intro hn;have h0:=hold x hx h2;let ⟨o,ho⟩:=vB.1 h0;rw[aEU ho] at hn;cases hn
  .exact h2
 .by_cases hd:dom x
  .rcases hd with h|⟨K,h3,h4⟩
   .exact absurd (nr x h) hx
   .let ⟨k,hk⟩:=vB.1 h4;have hh:H0 x=H x:=ax (.inr ⟨K,h3,h4⟩);let ⟨e1,e2⟩:=hl (show H0 x≠A by rw[hh];exact hx)
    refine ⟨?_,?_⟩
    .show (if H' x≠H0 x then H' x else H x)=_
     rw[au (λhn=>hn e1)]
    .show (if dom x then _ else _)=_
     rw[ax (.inr ⟨K,h3,h4⟩),e2,h3,rl _ _ h3];show (lk K ps).bind (λk=>lk k (jY al))=V K
     rw[hk];exact (wI hg).2 (by rw[<-hal];exact NM _ hk)
  .exact same hx hd
end
end Go.bM
namespace Go.bM
variable {all:oL} {o:pw} {K i new nZ k f:Nat} {x y:AV} {l ac ks:bQ} {i6:fD} {H0 H':Hf} {fv v:SV} {aa:bj} {ob:Prop->cF} {ae:Ow} {r:O'} {p:List cF×LS} {g1:Gh} {xs:bg} {ro:Bool} {Rd:G bQ} {Y:Type} {bs:de}
section
variable {F F':Hf} {g g':Gb} {Z:Nat->Ow} {c:Nat->cC} {s s' s1:LS} {T:Tf} {H:Hf} {E:Env} {pn:Nat->Bool} {nt:Nat}
structure WS where
 F:Hf
 g:Gb
 Z:Nat->Ow
 c:Nat->cC
 m:MS
structure In (s:LS) (w:WS):Prop where
 r:Rel w.F w.g w.Z w.c s w.m.T w.m.H
 bd:∀x,w.m.nx<=x->w.m.H x=A
def vd:Nat:=576460756598390784
structure Ext (pn:Nat->Bool) (w w':WS):Prop where
 F:oW w.F w'.F
 g:∀k,pn k=I->w'.g k=w.g k
 nx:w.m.nx<=w'.m.nx
 old:∀x,x<w.m.nx->w'.m.H x≠A->w.m.H x≠A
 ro:pn vd=I->∀x,w.m.H x≠A->w'.m.H x=w.m.H x/\w'.c x=w.c x
def Ext.refl (w:WS):Ext pn w w:=⟨.refl _,λ_ _=>rfl,cM _,λ_ _ h=>h,λ_ _ _=>⟨rfl,rfl⟩⟩
def Ext.trans {w w1 w2:WS} (a:Ext pn w w1) (b:Ext pn w1 w2):Ext pn w w2:=⟨a.F.trans b.F,λk h=>(b.g k h).trans (a.g k h),lO a.nx b.nx,λx hx h=>a.old x hx (b.old x (Ch hx a.nx) h),λh x hx=>have ⟨a1,a2⟩:=a.ro h x hx;have ⟨b1,b2⟩:=b.ro h x (a1 ▸ hx);⟨b1.trans a1,b2.trans a2⟩⟩
def KO (all:oL) (o:pw) (ts:fN):G Bool:=
 match o.guard with
 |none=>V I
 |some p=>(match ND all p.1 with
  |none=>V U
  |some t=>(match lk t ts with
   |some (.lit (.bool b))=>V (b==p.2)
   |some (.dh [])=>V U
   |_=>A))
def KN (r:Rel F g Z c s T H) {b:Bool} (h:KO all o s.ts=V b):kI all o T=V b:=by
 unfold KO at h;unfold kI;split at h
 .rename_i e;rw[e];exact h
 .rename_i p e;rw[e];show yR all T p.1 p.2=V b;unfold yR;split at h
  .rename_i e;rw[e];exact h
  .rename_i t e;rw[e];show aA (T t) (arq p.2)=V b;split at h
   .rename_i hl;let ⟨v,v1,v2⟩:=r.tm t _ hl am
    cases v2;rw[v1];exact h
   .rename_i hl;let ⟨v,v1,v2⟩:=r.tm t _ hl am
    cases v2 with|dh q=>cases q;rw[v1];exact h
   .cases h
def rdL (s:LS) (x:S'):G bQ:=
 match dR s.ts x with
 | .lit v=>(match lW (V v) with| []=>V []|_=>A)
 | .sl .. =>V []
 | .kX _=>V []
 | .agg _=>V []
 | .dh _=>V []
 | .fn .. =>V []
 | .kN .. =>V []
 | .el K _ _ _=>aA (lk K s.bs) λ_=>V [K]
 | .ms K _ _ _=>aA (lk K s.bs) λ_=>V [K]
 | .mp K=>(match lk K s.bs with|some (.map _)=>V [K]|_=>A)
 | .it K=>(match lk K s.bs with|some (.iter _ _)=>V [K]|_=>A)
 | .undef=>A
def K4 (s:LS):List S'->G bQ
 | []=>V []
 |x::l=>cq (rdL s x) (K4 s l) λa b=>V (a++b)
def OT (s:LS) (op:Op):G bQ:=
 match op with
 | .load _ x=>K4 s [x]
 | .store _ x y=>K4 s [x,y]
 | .lookup _ x k _=>K4 s [x,k]
 | .mapUpdate _ m k x=>K4 s [m,k,x]
 | .insert _ _ _ _=>A
 | .next it _=>K4 s [it]
 | .range _ x=>K4 s [x]
 | .call c=>K4 s c.args.toList
 |_=>V []
def Rel.head (r:Rel F g Z c s T H) {b:Bx} (hb:lk K s.bs=V b) (ta:(g K).b=I):c (g K).n=V K:=by
 let ⟨q,_,q3⟩:=r.bx K b hb;generalize Z K=ae at q q3;cases q with
 |flat=>exact (q3 _ kr).2
 |nil h=>rw[h] at ta;cases ta
 |bG=>exact (q3 _ kr).2
 |map=>exact (q3 _ kr).2
 |iter=>exact (q3 _ kr).2
def aMv (r:Rel F g Z c s T H) {x:S'} (h:rdL s x=V l):∀i∈lW (dy T x),F i≠A\/∃K∈l,c i=V K:=λi hi=>by
 have key:∀{y},dR s.ts x=y->y≠ .undef->∃v,VA F g v y/\i∈lW (V v):=λhy hu=>by
  let ⟨v,v1,v2⟩:=r.val hy hu;rw[v1] at hi;exact ⟨v,v2,hi⟩
 have one:∀{j k:Nat},i∈ [j]->c j=V k->F i≠A\/∃K∈ [k],c i=V K:=λh e=>.inr ⟨_,kr,by rw[gy.1 h];exact e⟩
 unfold rdL at h;split at h
 .rename_i v hv;let ⟨w,w1,w2⟩:=key hv am
  cases w1;split at h
  .rename_i e;rw[e] at w2;cases w2
  .cases h
 .rename_i hv;let ⟨w,w1,w2⟩:=key hv am
  cases w1 with
  |nil=>cases w2
  |sle=>cases w2
  |sl hn hF=>exact .inl (by rw[gy.1 w2];let ⟨o,ho⟩:=acj hF;rw[ho];simp)
 .rename_i hv;let ⟨w,w1,w2⟩:=key hv am
  cases w1 with
  |kX hF=>exact .inl (by rw[gy.1 w2];let ⟨o,ho⟩:=acj hF;rw[ho];simp)
 .rename_i hv;let ⟨w,w1,w2⟩:=key hv am
  cases w1;cases w2
 .rename_i hv;let ⟨w,w1,w2⟩:=key hv am
  cases w1;cases w2
 .rename_i hv;let ⟨w,w1,w2⟩:=key hv am
  cases w1;cases w2
 .rename_i hv;let ⟨w,w1,w2⟩:=key hv am
  cases w1;cases w2
 .rename_i hv;let ⟨b,hb,h⟩:=ak h;cases h;let ⟨w,w1,w2⟩:=key hv am
  cases w1 with|el _ _ _ _ ta=>exact one w2 (r.head hb ta)
 .rename_i hv;let ⟨b,hb,h⟩:=ak h;cases h;let ⟨w,w1,w2⟩:=key hv am
  cases w1 with
  |sw=>cases w2
  |zQ=>cases w2
  |ms _ _ _ ta=>exact one w2 (r.head hb ta)
 .rename_i hv;split at h
  .rename_i hb;cases h;let ⟨w,w1,w2⟩:=key hv am
   cases w1;let ⟨q,_,q3⟩:=r.bx _ _ hb;generalize Z _=ae at q q3;cases q with|map=>exact one w2 (q3 _ kr).2
  .cases h
 .rename_i hv;split at h
  .rename_i hb;cases h;let ⟨w,w1,w2⟩:=key hv am
   cases w1;let ⟨q,_,q3⟩:=r.bx _ _ hb;generalize Z _=ae at q q3;cases q with|iter=>exact one w2 (q3 _ kr).2
  .cases h
 .cases h
def aaf (r:Rel F g Z c s T H):∀{xs:List S'} {l:bQ},K4 s xs=V l->∀i∈rI T xs,F i≠A\/∃K∈l,c i=V K
 | [],_,_,i,hi=>by cases hi
 |x::xs,l,h,i,hi=>by
  let ⟨a,b,h1,h2,h⟩:=bV h;cases h;rcases fk.1 hi with hi|hi
  .exact (aMv r h1 i hi).imp_right λ⟨K,m,e⟩=>⟨K,iP _ m,e⟩
  .exact (aaf r h2 i hi).imp_right λ⟨K,m,e⟩=>⟨K,jw _ m,e⟩
def aiO {T:Tf}:∀{xs:List S'},∀i∈Lo T xs,i∈rI T xs
 |x::xs,i,hi=>by
  rcases fk.1 (show i∈idM (dy T x)++Lo T xs from hi) with hi|hi
  .refine iP _ ?_;generalize dy T x=v at hi;unfold idM at hi;split at hi
   .exact hi
   .cases hi
  .exact jw _ (aiO i hi)
def aKh (r:Rel F g Z c s T H) {op:Op} (h:OT s op=V l):∀i∈P8 op T,F i≠A\/∃K∈l,c i=V K:=by
 cases op<;>first
  |exact aaf r h
  |exact λi hi=>nomatch (show i∈ [] from hi)
  |(cases (show A=V l from h);done)
  |(
   rename_i c
   intro i hi
   refine aaf r h i ?_
   have hi:i∈aT (wE c) (Lo T c.args.toList) (rI T c.args.toList):=hi
   rw[cx] at hi
   split at hi
   .exact aiO i hi
   .exact hi)
structure Ev where
 i:Nat
 nw:Nat
 r:Sr1
 ac:bQ
 Rd:Option bQ
 cl:Bool
structure Step (E:Env) (nt:Nat) (pn:Nat->Bool) (ops:fD) (e:Ev) (w w':WS):Prop where
 st:∃o,ops[e.i]? =V o/\rM E nt ops e.i o w.m e.r w'.m
 F:oW w.F w'.F
 g:∀k,pn k=I->w'.g k=w.g k
 nx:w.m.nx<=w'.m.nx
 need:∀l,e.Rd=V l->∀x,e.r.need x->w.F x≠A\/∃K∈l,w.c x=V K
 D:∀x,e.r.D x=I->x=e.nw\/(e.cl=I/\w.m.nx<=x)\/∃K∈e.ac,w.c x=V K
 fr:∀x,w.m.H x≠A->(∀K∈e.ac,w.c x≠V K)->w'.m.H x=w.m.H x/\w'.c x=w.c x
 v7:e.cl=U->(∀x k,w.c x=V k->w'.c x=V k\/w'.m.H x=A)/\(w'.m.H e.nw≠A->∃K∈e.ac,w'.c e.nw=V K)
 born:∀x,w.m.H x=A->w'.m.H x≠A->x=e.nw\/w.m.nx<=x
 frp:∀x,e.r.frp x->x=e.nw\/(e.cl=I/\w.m.nx<=x)
 newp:∀x,e.r.newp x->(x=e.nw/\x<w'.m.nx)\/(e.cl=I/\w.m.nx<=x/\x<w'.m.nx)
def Step.op {op:Op} {w:WS} (hi:i6[i]? =V o) (he:o.op=op) (hk:Ok E pn op s s1 x ac) (hw:KO i6.toList o s.ts=V I) (hd:ot nt o.dst=I) (h:In s w) (hn:w.m.H new=A) (oH:w.m.nx<=nZ) (rV:new<nZ):
  ∃r w',Step E nt pn i6 ⟨i,new,r,ac,OT s op,U⟩ w w'/\In (s1.put o.dst x) w'/\w'.m.nx=nZ:=by
 subst he;let ⟨v,us,g',φ',c',h1,h2,h3,h4,h5,h6,h7,h8⟩:=hk.go h.r hn;have live:∀{x},iH w.m.H us x≠A->w.m.H x=A->x=new:=λ{x} dd h0=>by
  by_cases hm:x∈us.map (·.1)
  .obtain ⟨u,hu,rfl⟩:=dL.1 hm;rcases h6 u hu with e|⟨K,_,e⟩
   .exact e
   .rw[h.r.cn _ h0] at e;cases e
  .rw[ajR hm] at dd;exact absurd h0 dd
 refine ⟨_,⟨w.F,g',φ',c',_⟩,⟨⟨o,hi,rM.op hi (KN h.r hw) hd h1 hn oH⟩,.refl _,h4,oH,λl hl x hx=>aKh h.r hl x hx,λx hx=> ?_,h5,λ_=>⟨h7,h8⟩,λx h0 dd=>.inl (live dd h0),λx hx=>.inl hx,λx hx=>.inl ⟨hx.1,by rw[show x=new from hx.1];exact rV⟩⟩,⟨h3.put o.dst h2,λx hx=> ?_⟩,rfl⟩
 .have hx:A' (x∈us.map (·.1)\/x=new)=I:=hx
  rcases ux hx with hx|hx
  .obtain ⟨u,hu,rfl⟩:=dL.1 hx;exact (h6 u hu).imp_right λ⟨K,m,e⟩=>.inr ⟨K,m,e⟩
  .exact .inl hx
 .exact qP λdd=>by
   have:=live dd (h.bd x (lO oH hx));have hx:nZ<=x:=hx;omega
end
section
variable {F F':Hf} {g g':Gb} {Z:Nat->Ow} {c:Nat->cC} {s s' s1:LS} {T:Tf} {H:Hf} {E:Env} {pn:Nat->Bool} {nt:Nat}
def Step.skip {w:WS} (hi:i6[i]? =V o) (hw:KO i6.toList o s.ts=V U) (hd:ot nt o.dst=I) (h:In s w) (hn:w.m.H new=A) (oH:w.m.nx<=nZ):
  ∃r w',Step E nt pn i6 ⟨i,new,r,[],V [],U⟩ w w'/\In (s.put o.dst (.dh [])) w'/\w'.m.nx=nZ:=by
 have st:=rM.skip (E:=E) (nt:=nt) (i6:=i6) (i:=i) (new:=new) hi (KN h.r hw) hd hn;refine ⟨_,⟨w.F,w.g,w.Z,w.c,⟨eE w.m.T o.dst (.dh []),w.m.H,nZ⟩⟩,⟨⟨o,hi,⟨st.st,st.T,st.H,oH⟩⟩,.refl _,λ_ _=>rfl,oH,λl _ x hx=>(by cases hx),λx hx=>.inl (ux hx),λx _ _=>⟨rfl,rfl⟩,λ_=>⟨λ_ _ h=>.inl h,λh=>absurd hn h⟩,λx h0 dd=>absurd h0 dd,λx hx=>.inl hx,λx hx=>by cases hx⟩,⟨h.r.put o.dst λ_=>.dh .nil,λx hx=>h.bd x (lO oH hx)⟩,rfl⟩
open Classical in
def rM.aIk {m:MS} {c:Call} {H2:Hf} (hi:i6[i]? =V o) (hw:kI i6.toList o m.T=V I) (hd:ot nt o.dst=I) (gP:o.op= .call c) (hc:BG m.T c.callee=V fv) (has:gN m.T c.args.toList=V aa) (hs:p8 E U fv aa H0 m.nx v H' nZ) (lm:∀x y,H0 x=V y->m.H x=V y) (hb:∀x,m.nx<=x->m.H x=A) (hn:m.nx<=nZ) (e1:∀x,H' x≠H0 x->H2 x=H' x) (e2:∀x,H' x=H0 x->H2 x=m.H x):
  rM E nt i6 i o m ⟨v,λx=>A' (H' x≠H0 x),H',λx=>H0 x≠A,λx=>m.nx<=x,λx=>m.nx<=x/\x<nZ⟩ ⟨eE m.T o.dst v,H2,nZ⟩:=by
 have h0:∀x,m.nx<=x->H0 x=A:=λx hx=>by
  cases h:H0 x with
  |none=>rfl
  |some y=>have:=lm x y h;rw[hb x hx] at this;cases this
 refine ⟨λro=> ?_,rfl,?_,hn⟩
 .have key:=awR (E:=E) (ro:=ro) (nt:=nt) (D:=λx=>A' (H' x≠H0 x)) hi hw hd gP hc has hs (λx hx _=>by simpa using hx) λx hx hl=>(show H' x=H0 x by simpa using hx).trans (h0 x hl)
  exact λm' g f T1 a w K Q hE jB hr hT Lt rV hk=>key m' g f T1 a w K Q hE jB hr hT (λx hx=>by
   let ⟨y,hy⟩:=vB.1 hx;rw[Lt x hx,lm x y hy,hy]) rV hk
 .funext x;show H2 x=sV _ H' m.H x;unfold sV;split
  .rename_i h;exact e1 x (by simpa using h)
  .rename_i h;exact e2 x (by simpa using h)
mutual
def GR:AV->Bool
 | .agg cs=>wx cs
 | .dh cs=>wx cs
 | .fn _ a b=>wx a&&wx b
 | .kN _ x=>GR x
 | .sl .. =>U
 | .kX _=>U
 |_=>I
def wx:bg->Bool
 | []=>I
 |x::l=>GR x&&wx l
end
mutual
def NF:∀{x:AV} {v:SV},GR x=I->VA F g v x->VA F' g v x
 | .agg cs,_,h,.agg q=>.agg (EI h q)
 | .dh cs,_,h,.dh q=>.dh (EI h q)
 | .fn f a b,_,h,.fn _ q1 q2=>have h:=j3.1 (show (wx a&&wx b)=I from h); .fn _ (EI h.1 q1) (EI h.2 q2)
 | .kN t x,_,h,.kN _ q=>.kN t (NF (x:=x) h q)
 | .sl ..,_,h,_=>by cases (show U=I from h)
 | .kX _,_,h,_=>by cases (show U=I from h)
 | .lit _,_,_,.lit v=>.lit v
 | .el ..,_,_,.el K s j f hb=>.el K s j f hb
 | .ms ..,_,_,.sw s hb=>.sw s hb
 | .ms ..,_,_,.ms s lo n hb=>.ms s lo n hb
 | .ms ..,_,_,.zQ s lo hl=>.zQ s lo hl
 | .mp _,_,_,.mp K=>.mp K
 | .it _,_,_,.it K=>.it K
 | .undef,v,_,_=>.undef v
def EI:∀{x:bg} {v:bj},wx x=I->dS F g v x->dS F' g v x
 |_,_,_,.nil=>.nil
 |x::l,_,h,.cons q t=>have h:=j3.1 (show (GR x&&wx l)=I from h); .cons (NF h.1 q) (EI h.2 t)
end
def aET (Q:bB):Prop:=∀r∈Q,wx r=I
def lN.GR:∀{l vs xs ae},wx xs=I->lN F l vs xs ae->lN F' l vs xs ae
 |_,_,_,_,_,.nil=>.nil
 |l,_,x::xs,_,h,.cons q t=>by
  have h:=j3.1 (show (bM.GR x&&wx xs)=I from h);refine .cons ?_ (t.GR h.2);generalize l.headD .d=sh at q;cases q with
  |d q=>exact .d (NF h.1 q)
  |any=>exact .any _
  |nil=>exact .nil
  |sl=>cases (show U=I from h.1)
def TR.GR:∀{l vs Q ae},aET Q->TR F l vs Q ae->TR F' l vs Q ae
 |_,_,_,_,_,.nil=>.nil
 |_,_,_,_,h,.cons q t=>.cons (q.GR (h _ am)) (t.GR λr hr=>h r (fj _ hr))
def nodX (ob:Prop->cF) (b:Bx):G (List cF):=
 match b with
 | .flat _ cs=>aT (wx cs) (V []) A
 | .bG _ _ _ _ Q o=>aT (wx (o.map (·.2))) (V [ob (aET Q)]) A
 | .iter _ _=>V []
 | .map _=>A
def aCB (ob:Prop->cF):de->G (List cF)
 | []=>V []
 |p::l=>cq (nodX ob p.2) (aCB ob l) λa r=>V (a++r)
def aik:∀{l:bg} {x:AV},wx l=I->x∈l->GR x=I
 |y::l,x,h,hx=>by
  have h:=j3.1 (show (GR y&&wx l)=I from h);rcases cU.1 hx with rfl|hx
  .exact h.1
  .exact aik h.2 hx
def aKj (gX:∀P,(ob P).need=P) {b:Bx} {r:List cF} (h:nodX ob b=V r) (ho:jF r) (q:fg F g k b ae):fg F' g k b ae:=by
 cases q with
 |flat q=>exact .flat (EI (bf h).1 q)
 |nil hb=>exact .nil hb
 |bG hb hz hu hc q hoA=>
  let ⟨h2,h⟩:=bf h;cases h;have h3:=ho.1;rw[gX] at h3;refine .bG hb hz hu hc (q.GR h3) λp hp=> ?_
  let ⟨v,v1,v2⟩:=hoA p hp;exact ⟨v,v1,NF (aik h2 (dL.2 ⟨p,hp,rfl⟩)) v2⟩
 |map=>cases h
 |iter=>exact .iter
def qf:∀{a b:List cF},jF (a++b)->jF a/\jF b
 | [],_,h=>⟨trivial,h⟩
 |_::_,_,h=>⟨⟨h.1,(qf h.2).1⟩,(qf h.2).2⟩
def apj {ob:Prop->cF} (gX:∀P,(ob P).need=P) {k:Nat} {b:Bx} {ae:Ow}:∀{l:de} {r:List cF},aCB ob l=V r->jF r->(k,b)∈l->fg F g k b ae->fg F' g k b ae
 |p::l,r,h,ho,hm,q=>by
  let ⟨a,r',h1,h2,h⟩:=bV h;cases h;let ⟨o1,o2⟩:=qf ho;rcases cU.1 hm with e|hm
  .subst e;exact aKj gX h1 o1 q
  .exact apj gX h2 o2 hm q
structure GI where
 {P:Prop}
 h:P
 gp:Gp
def GX {P:Prop} (h:P) (need:Prop):cF:=⟨need,P,h⟩
inductive It (E:Env) where
 |op {P:Prop} (h:P) (pl:Pl)
 |gh (g:GI)
 |ord (l:bQ)
 |call {ro:Bool} {f:Nat} {bs hY:de} {xs:bg} {y:AV} (h:kM ro E f bs xs y hY) (ps rs:ja)
 |LV {ro:Bool} {f:Nat} {xs:bg} {y:AV} (h:kM ro E f [] xs y [])
 |opF {P:Prop} (h:P) (pl:Pl) (fz:List GI)
 |aIj {f:Nat} {bs hY:de} {xs:bg} {y:AV} {P:Prop} (h:iE E f bs xs y hY) (gs:List GI) (hd:P) (ps rs:ja) (fz:List GI)
def Gp.key:Gp->Nat
 | .eD K _ _=>K
 | .cls _ K2 _ _ _ _=>K2
 |_=>0
def adx (q:GI) (s:LS):G (List cF×LS):=
 match q.gp with
 | .eD _ _ _=>Lv (λ_=>U) s q.gp (GX q.h)
 | .cld _ _ _ _ _=>Lv (λ_=>U) s q.gp (GX q.h)
 |_=>A
def asn (q q2:GI) (s:LS):G (List cF×LS):=
 match q.gp,q2.gp with
 | .cls K _ _ _ _ _,.eD K' m n=>aT (Cz K' K) (aA (Lv (λ_=>U) s q.gp (GX q.h)) λp=>aA (lk K p.2.bs) λb=>V (p.1++NK p.2 K n b (GX q2.h),p.2.NJ K m n b)) A
 |_,_=>A
def aSy (q:GI):Bool:=match q.gp with| .cls _ _ _ _ _ _=>I|_=>U
def U0:List GI->LS->G (List cF×LS)
 | [],s=>V ([],s)
 | [q],s=>adx q s
 |q::q2::l,s=>aT (aSy q) (aA (asn q q2 s) λp=>aA (U0 l p.2) λp'=>V (p.1++p'.1,p'.2)) (aA (adx q s) λp=>aA (U0 (q2::l) p.2) λp'=>V (p.1++p'.1,p'.2))
def Cb (F:Hf) (g:Gb) (c:Nat->cC) (T:Tf) (H:Hf) (ks:bQ) (s:LS):Prop:=∃F1 φ1 c1,oW F F1/\((∀i k,c1 i=V k->c i=V k)/\∀i,F1 i≠A->F i≠A\/∃K∈ks,c i=V K)/\Rel F1 g φ1 c1 s T H
def Cb.mono {NP:bQ} (h:Cb F g c T H ks s) (hk:∀K∈ks,K∈NP):Cb F g c T H NP s:=
 let ⟨F1,φ1,c1,a1,a2,a3⟩:=h
 ⟨F1,φ1,c1,a1,⟨a2.1,λi h=>(a2.2 i h).imp_right λ⟨K,m,e⟩=>⟨K,hk K m,e⟩⟩,a3⟩
def aiv {q:GI} {s:LS} (h:adx q s=V p) (ho:jF p.1) {F:Hf} {g:Gb} {Z:Nat->Ow} {c:Nat->cC} {T:Tf} {H:Hf} (r:Rel F g Z c s T H):Cb F g c T H [q.gp.key] p.2:=by
 unfold adx at h;split at h
 .rename_i K m n e;rw[e] at h;let ⟨b,hb,h⟩:=ak h;cases h;let ⟨F',c',a1,a2,a3⟩:=r.eD (m:=m) (n:=n) (ob:=GX q.h) (λ_=>rfl) hb ho
  exact ⟨F',Z,c',a1,⟨a2.1,λi h=>(a2.2.1 i h).imp_right λh=>⟨_,kr,by rw[e];exact h⟩⟩,a3⟩
 .rename_i K j f y Q' e;rw[e] at h;let ⟨b,hb,h⟩:=ak h;split at h
  .let ⟨y',hy,h⟩:=ak h;let ⟨hf,h⟩:=bf h;cases h;let ⟨φ',c',a1,a2⟩:=r.K1 hb λq'=>fg.cld ho.2.1 ho.1 hy ((bO _ _).1 hf) q'
   exact ⟨F,φ',c',.refl _,⟨a1,λ_ h=>.inl h⟩,a2⟩
  .cases h
 .cases h
def aCK {q q2:GI} {s:LS} (h:asn q q2 s=V p) (ho:jF p.1) {F:Hf} {g:Gb} {Z:Nat->Ow} {c:Nat->cC} {T:Tf} {H:Hf} (r:Rel F g Z c s T H):Cb F g c T H [q.gp.key,q2.gp.key] p.2:=by
 unfold asn at h;split at h
 .rename_i K K2 j f n1 Q' K' m n e e2;let ⟨hK,h⟩:=bf h;obtain rfl:=(f9 _ _).1 hK;let ⟨p1,h1,h⟩:=ak h;let ⟨b,hb,h⟩:=ak h;cases h;let ⟨o1,o2⟩:=qf ho;rw[e] at h1;let ⟨φ1,c1,a1,a2⟩:=r.gcls (λ_=>rfl) h1 o1
  let ⟨F',c',b1,b2,b3⟩:=a2.eD (m:=m) (n:=n) (ob:=GX q2.h) (λ_=>rfl) hb o2
  rw[e,e2];refine ⟨F',φ1,c',b1,⟨λi k hi=> ?_,λi hi=> ?_⟩,b3⟩
  .rcases a1 i k (b2.1 i k hi) with h'|⟨h',_⟩
   .exact h'
   .exact absurd (h' ▸ hi) (b2.2.2.2 i)
  .rcases b2.2.1 i hi with h|h
   .exact .inl h
   .rcases a1 i _ h with h|⟨_,h⟩
    .exact .inr ⟨_,fj _ kr,h⟩
    .exact .inr ⟨_,kr,h⟩
 .cases h
def Cb.then {NP:bQ} {s':LS} (h:Cb F g c T H ks s) (k:∀{F1 φ1 c1},Rel F1 g φ1 c1 s T H->Cb F1 g c1 T H NP s'):Cb F g c T H (ks++NP) s':=by
 let ⟨F1,φ1,c1,a1,a2,a3⟩:=h;let ⟨F2,φ2,c2,b1,b2,b3⟩:=k a3;refine ⟨F2,φ2,c2,a1.trans b1,⟨λi k h=>a2.1 i k (b2.1 i k h),λi h=> ?_⟩,b3⟩
 rcases b2.2 i h with h|⟨K,m,e⟩
 .exact (a2.2 i h).imp_right λ⟨K,m,e⟩=>⟨K,iP _ m,e⟩
 .exact .inr ⟨K,jw _ m,a2.1 i K e⟩
def ahM:∀{l:List GI} {s:LS} {p:List cF×LS},U0 l s=V p->jF p.1->∀{F:Hf} {g:Gb} {Z:Nat->Ow} {c:Nat->cC} {T:Tf} {H:Hf},Rel F g Z c s T H->Cb F g c T H (l.map λq=>q.gp.key) p.2
 | [],s,p,h,_,F,g,Z,c,T,H,r=>by cases h;exact ⟨F,Z,c,.refl _,⟨λ_ _ h=>h,λ_ h=>.inl h⟩,r⟩
 | [q],s,p,h,ho,F,g,Z,c,T,H,r=>aiv h ho r
 |q::q2::l,s,p,h,ho,F,g,Z,c,T,H,r=>by
  unfold U0 at h;rw[cx] at h;split at h
  .let ⟨p1,h1,h⟩:=ak h;let ⟨p2,h2,h⟩:=ak h;cases h;let ⟨o1,o2⟩:=qf ho;exact (aCK h1 o1 r).then λr1=>ahM h2 o2 r1
  .let ⟨p1,h1,h⟩:=ak h;let ⟨p2,h2,h⟩:=ak h;cases h;let ⟨o1,o2⟩:=qf ho;exact (aiv h1 o1 r).then λr1=>ahM (l:=q2::l) h2 o2 r1
end
section
variable {F F':Hf} {g g':Gb} {Z:Nat->Ow} {c:Nat->cC} {s s' s1:LS} {T:Tf} {H:Hf} {E:Env} {pn:Nat->Bool} {nt:Nat}
def H6:SV->Bool
 | .bool _=>I
 | .int _ _=>I
 | .str _=>I
 |_=>U
def aCJ:AV->Bool
 | .lit v=>H6 v
 |_=>U
def U2:bg->Bool
 | []=>I
 |x::l=>aCJ x&&U2 l
def litA:AV->Bool
 | .lit v=>H6 v
 | .agg cs=>U2 cs
 |_=>U
def Yb:SV->Bool
 | .agg cs=>cs.all H6
 |v=>H6 v
def aax:∀{xs:bg} {vs:bj},U2 xs=I->dS F g vs xs->vs.all H6=I/\dS F' g' vs xs
 | [],_,_,.nil=>⟨rfl,.nil⟩
 |x::l,_,h,.cons (v:=v) hv ht=>by
  have h:=j3.1 (show (aCJ x&&U2 l)=I from h);let ⟨h1,h2⟩:=aax h.2 ht;cases x with
  |lit w=>
   cases hv;exact ⟨by rw[rZ,h1,Bool.and_true];exact h.1,.cons (.lit _) h2⟩
  |_=>cases h.1
def aMF (h:H6 v=I):Yb v=I:=by cases v<;>first|exact h|cases h
def apw (h:litA x=I) (hv:VA F g v x):Yb v=I/\VA F' g' v x:=by
 cases x with
 |lit w=>cases hv;exact ⟨aMF h,.lit _⟩
 |agg cs=>
  cases hv with
  |agg hv=>
  let ⟨h1,h2⟩:=aax (F':=F') (g':=g') h hv;exact ⟨h1,.agg h2⟩
 |_=>cases h
def aaw {g2:Gh} (he:g2.η=g1.η) (h:H6 v=I) (hv:VR g1 r v):VR g2 r v:=by
 cases hv<;>first|(cases h;done)|skip
 .exact .bool _
 .rename_i hn;exact .int _ _ (by rw[he];exact hn)
 .exact .str _
def Qi {g1 g2:Gh} (he:g2.η=g1.η):∀{vs:bj} {us:gn},vs.all H6=I->ow g1 us vs->ow g2 us vs
 | [],_,_,.nil=>.nil
 |v::vs,_,h,.cons hv ht=>by
  rw[rZ,bI] at h;exact .cons (aaw he h.1 hv) (Qi he h.2 ht)
def apv {g1 g2:Gh} (he:g2.η=g1.η):∀{vs:bj} {us:gn},vs.all H6=I->iR g1 us vs->iR g2 us vs
 | [],_,_,.nil=>.nil
 |v::vs,_,h,.cons h1 hv ht=>by
  rw[rZ,bI] at h;exact .cons h1 (aaw he h.1 hv) (apv he h.2 ht)
def aKn {g2:Gh} (he:g2.η=g1.η) (h:Yb v=I) (hv:VR g1 r v):VR g2 r v:=by
 cases v<;>first
  |exact aaw he h hv
  |(cases hv with|agg hv=>exact .agg (apv he h hv))
def ajE (E:Env) (s:LS) (op:Op) {ro:Bool} {f:Nat} {xs:bg} {y:AV} (h:kM ro E f [] xs y []):G nU:=
 match op with
 | .call c=>(match c.callee with
  | .value o=>(match dR s.ts o with
   | .fn f' [] []=>aT (Cz f' f&&(U2 (rF s.ts c.args.toList)&&litA y)) (V ⟨[⟨kM ro E f [] (rF s.ts c.args.toList) y [],_,h⟩],s,y,[]⟩) A
   |_=>A)
  |_=>A)
 |_=>A
def rM.pure {m:MS} {nx0:Nat} {c:Call} (hi:i6[i]? =V o) (hw:kI i6.toList o m.T=V I) (hd:ot nt o.dst=I) (gP:o.op= .call c) (hc:BG m.T c.callee=V (.fn (.func f) [] [])) (has:gN m.T c.args.toList=V aa) (ha:aa.all H6=I) (hv:Yb v=I) (hs:p8 E U (.fn (.func f) [] []) aa (λ_=>A) 0 v H' nx0) (hn:m.nx<=nZ):rM E nt i6 i o m ⟨v,λ_=>U,m.H,λ_=>False,λ_=>False,λ_=>False⟩ ⟨eE m.T o.dst v,m.H,nZ⟩:=by
 refine ⟨λro k g f1 T1 a w K Q hE jB hr hT Lt rV hk=> ?_,rfl,funext λx=>rfl,hn⟩
 let g0:Gh:={g with ρ:=λ_=>A}
 refine aph (g:=g) (H:=λ_=>A) (nx:=0) (KE:=λe w'=>∃r,e=adM U r/\VR g r v/\w.heap.size<=w'.heap.size/\(∀b,b<w.heap.size->w'.heap[b]? =w.heap[b]?)/\w'.os=w.os/\w'.tape=w.tape/\w'.output=w.output) hi hw gP hc has jB hT (λu us hu mK=> ?_) ?_
 .refine (hs (k-1) g0 w u us ⟨hE.ty,hE.fn,hE.lt,hE.eq,hE.mix,hE.sz⟩ ⟨λid o h=>(by cases h),λi j x y b c d h=>(by cases h)⟩ (λ_ _=>rfl) ?_ (Qi (g1:=g) (g2:=g0) rfl ha mK)).mono λe w' ⟨r,he,g',h1,h2,h3,h4,h5⟩=>⟨r,he,aKn (show g.η=g'.η from h3.le.η.symm) hv h1,h3.size,λb hb=>h3.old b hb λ⟨id,o,c,q,_⟩=>(by cases q),h3.os,h3.tape,h3.output⟩
  cases hu with
  | @fn _ first kL _ _ q1 q2=>exact .fn (Qi (g1:=g) (g2:=g0) rfl rfl q1) (Qi (g1:=g) (g2:=g0) rfl rfl q2)
 .rintro e w' ⟨r,rfl,h1,h2,h3,h4,h5,h6⟩;refine ⟨U,r,rfl,λ_=> ?_,λh=>by cases h⟩
  have e1:sV (λ_=>U) m.H f1=f1:=rfl
  refine hk r w' g (jB.put hd h1) (hr.grow h2 h3) ⟨h4,h5,h6,h2,.refl _,λb hb _=>h3 b hb,λb hb h=>h⟩ λ_ _=>rfl
def Step.LV {op:Op} {w:WS} {hC:kM ro E f [] xs y []} {r:nU} (hi:i6[i]? =V o) (he:o.op=op) (hk:ajE E s op hC=V r) (ho:jF r.CB) (hw:KO i6.toList o s.ts=V I) (hd:ot nt o.dst=I) (h:In s w) (nw:Nat) (hn:w.m.H nw=A) (oH:w.m.nx<=nZ):
  ∃r1 w',Step E nt pn i6 ⟨i,nw,r1,r.ac,V [],U⟩ w w'/\In (r.s.put o.dst r.x) w'/\w'.m.nx=nZ:=by
 subst he;unfold ajE at hk;split at hk
 .rename_i cl gP;split at hk
  .rename_i x aDC;split at hk
   .rename_i f' hx;let ⟨hc,hk⟩:=bf hk;cases hk;simp only[bI] at hc;let ⟨k1,k2,k3⟩:=hc;obtain rfl:=(f9 _ _).1 k1;have hC':kM ro E f' [] (rF s.ts cl.args.toList) y []:=ho.1;let ⟨fv,v1,v2⟩:=h.r.val hx am
    have hnu:sd (rF s.ts cl.args.toList)=I:=by
     generalize rF s.ts cl.args.toList=l at k2;induction l with
     |nil=>rfl
     |cons x l ih=>
      have k2:=j3.1 (show (aCJ x&&U2 l)=I from k2);show aT (tW x) U (sd l)=I;cases x with
      |lit=>exact ih k2.2
      |_=>cases k2.1
    let ⟨aa,w1,w2⟩:=h.r.gN hnu;let ⟨ha,has⟩:=aax (F':=λ_=>A) (g':=mn) k2 w2
    let ⟨F',g',φ',c',v,H',nx0,e1,e2,e3,e4,e5,e6,e7,e8,e9⟩:=hC'.go (F:=λ_=>A) (g:=mn) (Z:=λ_=> []) (c:=λ_=>A) (H:=λ_=>A) (nx:=0) (aa:=aa) ⟨λt x ht=>(by cases ht),λk b hb=>(by cases hb),λi o hi=>(by cases hi),λ_ _=>rfl⟩ (λ_ _=>rfl) has
    let ⟨hv,_⟩:=apw (F':=F') (g':=g') k3 e6;have hva:VA w.F w.g v y:=(apw k3 e6).2;have hfv:fv= .fn (.func f') [] []:=by
     cases v2 with|fn _ q1 q2=>cases q1;cases q2;rfl
    rw[hfv] at v1;have stp:=rM.pure (nt:=nt) (m:=w.m) hi (KN h.r hw) hd gP (show BG w.m.T cl.callee=V (.fn (.func f') [] []) by rw[aDC];exact v1) w1 ha hv e1 oH
    exact ⟨_,⟨w.F,w.g,w.Z,w.c,_⟩,⟨⟨o,hi,stp⟩,.refl _,λ_ _=>rfl,oH,λl _ x hx=>hx.elim,λx hx=>(by cases hx),λx _ _=>⟨rfl,rfl⟩,λ_=>⟨λ_ _ hh=>.inl hh,λhh=>absurd hn hh⟩,λx h0 dd=>absurd h0 dd,λx hx=>hx.elim,λx hx=>hx.elim⟩,⟨h.r.put o.dst λ_=>hva,λx hx=>h.bd x (lO oH hx)⟩,rfl⟩
   .cases hk
  .cases hk
 .cases hk
def Step.aRk {nw:Nat} {r:Sr1} {w w':WS} (h:Step E nt pn i6 ⟨i,nw,r,ac,Rd,U⟩ w w'):Step E nt pn i6 ⟨i,nw,r,ac,Rd,I⟩ w w':=
 ⟨h.st,h.F,h.g,h.nx,h.need,λx hx=>(h.D x hx).imp_right λq=>q.elim (λq=>(nomatch q.1)) .inr,h.fr,λq=>(nomatch q),h.born,λx hx=>(h.frp x hx).imp_right λq=>(nomatch q.1),λx hx=>(h.newp x hx).imp_right λq=>(nomatch q.1)⟩
def Qp (K:Nat):de->Bool
 | []=>I
 |p::l=> !nN K p.2.keys&&Qp K l
def aaC {K:Nat}:∀{bs:de},Qp K bs=I->∀k b,lk k bs=V b->K∉b.keys
 |(k',b')::l,hf,k,b,hx=>by
  have hf:=j3.1 (show (!nN K b'.keys&&Qp K l)=I from hf);rw[dH] at hx;split at hx
  .cases hx;exact Ld hf.1
  .exact aaC hf.2 k b hx
def unP (bs:de) (ps:ja):bQ:=(ps.filter λq=> !pnL (xQ bs) q.2).map (·.1)
def pinP (pn:Nat->Bool) (bs:de) (s:LS) (al:ja):Bool:=al.all λq=>pnL (xQ bs) q.2||(!pn q.1&&(Qo q.1 s.ts&&Qp q.1 s.bs))
def nodG (gs:List GI) (y:AV) (hY:de) (ob:Prop->cF):G (List cF):=
 match gs with
 | []=>V []
 |_=>aT (GR y) (aCB ob hY) A
def adQ (E:Env) (pn:Nat->Bool) (s:LS) (op:Op) {ro:Bool} {f:Nat} {bs hY:de} {xs:bg} {y:AV} (h:kM ro E f bs xs y hY) (gs:List GI) (ob:Prop->cF) (ps rs:ja):G nU:=
 match op with
 | .call c=>(match c.callee with
  | .value o=>aA (U0 gs s) λq=>(match dR q.2.ts o with
   | .fn f' fi ca=>uQ (UI ps (ps++rs) q.2.bs bs) (ZH (ps++rs) hY) (nodG gs y hY ob) λb out nd=>
    aT ((Cz f' f&&(sd (rF q.2.ts c.args.toList)&&((D7 (ps++rs)&&ps.all λq=> !oV q.2)&&Lx hY)))&&(((l8 (fi++rF q.2.ts c.args.toList++ca)).all (inP ps (ps++rs))&&(kU y).all (inK (jY (ps++rs)) (ps++rs)))&&pinP pn bs (s.Ab (unP bs ps)) (ps++rs)))
     (V ⟨⟨kM ro E f b (Oz xs (vR (uo (ps++rs)) (fi++rF q.2.ts c.args.toList++ca))) y hY,_,h⟩::(q.1++nd),⟨(s.Ab (unP bs ps)).ts,out++LM (GU (ps++rs)) (s.Ab (unP bs ps)).bs⟩,Fg (uo (jY (ps++rs))) y,aT ro [] ((GU (ps++rs)).map (·.1))⟩) A
   |_=>A)
  |_=>A)
 |_=>A
def anE {pp γ δ:Type} {x:G Y} {y:G pp} {z:G γ} {f:Y->pp->γ->G δ} {d:δ} (h:uQ x y z f=V d):∃a b c,x=V a/\y=V b/\z=V c/\f a b c=V d:=by
 cases x<;>cases y<;>cases z<;>first|(cases h;done)|exact ⟨_,_,_,rfl,rfl,rfl,h⟩
def aal {ps al:ja} {sb:de}:∀{l r:de},UI ps al sb l=V r->xQ r=xQ l
 | [],r,h=>by cases h;rfl
 |p::l,r,h=>by
  let ⟨b,r',h1,h2,h⟩:=bV h;let ⟨_,h⟩:=bf h;cases h;exact bH (p.1:: ·) (aal h2)
def Step.call {op:Op} {w:WS} {hY:de} {hC:kM ro E f bs xs y hY} {gs:List GI} {ps rs:ja} {r:nU} (gX:∀P,(ob P).need=P) (hi:i6[i]? =V o) (he:o.op=op) (hk:adQ E pn s op hC gs ob ps rs=V r) (ho:jF r.CB) (hw:KO i6.toList o s.ts=V I) (hd:ot nt o.dst=I) (h:In s w) (nw:Nat):
  ∃r1 w',Step E nt pn i6 ⟨i,nw,r1,r.ac,V (ps.map (·.1)++gs.map λq=>q.gp.key),I⟩ w w'/\In (r.s.put o.dst r.x) w':=by
 subst he;unfold adQ at hk;split at hk
 .rename_i cl gP;split at hk
  .rename_i x aDC;let ⟨q,hq,hk⟩:=ak hk;split at hk
   .rename_i f' fi ca hx;let ⟨b,out,nd,hb,Oi,DI,hk⟩:=anE hk;let ⟨hc,hk⟩:=bf hk;cases hk;simp only[bI] at hc;let ⟨⟨k1,k2,⟨k3,k3b⟩,k4⟩,⟨k5,k6⟩,k7⟩:=hc;obtain rfl:=(f9 _ _).1 k1;let ⟨o1,o2⟩:=ho;let ⟨o2,o3⟩:=qf o2;have hC':kM ro E f' b (Oz xs (vR (uo (ps++rs)) (fi++rF q.2.ts cl.args.toList++ca))) y hY:=o1;let ⟨F1,φ1,c1,a1,⟨a2,a3⟩,r1⟩:=ahM hq o2 h.r;let ⟨fv,v1,v2⟩:=r1.val hx am
    let ⟨aa,w1,w2⟩:=r1.gN k2;cases v2 with
    | @fn _ _ fis cas _ _ q1 q2=>
    have hg:=k3;let gc:Gb:=λk=>w.g (uo (jY (ps++rs)) k)
    have rc:=r1.enter hg hb;have B7:dS F1 gc (fis++aa++cas) (Oz xs (vR (uo (ps++rs)) (fi++rF q.2.ts cl.args.toList++ca))):=JD (((q1.append w2).append q2).map (.refl F1) λj hj=>aHe hg (jR.1 k5 j hj))
    have nr:∀x,w.m.nx<=x->tj F1 c1 ps w.m.H x=A:=λx hx=>by
     cases e:tj F1 c1 ps w.m.H x with
     |none=>rfl
     |some o=>have:=ahJ e;rw[h.bd x hx] at this;cases this
    let ⟨F',g',φ',c',v,H',nZ,e1,e2,e3,e4,e5,e6,e7,e8,e9⟩:=hC'.go rc nr B7;rw[aal hb] at e5;have Yn:∀K k,lk K (ps++rs)=V k->(g' k=gc k)\/(pn K=U/\(∀t x,lk t (s.Ab (unP bs ps)).ts=V x->K∉kU x)/\∀j b,lk j (s.Ab (unP bs ps)).bs=V b->K∉b.keys):=λK k hK=>by
     rcases (tG _ _).mp ((jR.1 k7) (K,k) (qk hK)) with hp|hp
     .exact .inl (e5 k hp)
     .simp only[bI] at hp;exact .inr ⟨by simpa using hp.1,afJ hp.2.1,aaC hp.2.2⟩
    have rm:∀k,oV k=I->g' k=gc k:=λk hk=>e5 k (by unfold pnL;rw[hk];rfl)
    have fin:∃F2,oW w.F F2/\(∀i o,F2 i=V o->F' i=V o/\(F1 i≠A->w.F i≠A))/\(∀k b ae,lk k hY=V b->fg F' g' k b ae->fg F2 g' k b ae)/\VA F2 g' v y:=by
     cases gs with
     |nil=>
      cases hq;refine ⟨F',a1.trans e4,λi o hi=>⟨hi,λdd=> ?_⟩,λ_ _ _ _ q=>q,e6⟩
      rcases a3 i dd with h|⟨_,m,_⟩
      .exact h
      .cases m
     |cons gi gs=>
      let ⟨n1,n2⟩:=bf DI;exact ⟨w.F,.refl _,λi o hi=>⟨e4 i o (a1 i o hi),λ_=>by rw[hi];simp⟩,λk b ae lL q=>apj gX n2 o3 (qk lL) q,NF n1 e6⟩
    let ⟨F2,f1,f2,f3,f4⟩:=fin;let ⟨g2,φ2,c2,H2,m1,m2,m3,m4,m5,m6,m7,m8,m9⟩:=(h.r.Ab (l:=unP bs ps)).leave h.bd a2 a1 r1.fr hg k3b rfl e4 e7 e8 e3 e2 f1 f2 f3 Oi k4 rm λK k hK=>(Yn K k hK).imp_right λh=>h.2
    have g2f:∀k∈kU y,g2 (uo (jY (ps++rs)) k)=g' k:=λk hk=>by
     rcases (tG _ _).mp (jR.1 k6 k hk) with hh|hh
     .let ⟨K',hK'⟩:=PA.1 (show (lk k (jY (ps++rs))).isSome=I from hh);rw[wK hK'];exact m2 K' k ((wI hg).1 hK')
     .let ⟨h1,h2,h3⟩:=aiP hh;rw[Jy h3,m1 k h2,rm k h1];show w.g k=w.g (uo (jY (ps++rs)) k);rw[Jy h3]
    have hs:=axM (fi:=fis) (aa:=aa) (ca:=cas) e1;have stp:=rM.aIk (E:=E) (nt:=nt) (i6:=i6) (i:=i) hi (KN h.r hw) hd gP (show BG w.m.T cl.callee=V (.fn (.func f') fis cas) by rw[aDC];exact v1) w1 hs (λ_ _=>ahJ) h.bd e2 m7 m8
    have lent:∀x,tj F1 c1 ps w.m.H x≠A->F1 x≠A\/∃K,c1 x=V K/\lk K ps≠A:=λx hx=>qP λhn=>hx (au hn)
    have psal:∀K,lk K ps≠A->K∈ps.map (·.1):=λK hK=>by
     let ⟨k,hk⟩:=vB.1 hK;exact dL.2 ⟨_,qk hk,rfl⟩
    have psnb:∀K,lk K ps≠A->K∈(GU (ps++rs)).map (·.1):=λK hK=>by
     let ⟨k,hk⟩:=vB.1 hK;exact dL.2 ⟨_,uX.2 ⟨iP _ (qk hk),(jR.1 k3b) _ (qk hk)⟩,rfl⟩
    refine ⟨_,⟨F2,g2,φ2,c2,_⟩,⟨⟨o,hi,stp⟩,f1,λk hk=> ?_,e2,λl hl x hx=> ?_,λx hx=> ?_,λx hx hW=> ?_,λhh=>(by cases hh),λx h0 dd=>.inr ?_,λx hx=>.inr ⟨rfl,hx⟩,λx hx=>.inr ⟨rfl,hx⟩⟩,⟨m3.put o.dst λ_=>f4.map (.refl F2) g2f,m4⟩⟩
    .cases hK:lk k (ps++rs) with
     |none=>exact m1 k hK
     |some k'=>
      rcases Yn k k' hK with e|⟨e,_⟩
      .show g2 k=w.g k;rw[m2 k k' hK,e];show w.g (uo (jY (ps++rs)) k')=w.g k;rw[wK ((wI hg).2 hK)]
      .rw[e] at hk;cases hk
    .cases hl;rcases lent x hx with hx|⟨K,h1,h2⟩
     .exact (a3 x hx).imp_right λ⟨K,m,e⟩=>⟨K,jw _ m,e⟩
     .exact .inr ⟨K,iP _ (psal K h2),a2 x K h1⟩
    .have ir:H' x≠tj F1 c1 ps w.m.H x:=by simpa using hx
     by_cases cT:w.m.nx<=x
     .exact .inr (.inl ⟨rfl,cT⟩)
     .by_cases h0:tj F1 c1 ps w.m.H x=A
      .exact absurd h0 (e8 x W λe=>ir (e.trans h0.symm))
      .rcases lent x h0 with hf|⟨K,h1,h2⟩
       .exfalso;let ⟨z,hz⟩:=vB.1 hf;refine ir ((e7.fr x z (e4 x z hz)).1.trans ?_);show _=tj F1 c1 ps w.m.H x;unfold tj;rw[ax (.inl hf)];exact (r1.fr x z hz).1.symm
       .cases ro with
        |true=>exact absurd (e9 rfl x h0).1 ir
        |false=>
         refine .inr (.inr ⟨K,?_,a2 x K h1⟩);exact psnb K h2
    .cases ro with
     |true=>exact m9 x hx λhl=>e9 rfl x hl
     |false=>
      have hW:∀K∈(GU (ps++rs)).map (·.1),w.c x≠V K:=hW
      refine m5 x hx λK hK=> ?_
      cases hK':lk K ps with
      |none=>rfl
      |some k=>exact absurd hK (hW K (psnb K (by rw[hK'];simp)))
    .exact Nat.le_of_not_lt λcT=>m6 x cT dd h0
   .cases hk
  .cases hk
 .cases hk
end
section
variable {s s' s1:LS} {E:Env} {pn:Nat->Bool} {nt:Nat}
def aFu {Y:Type} (l:List (Nat×Y)):List (Nat×Y):=
 match l with
 | []=> []
 |p::l=>p::l3 p.1 l
def aCA {Y:Type} (l:List (Nat×Y)):List (Nat×Y):=List.rec [] (λp _ ih=>p::l3 p.1 ih) l
def aCI (k:Nat) (l:List (Nat×Y)):lk k (aFu l)=lk k l:=by
 cases l with
 |nil=>rfl
 |cons p l=>exact yx
def apu {Y:Type} (k:Nat):∀l:List (Nat×Y),lk k (aCA l)=lk k l
 | []=>rfl
 |p::l=>by
  show lk k ((p.1,p.2)::l3 p.1 (aCA l))=lk k ((p.1,p.2)::l);rw[yx,dH,dH,apu k l]
def LS.tidy (s:LS):LS:=⟨aFu s.ts,aCA s.bs⟩
def In.tidy {w:WS} (h:In s w):In s.tidy w:=⟨h.r.sub (λt x h=>(aCI t _).symm.trans h) λk b h=>(apu k _).symm.trans h,h.bd⟩
def In.Sl {w:WS} (h:In s w) (k:kT pn s s') (CK:pn vd=I->s'=s):∃w',In s' w'/\Ext pn w w'/\w'.m=w.m:=by
 cases hp:pn vd with
 |true=>rw[CK hp];exact ⟨w,h,.refl w,rfl⟩
 |false=>
  let ⟨F',g',φ',c',h1,h2,r⟩:=k.go h.r;exact ⟨⟨F',g',φ',c',w.m⟩,⟨r,h.bd⟩,⟨h1,h2,cM _,λ_ _ h=>h,λh=>by rw[hp] at h;cases h⟩,rfl⟩
abbrev Sc (E:Env):=List (Nat×It E)
def FQ (pn:Nat->Bool):Sc E->LS->List cF->LS×List cF×Sc E
 | [],s,o=>(s,o,[])
 |p::l,s,o=>
  match p with
  |(0,.gh q)=>(match aT (pn vd) A (Lv pn s q.gp (GX q.h)) with
   |some r=>FQ pn l r.2 (r.1++o)
   |none=>(s,o,p::l))
  |_=>(s,o,p::l)
def Oh:∀(sc:Sc E) (s:LS) (o:List cF),jF (FQ pn sc s o).2.1->jF o/\kT pn s (FQ pn sc s o).1/\(pn vd=I->(FQ pn sc s o).1=s)
 | [],s,o,ho=>⟨ho,.refl,λ_=>rfl⟩
 |p::l,s,o,ho=>by
  unfold FQ at ho ⊢;split at ho
  .rename_i q;cases hq:aT (pn vd) A (Lv pn s q.gp (GX q.h)) with
   |some r=>
    rw[hq] at ho;simp only[hq];have hp:pn vd=U:=by
     cases hp:pn vd with
     |false=>rfl
     |true=>rw[hp] at hq;cases hq
    rw[hp] at hq;let ⟨h1,h2,_⟩:=Oh l r.2 (r.1++o) ho;let ⟨h3,h4⟩:=qf h1;exact ⟨h4,(aDH (λ_=>rfl) hq h3).trans h2,λh=>by rw[hp] at h;cases h⟩
   |none=>rw[hq] at ho;simp only[hq];exact ⟨ho,.refl,am⟩
  .simp_all;exact .refl
structure Rx where
 r:nU
 Rd:Option bQ
 cl:Bool
 pg:List GI
def ahT (E:Env) (pn:Nat->Bool) (s:LS) (o:pw):G Rx:=aA (Uc E pn s o.dst o.op) λr=>V ⟨r,OT s o.op,U,[]⟩
def aHd (E:Env) (pn:Nat->Bool) (s:LS) (o:pw) (it:It E):G Rx:=
 match it with
 | .op h pl=>aA (arG E pn s o.dst o.op pl (GX h)) λr=>V ⟨r,OT s o.op,U,[]⟩
 | .LV h=>aA (ajE E s o.op h) λr=>V ⟨r,V [],U,[]⟩
 | .opF h pl fz=>aA (arG E pn s o.dst o.op pl (GX h)) λr=>V ⟨r,OT s o.op,I,fz⟩
 | .call h ps rs=>aA (adQ E pn s o.op h [] (GX trivial) ps rs) λr=>V ⟨r,V (ps.map (·.1)++ []),I,[]⟩
 | .aIj h gs hd ps rs fz=>aA (adQ E pn s o.op h gs (GX hd) ps rs) λr=>V ⟨r,V (ps.map (·.1)++gs.map λq=>q.gp.key),I,fz⟩
 |_=>A
def opX (E:Env) (pn:Nat->Bool) (s:LS) (o:pw) (sc:Sc E):G (Rx×Sc E):=
 match sc with
 | []=>aA (ahT E pn s o) λr=>V (r,[])
 |(0,it)::l=>aA (aHd E pn s o it) λr=>V (r,l)
 |(k+1,it)::l=>aA (ahT E pn s o) λr=>V (r,(k,it)::l)
def adr (ac:bQ):List GI->LS->G (List cF×LS)
 | [],s=>V ([],s)
 |q::l,s=>(match q.gp with
  | .eD K m n=>aT (nN K ac) (aA (lk K s.bs) λb=>aA (adr ac l (s.NJ K m n b)) λp=>V (NK s K n b (GX q.h)++p.1,p.2)) A
  |_=>A)
def arX (cl:Bool) (ac:bQ) (pg:List GI) (s:LS):G (List cF×LS):=
 match pg with
 | []=>V ([],s)
 |q::l=>aT cl (adr ac (q::l) s) A
def ahS {i6:fD} {e:Ev} {w:WS} (dX:e.cl=I):∀{l:List GI} {s:LS} {w':WS} {p:List cF×LS},adr e.ac l s=V p->jF p.1->Step E nt pn i6 e w w'->In s w'->∃Ng,Step E nt pn i6 e w Ng/\In p.2 Ng/\Ng.m=w'.m
 | [],s,w',p,h,_,st,jJ=>by cases h;exact ⟨w',st,jJ,rfl⟩
 |q::l,s,w',p,h,ho,st,jJ=>by
  unfold adr at h;split at h
  .rename_i K m n hq;let ⟨hK,h⟩:=bf h;let ⟨b,hb,h⟩:=ak h;let ⟨p1,h1,h⟩:=ak h;cases h;let ⟨o1,o2⟩:=qf ho;let ⟨F',c',a1,a2,a3⟩:=jJ.r.eD (m:=m) (n:=n) (ob:=GX q.h) (λ_=>rfl) hb o1
   have vO:Step E nt pn i6 e w ⟨F',w'.g,w'.Z,c',w'.m⟩:=⟨st.st,st.F.trans a1,st.g,st.nx,st.need,st.D,λx hx hW=>⟨(st.fr x hx hW).1,(a2.2.2.1 x (by rw[(st.fr x hx hW).2];exact hW K ((uE _ _).1 hK))).trans (st.fr x hx hW).2⟩,λh=>(by rw[dX] at h;cases h),st.born,st.frp,st.newp⟩
   exact ahS (l:=l) (p:=p1) (w':=⟨F',w'.g,w'.Z,c',w'.m⟩) dX h1 o2 vO ⟨a3,jJ.bd⟩
  .cases h
def aCv {e:Ev} {w w':WS} {l:List GI} (h:arX e.cl e.ac l s=V p) (ho:jF p.1) (st:Step E nt pn i6 e w w') (jJ:In s w'):∃Ng,Step E nt pn i6 e w Ng/\In p.2 Ng/\Ng.m=w'.m:=by
 unfold arX at h;split at h
 .cases h;exact ⟨w',st,jJ,rfl⟩
 .let ⟨dX,h⟩:=bf h;exact ahS dX h ho st jJ
def awT (E:Env) (nt:Nat) (pn:Nat->Bool) (all:oL) (s:LS) (o:pw) (sc:Sc E):G (Rx×Sc E):=
 aT (ot nt o.dst) (aA (KO all o s.ts) λb=>aT b (aA (opX E pn s o sc) λq=>aA (arX q.1.cl q.1.r.ac q.1.pg (q.1.r.s.put o.dst q.1.r.x).tidy) λp=>V (⟨⟨p.1++q.1.r.CB,p.2,q.1.r.x,q.1.r.ac⟩,q.1.Rd,q.1.cl,[]⟩,q.2)) (V (⟨⟨[],(s.put o.dst (.dh [])).tidy,.undef,[]⟩,V [],U,[]⟩,sc))) A
def awS {sc:Sc E} {q:Rx×Sc E} {w:WS} (hi:i6[i]? =V o) (h:awT E nt pn i6.toList s o sc=V q) (ho:jF q.1.r.CB) (jJ:In s w) (hn:w.m.H new=A) (oH:w.m.nx<=nZ) (rV:new<nZ) (hc:q.1.cl=I->nZ=w.m.nx+1\/nZ=w.m.nx):
  ∃r w',Step E nt pn i6 ⟨i,new,r,q.1.r.ac,q.1.Rd,q.1.cl⟩ w w'/\In q.1.r.s w'/\(q.1.cl=U->w'.m.nx=nZ):=by
 let ⟨hd,h⟩:=bf h;let ⟨b,hw,h⟩:=ak h;rw[cx] at h;split at h
 .rename_i hb;subst hb;let ⟨p,hp,h⟩:=ak h;let ⟨z,hz,h⟩:=ak h;cases h;let ⟨oz,ho⟩:=qf ho;have plain:∀{r:Rx},ahT E pn s o=V r->jF r.r.CB->∃r1 w',Step E nt pn i6 ⟨i,new,r1,r.r.ac,r.Rd,r.cl⟩ w w'/\In (r.r.s.put o.dst r.r.x).tidy w'/\(r.cl=U->w'.m.nx=nZ):=λ{r} hr ho=>by
   let ⟨r0,h1,h2⟩:=ak hr;cases h2;let ⟨r1,w',a,b,c⟩:=Step.op hi rfl (afI h1 ho) hw hd jJ hn oH rV;exact ⟨r1,w',a,b.tidy,λ_=>c⟩
  have main:∃r1 w',Step E nt pn i6 ⟨i,new,r1,p.1.r.ac,p.1.Rd,p.1.cl⟩ w w'/\In (p.1.r.s.put o.dst p.1.r.x).tidy w'/\(p.1.cl=U->w'.m.nx=nZ):=by
   unfold opX at hp;split at hp
   .let ⟨r,h1,h2⟩:=ak hp;cases h2;exact plain h1 ho
   .let ⟨r,h1,h2⟩:=ak hp;cases h2;unfold aHd at h1;split at h1
    .let ⟨r0,h3,h2⟩:=ak h1;cases h2;let ⟨r1,w',a,b,c⟩:=Step.op hi rfl (afS (λ_=>rfl) h3 ho) hw hd jJ hn oH rV
     exact ⟨r1,w',a,b.tidy,λ_=>c⟩
    .let ⟨r0,h3,h2⟩:=ak h1;cases h2;obtain ⟨r1,w',a,b,c⟩:=Step.LV hi rfl h3 ho hw hd jJ new hn oH;exact ⟨r1,w',a,b.tidy,λ_=>c⟩
    .let ⟨r0,h3,h2⟩:=ak h1;cases h2;let ⟨r1,w',a,b,c⟩:=Step.op hi rfl (afS (λ_=>rfl) h3 ho) hw hd jJ hn oH rV
     exact ⟨r1,w',a.aRk,b.tidy,λh=>by cases h⟩
    .let ⟨r0,h3,h2⟩:=ak h1;cases h2;let ⟨r1,w',a,b⟩:=Step.call (λ_=>rfl) hi rfl h3 ho hw hd jJ new
     exact ⟨r1,w',a,b.tidy,λh=>by cases h⟩
    .let ⟨r0,h3,h2⟩:=ak h1;cases h2;let ⟨r1,w',a,b⟩:=Step.call (λ_=>rfl) hi rfl h3 ho hw hd jJ new
     exact ⟨r1,w',a,b.tidy,λh=>by cases h⟩
    .cases h1
   .let ⟨r,h1,h2⟩:=ak hp;cases h2;exact plain h1 ho
  let ⟨r1,w',m1,m2,m3⟩:=main;let ⟨w2,n1,n2,n3⟩:=aCv hz oz m1 m2;exact ⟨r1,w2,n1,n2,λh=>by rw[n3];exact m3 h⟩
 .rename_i hb;have hb:b=U:=by simpa using hb
  subst hb;cases h;let ⟨r1,w',a,b,c⟩:=Step.skip (E:=E) (nt:=nt) (pn:=pn) hi hw hd jJ hn oH;exact ⟨r1,w',a,b.tidy,λ_=>c⟩
def arF (E:Env) (nt:Nat) (pn:Nat->Bool) (all:oL) (s:LS) (o:pw) (sc:Sc E):G (Rx×Sc E):=
 aA (awT E nt pn all s o sc) λq=>aT (pn vd) (aT q.1.r.ac.isEmpty (V q) A) (V q)
def afR {sc:Sc E} {q:Rx×Sc E} {w:WS} (hi:i6[i]? =V o) (h:arF E nt pn i6.toList s o sc=V q) (ho:jF q.1.r.CB) (jJ:In s w) (hn:w.m.H new=A) (oH:w.m.nx<=nZ) (rV:new<nZ) (hc:q.1.cl=I->nZ=w.m.nx+1\/nZ=w.m.nx):
  ∃r w',Step E nt pn i6 ⟨i,new,r,q.1.r.ac,q.1.Rd,q.1.cl⟩ w w'/\In q.1.r.s w'/\(q.1.cl=U->w'.m.nx=nZ)/\(pn vd=I->∀x,w.m.H x≠A->w'.m.H x=w.m.H x/\w'.c x=w.c x):=by
 let ⟨q',h1,h⟩:=ak h;obtain ⟨rfl,hW⟩:q'=q/\(pn vd=I->q'.1.r.ac= []):=by
  rw[cx] at h;split at h
  .let ⟨h2,h⟩:=bf h;cases h;exact ⟨rfl,λ_=>by simpa using h2⟩
  .rename_i hp;cases h;exact ⟨rfl,λh=>absurd h hp⟩
 let ⟨r,w',a,b,c⟩:=awS hi h1 ho jJ hn oH rV hc;exact ⟨r,w',a,b,c,λhp x hx=>a.fr x hx λK hK=>by
  have hK:K∈q'.1.r.ac:=hK;rw[hW hp] at hK;cases hK⟩
def ahA (E:Env) (nt:Nat) (pn:Nat->Bool) (all:oL):oL->LS->Sc E->List cF->G (LS×List cF×Sc E)
 | [],s,sc,ob=>V (s,ob,sc)
 |o::l,s,sc,ob=>(λq:LS×List cF×Sc E=>aA (arF E nt pn all q.1 o q.2.2) λr=>ahA E nt pn all l r.1.r.s r.2 (r.1.r.CB++q.2.1)) (FQ pn sc s ob)
def abO {i6:fD}:∀{l:oL} {i:Nat} {s:LS} {sc:Sc E} {ob:List cF} {r:LS×List cF×Sc E},i6.toList.drop i=l->i<=i6.size->ahA E nt pn i6.toList l s sc ob=V r->jF r.2.1->jF ob/\∀w,In s w->∃w',mj E nt i6 i w.m w'.m/\In r.1 w'/\Ext pn w w'
 | [],i,s,sc,ob,r,hl,lm,h,ho=>by
  cases h;refine ⟨ho,λw hw=>⟨w,?_,hw,.refl w⟩⟩
  have:i6.size=i:=by
   have:=bH O hl;rw[iz,IU,Pz] at this;omega
  subst this;exact .nil
 |o::l,i,s,sc,ob,r,hl,lm,h,ho=>by
  let ⟨q,h1,h⟩:=ak h;have cT:i<i6.size:=by
   have:=bH O hl;rw[iz,l7,Pz] at this;omega
  have hi:i6[i]? =V o:=by
   rw[<-ng,<-List.head?_drop,hl];rfl
  have AU:i6.toList.drop (i+1)=l:=by rw[<-tF,hl];rfl
  let ⟨h2,h3⟩:=abO AU cT h ho;let ⟨h4,h5⟩:=qf h2;let ⟨h6,h7,h9⟩:=Oh sc s ob h5;refine ⟨h6,λw hw=> ?_⟩
  let ⟨w1,k1,k2,k3⟩:=hw.Sl h7 h9;let ⟨r1,w2,st,k4,k5,k9⟩:=afR (new:=w1.m.nx) (nZ:=w1.m.nx+1) hi h1 h4 k1 (k1.bd _ (cM _)) (qU _) (M7 _) λ_=>.inl rfl
  let ⟨w3,k6,k7,k8⟩:=h3 w2 k4;let ⟨o',sD,aa3⟩:=st.st;rw[hi] at sD;cases sD;refine ⟨w3,?_,k7,k2.trans (.trans ⟨st.F,st.g,st.nx,λx hx dd=> ?_,k9⟩ k8)⟩
  .rw[<-k3];refine mj.cons hi aa3 (λx hx=> ?_) (λx hx=> ?_) k6
   .rcases st.frp x hx with rfl|⟨_,h⟩
    .exact cM _
    .exact h
   .rcases st.newp x hx with ⟨rfl,h⟩|⟨_,h⟩
    .exact ⟨cM _,h⟩
    .exact h
  .exact qP λh0=>by
    have h0:w1.m.H x=A:=qP h0;rcases st.born x h0 dd with rfl|h
    .exact absurd hx (Nat.lt_irrefl _)
    .exact absurd hx (Nat.not_lt.2 h)
end
end Go.bM
namespace Go.bM
open Go.RowKit
variable {i nt:Nat} {ro:cC} {i6:fD} {ul:Nat->Stp} {need:Nat->Nat->Prop} {s0:DS} {l:bQ} {Q:Exit->Act->World->Prop}
section
variable {E:Env} {g:Gh} {f:Hf} {w:World}
def awU (us:Nat->Stp) (p:Nat->Bool) {a b:bQ} (nd:(a++i::b).Nodup) (hp:p i=I) (s:DS):nR us (a++i::b) (λj=>p j&&A' (j∈a++ [i])) s=(nR us a p s).app (us i):=by
 let ⟨_,n2,n3⟩:=Cf.1 nd;have n2:=qV.1 n2;unfold nR;rw[Ew,mD];have h1:a.filter (λj=>p j&&A' (j∈a++ [i]))=a.filter p:=T7 λx hx=>by simp[hx]
 have h2:b.filter (λj=>p j&&A' (j∈a++ [i]))= []:=Eu.2 λx hx=>by
  have e1:x∉a:=λh=>n3 x h x (fj _ hx) rfl
  have e2:x≠i:=λe=>n2.1 (e ▸ hx)
  simp[e1,e2]
 rw[h1,h2];simp[hp]
def aEn {frp newp:Nat->Nat->Prop} (nd:l.Nodup) (hl:∀j,j∈l↔j<i6.size) (SW:E.P.follows .mixedOrders=I) (Lr:∀a i b,l=a++i::b->∃o,i6[i]? =V o/\(ul i).dst=o.dst/\VJ E ro nt i6 i o (nR ul a (λ_=>I) s0).T (need i) (nR ul a (λ_=>I) s0).F (frp i) (newp i) (ul i).v (ul i).D (ul i).H) (hd:∀a i b,l=a++i::b->(∀k∈direct i6 i,k∈a)/\∀k∈a,k∈AW i6 i6.size i\/Ind i6 ul need k i) (hfp:∀i k,i∈l->k∈l->i≠k->∀x,frp i x->newp k x->i∈AW i6 i6.size k) {a:Act} {id m:Nat} (hE:fU E g) (jB:FR g nt s0.T a.tmps) (hr:HR g s0.F w) (rV:∀i,i∈l->∀x,frp i x->g.ρ x=A) (hq:∀g' a' w',FR g' nt (nR ul l (λ_=>I) s0).T a'.tmps->HR g' (nR ul l (λ_=>I) s0).F w'->Fr g s0.F w g' (nR ul l (λ_=>I) s0).F w'->a'.defers=a.defers->
   (∀x,(∀i,i∈l->¬newp i x)->g'.ρ x=g.ρ x)->Q .normal a' w'):(Code.region id i6 I).wpIn (xz ro) m E.P Q a w:=by
 let n:=i6.size;have key:∀(fuel:Nat) (dM:Array Bool) (a1:Act) (w1:World) (g1:Gh),dM.size=n->(∀j,dM.getD j U=I->∀i∈direct i6 j,dM.getD i U=I)->
   O (l.filter (λj=> !dM.getD j U))=fuel->fU E g1->FR g1 nt (nR ul l (λj=>dM.getD j U) s0).T a1.tmps->HR g1 (nR ul l (λj=>dM.getD j U) s0).F w1->
   Fr g s0.F w g1 (nR ul l (λj=>dM.getD j U) s0).F w1->a1.defers=a.defers->(∀x,g1.ρ x≠g.ρ x->∃k,k∈l/\dM.getD k U=I/\newp k x)->wpAnyIn (xz ro) m E.P .any i6 Q fuel dM a1 w1:=by
  intro fuel;induction fuel with
  |zero=>
   intro dM a1 w1 g1 oG dX NQ hE1 Yi hr1 hf1 hdf Yt;have fH:∀j,j∈l->dM.getD j U=I:=λj hj=>by simpa using Eu.1 (wZ NQ) j hj
   have dV:nR ul l (λj=>dM.getD j U) s0=nR ul l (λ_=>I) s0:=by
    unfold nR;rw[T7 λx hx=>fH x hx]
   rw[dV] at Yi hr1 hf1;refine ⟨?_,hq g1 a1 w1 Yi hr1 hf1 hdf (λx hx=> ?_)⟩
   .rw[anQ];intro i hi;let ⟨h1,h2,_⟩:=akM.1 hi;have:=fH i ((hl i).2 h1);simp only[vA] at this h2;rw[Cj (by rw[oG];exact h1)] at this h2
    simp at this h2;rw[this] at h2;simp at h2
   .by_cases he:g1.ρ x=g.ρ x
    .exact he
    .let ⟨k,k1,_,k3⟩:=Yt x he;exact absurd k3 (hx k k1)
  |succ fuel ih=>
   intro dM a1 w1 g1 oG dX NQ hE1 Yi hr1 hf1 hdf Yt;have hun:∀j,j<n->dM.getD j I=dM.getD j U:=by
    intro j hj;simp only[vA];rw[Cj (by rw[oG];exact hj)];rfl
   refine ⟨λhr=> ?_,λi hi=> ?_⟩
   .exfalso;have first:∀b c:bQ,b++c=l->(∀j∈b,dM.getD j U=I)->(∃a i d,l=a++i::d/\dM.getD i U=U/\∀j∈a,dM.getD j U=I)\/∀j∈c,dM.getD j U=I:=by
     intro b c;induction c generalizing b with
     |nil=>exact λ_ _=>.inr λj hj=>by cases hj
     |cons i c ihc=>
      intro he hb;cases hi:dM.getD i U with
      |false=>exact .inl ⟨b,i,c,he.symm,hi,hb⟩
      |true=>
       rcases ihc (b++ [i]) (by simpa using he) (λj hj=>by
        rcases fk.1 hj with h|h
        .exact hb j h
        .rw[gy.1 h];exact hi) with h|h
       .exact .inl h
       .exact .inr λj hj=>by
         rcases cU.1 hj with rfl|hj
         .exact hi
         .exact h j hj
    rcases first [] l rfl (λj hj=>by cases hj) with ⟨b,i,d,he,h1,h2⟩|h
    .have jJ:i<n:=(hl i).1 (by rw[he];simp)
     have:i∈Region.ready .any i6 dM:=akM.2 ⟨jJ,by rw[hun i jJ];exact h1,λj hj=>h2 j ((hd b i d he).1 j hj)⟩
     rw[hr] at this;simp at this
    .rw[Eu.2 λx hx=>by simp[h x hx]] at NQ
     simp at NQ
   .let ⟨MT,hi2,hi3⟩:=akM.1 hi;rw[hun i MT] at hi2;let ⟨b,d,he⟩:=wY ((hl i).2 MT);let ⟨oi,hoi,hdst,hs⟩:=Lr b i d he;have nd':=nd;rw[he] at nd';let ⟨n1,n2,n3⟩:=Cf.1 nd';have n2:=qV.1 n2;have aCG:∀j,j∈l->j∈b\/j=i\/j∈d:=λj hj=>by
     rw[he] at hj;simpa using hj
    have ib:i∉b:=λh=>n3 i h i am rfl
    have aAn:∀j,j∈b->dM.getD j U=U->Ind i6 ul need j i:=by
     intro j hj AU;rcases (hd b i d he).2 j hj with hc|hc
     .have:=auk (S:=λj=>dM.getD j U=I) dX n i hi3 j hc
      rw[AU] at this;simp at this
     .exact hc
    have adD:∀j,j∈d->dM.getD j U=I->Ind i6 ul need i j:=by
     intro j hj AU;let ⟨d1,d2,DJ⟩:=wY hj;rcases (hd (b++i::d1) j d2 (by rw[he,DJ];simp)).2 i am with hc|hc
     .have:=Ee (S:=λj=>dM.getD j U=I) dX n j AU i hc
      rw[hi2] at this;simp at this
     .exact hc
    have hdb:∀j,j∈d->j∉b/\j≠i:=λj hj=>⟨λh=>n3 j h j (fj _ hj) rfl,λe=>n2.1 (e ▸ hj)⟩
    have hst0:nR ul b (λ_=>I) s0=nR ul l (λj=>A' (j∈b)) s0:=by
     unfold nR;rw[he,Ew,mD];have h1:b.filter (λj=>A' (j∈b))=b:=IG.2 λx hx=>by simpa using hx
     have h2:d.filter (λj=>A' (j∈b))= []:=Eu.2 λx hx=>by simpa using (hdb x hx).1
     rw[h1,h2,IG.2 (λ_ _=>rfl)]
     simp[ib]
    have hT:∀t∈oi.looksAt i6,(nR ul l (λj=>dM.getD j U) s0).T t=(nR ul b (λ_=>I) s0).T t:=by
     intro t htr;rw[hst0];refine adf ul t _ _ _ _ _ rfl (λj hj By=> ?_)
     rcases aCG j hj with hb|rfl|hb
     .cases FG:dM.getD j U with
      |true=>simp[hb]
      |false=>exact absurd htr ((aAn j hb FG).s1 t By _ hoi)
     .simp[hi2,ib]
     .cases FG:dM.getD j U with
      |false=>simp[(hdb j hb).1]
      |true=>exact absurd htr ((adD j hb FG).s2 t By _ hoi)
    have hB:∀x,need i x->(nR ul l (λj=>dM.getD j U) s0).F x=(nR ul b (λ_=>I) s0).F x:=by
     intro x hx;rw[hst0];refine adg ul x _ _ _ _ _ rfl (λj hj By=> ?_)
     rcases aCG j hj with hb|rfl|hb
     .cases FG:dM.getD j U with
      |true=>simp[hb]
      |false=>
       have:=(aAn j hb FG).n1 x hx;rw[By] at this;simp at this
     .simp[hi2,ib]
     .cases FG:dM.getD j U with
      |false=>simp[(hdb j hb).1]
      |true=>
       have:=(adD j hb FG).n2 x hx;rw[By] at this;simp at this
    have mL:∀j,(dM.setIfInBounds i I).getD j U=if j=i then I else dM.getD j U:=λj=>aDK dM i j (by rw[oG];exact MT) U
    have hpi:(dM.setIfInBounds i I).getD i U=I:=by rw[mL];simp
    have bi:∀j,j∈l->j∉b++ [i]->j∈d:=λj hj hn=>by
     rcases aCG j hj with h|h|h
     .exact absurd (iP _ h) hn
     .exact absurd (by simp[h]) hn
     .exact h
    have hup:nR ul l (λj=>(dM.setIfInBounds i I).getD j U&&A' (j∈b++ [i])) s0=(nR ul b (λj=>(dM.setIfInBounds i I).getD j U) s0).app (ul i):=by
     have:=awU ul (λj=>(dM.setIfInBounds i I).getD j U) (a:=b) (b:=d) (i:=i) nd' hpi s0
     rw[<-he] at this;exact this
    have aHi:(nR ul l (λj=>dM.getD j U) s0).app (ul i)=nR ul l (λj=>(dM.setIfInBounds i I).getD j U) s0:=by
     refine DS.ext' (λt=> ?_) (λx=> ?_)
     .show (if (ul i).dst=V t then V (ul i).v else _)=_
      by_cases hdt:(ul i).dst=V t
      .have e:=adf ul t (λj=>(dM.setIfInBounds i I).getD j U) (λj=>(dM.setIfInBounds i I).getD j U&&A' (j∈b++ [i])) l s0 s0 rfl (λj hj By=>by
        by_cases hm:j∈b++ [i]
        .simp[hm]
        .cases FG:(dM.setIfInBounds i I).getD j U with
         |false=>simp
         |true=>
          have hjd:=bi j hj hm;rw[mL,au (hdb j hjd).2] at FG;exact absurd By ((adD j hjd FG).s3 t hdt))
       rw[e,hup,ax hdt];show _=if (ul i).dst=V t then V (ul i).v else _
       rw[ax hdt]
      .rw[au hdt];refine adf ul t _ _ _ _ _ rfl (λj hj By=> ?_)
       rw[mL];split
       .rename_i he;subst he;exact absurd By hdt
       .rfl
     .show (if (ul i).D x=I then (ul i).H x else _)=_
      by_cases hdx:(ul i).D x=I
      .have e:=adg ul x (λj=>(dM.setIfInBounds i I).getD j U) (λj=>(dM.setIfInBounds i I).getD j U&&A' (j∈b++ [i])) l s0 s0 rfl (λj hj By=>by
        by_cases hm:j∈b++ [i]
        .simp[hm]
        .cases FG:(dM.setIfInBounds i I).getD j U with
         |false=>simp
         |true=>
          have hjd:=bi j hj hm;rw[mL,au (hdb j hjd).2] at FG;have:=(adD j hjd FG).d x hdx;rw[By] at this;simp at this)
       rw[e,hup,ax hdx];show _=if (ul i).D x=I then (ul i).H x else _
       rw[ax hdx]
      .rw[au hdx];refine adg ul x _ _ _ _ _ rfl (λj hj By=> ?_)
       rw[mL];split
       .rename_i he;subst he;exact absurd By hdx
       .rfl
    have hcl':∀j,(dM.setIfInBounds i I).getD j U=I->∀k∈direct i6 j,(dM.setIfInBounds i I).getD k U=I:=by
     intro j hj k hk;rw[mL] at hj ⊢;split
     .rfl
     .split at hj
      .rename_i he;subst he;exact hi3 k hk
      .exact dX j hj k hk
    have aSW:O (l.filter (λj=> !(dM.setIfInBounds i I).getD j U))=fuel:=by
     have h1:l.filter (λj=> !(dM.setIfInBounds i I).getD j U)=(l.filter (λj=> !dM.getD j U)).erase i:=by
      have DI:(l.filter (λj=> !dM.getD j U)).Nodup:=List.Pairwise.filter _ nd
      rw[DI.erase_eq_filter,List.filter_filter];refine T7 λx hx=> ?_
      rw[mL];by_cases hxi:x=i<;>simp[hxi]
     rw[h1,List.length_erase_of_mem (uX.2 ⟨(hl i).2 MT,by rw[hi2];rfl⟩),NQ]
     rfl
    have aiZ:∀x,frp i x->g1.ρ x=A:=by
     intro x hx;by_cases he:g1.ρ x=g.ρ x
     .rw[he];exact rV i ((hl i).2 MT) x hx
     .let ⟨k,k1,k2,k3⟩:=Yt x he;have dd:i≠k:=λe=>by subst e;rw[hi2] at k2;simp at k2
      have:=Ee (S:=λj=>dM.getD j U=I) dX n k k2 i (hfp i k ((hl i).2 MT) k1 dd x hx k3)
      rw[hi2] at this;simp at this
    refine hs m g1 _ _ a1 w1 (wpAnyIn (xz ro) m E.P .any i6 Q fuel (dM.setIfInBounds i I)) Q hE1 Yi hr1 hT hB aiZ (λr w' g' q1 q2 q3 q4=> ?_)
    rw[<-hdst] at q1 ⊢;have e1:eE (nR ul l (λj=>dM.getD j U) s0).T (ul i).dst (ul i).v=(nR ul l (λj=>(dM.setIfInBounds i I).getD j U) s0).T:=by rw[<-aHi];rfl
    have e2:sV (ul i).D (ul i).H (nR ul l (λj=>dM.getD j U) s0).F=(nR ul l (λj=>(dM.setIfInBounds i I).getD j U) s0).F:=by rw[<-aHi];rfl
    rw[e1] at q1;rw[e2] at q2 q3;refine ih (dM.setIfInBounds i I) _ w' g' (by simpa using oG) hcl' aSW (hE1.mono q3.le) q1 q2 (hf1.trans q3) (by rw[put_defers];exact hdf) (λx hx=> ?_)
    by_cases hn:newp i x
    .exact ⟨i,(hl i).2 MT,hpi,hn⟩
    rw[q4 x hn] at hx;let ⟨k,k1,k2,k3⟩:=Yt x hx;refine ⟨k,k1,?_,k3⟩;rw[mL];split
    .rfl
    .exact k2
 have li:O l=i6.size:=by
  have:l.Perm (DO i6.size):=(List.perm_ext_iff_of_nodup nd List.nodup_range).2 λj=>by rw[hl,asQ]
  rw[this.length_eq,List.length_range]
 refine wpIn_region_any (F:=xz ro) SW (key i6.size _ a _ g (by simp[n]) ?_ ?_ hE ?_ ?_ ?_ rfl (λx hx=>absurd rfl hx))
 .intro j hj;simp[vA,asR] at hj;split at hj<;>simp at hj
 .have:l.filter (λj=> !(ad6 i6.size U).getD j U)=l:=IG.2 λx hx=>by
   simp[vA,asR];split<;>simp
  rw[this,li]
 all_goals
  have hs0:nR ul l (λj=>(ad6 i6.size U).getD j U) s0=s0:=by
   unfold nR;have:l.filter (λj=>(ad6 i6.size U).getD j U)= []:=Eu.2 λx hx=>by
    simp[vA,asR];split<;>simp
   rw[this];rfl
  rw[hs0]
 .exact jB
 .exact hr.aaJ rfl
 .exact Fr.aaJ rfl rfl rfl rfl
end
end Go.bM
namespace Go.bM
variable {l:eG} {x K j n i u sz rt:Nat} {e:Ey} {m0:MS} {ob o:List cF} {r xs vs:bg} {Q:bB} {ro z:Bool} {bs:de} {pu:Prop} {sk:bQ} {hi lo:Int} {aa svs:bj} {ups:ia} {o':SO} {L':Ow} {fn:Func}
section
variable {s s' s1:LS} {E:Env} {pn:Nat->Bool} {nt:Nat} {i6:fD}
def F0 {l m:bQ} (h:xn l m=I):∀x∈l,x∉m:=λx hx hm=>by
 induction l with
 |nil=>cases hx
 |cons y l ih=>
  have h:aT (nN y m) U (xn l m)=I:=h;rw[cx] at h;split at h
  .cases h
  .rename_i hy;rcases cU.1 hx with rfl|hx
   .exact hy ((uE _ _).2 hm)
   .exact ih h hx
structure ov (w:WS):Prop where
 bd:∀x,w.m.nx<=x->w.m.H x=A
 cn:∀i,w.m.H i=A->w.c i=A
 fr:∀i o,w.F i=V o->w.m.H i=V o/\w.c i=A
def In.wok {w:WS} (h:In s w):ov w:=⟨h.bd,h.r.cn,λi o hi=>h.r.fr i o hi⟩
def ov.alive {w:WS} (h:ov w) (hc:w.c x=V K):w.m.H x≠A/\x<w.m.nx:=
 have h1:w.m.H x≠A:=λe=>by rw[h.cn x e] at hc;cases hc
 ⟨h1,zm λe=>h1 (h.bd x e)⟩
inductive di (E:Env) (nt:Nat) (pn:Nat->Bool) (ops:fD):WS->List Ev->WS->Prop
 |nil {w:_} (hw:ov w):di E nt pn ops w [] w
 |cons {w w1 w2 e l:_} (hw:ov w) (h:Step E nt pn ops e w w1) (t:di E nt pn ops w1 l w2):di E nt pn ops w (e::l) w2
def di.split:∀{a:List Ev} {e:Ev} {b:List Ev} {w w':WS},di E nt pn i6 w (a++e::b) w'->∃w1 w2,di E nt pn i6 w a w1/\Step E nt pn i6 e w1 w2/\di E nt pn i6 w2 b w'/\ov w1
 | [],_,_,_,_,.cons hw h t=>⟨_,_,.nil hw,h,t,hw⟩
 |_::a,_,_,_,_,.cons hw h t=>let ⟨w1,w2,h1,h2,h3,h4⟩:=di.split (a:=a) t;⟨w1,w2,.cons hw h h1,h2,h3,h4⟩
def di.F:∀{l:List Ev} {w w':WS},di E nt pn i6 w l w'->oW w.F w'.F/\(∀k,pn k=I->w'.g k=w.g k)/\w.m.nx<=w'.m.nx
 |_,_,_,.nil _=>⟨.refl _,λ_ _=>rfl,cM _⟩
 |_,_,_,.cons _ h t=>have ⟨a,b,c⟩:=t.F;⟨h.F.trans a,λk hk=>(b k hk).trans (h.g k hk),lO h.nx c⟩
def di.Ni:∀{l:List Ev} {w w':WS} {x:Nat},di E nt pn i6 w l w'->w.m.H x=A->x<w.m.nx->(∀e∈l,x≠e.nw)->w'.m.H x=A
 |_,_,_,_,.nil _,h,_,_=>h
 |e::l,w,w',x,.cons _ st t,h,hx,hn=>t.Ni (qP λh1=>by
   rcases st.born x h h1 with e0|e0
   .exact hn e am e0
   .omega) (Ch hx st.nx) λe he=>hn e (fj _ he)
def di.arx:∀{l:List Ev} {w w':WS} {x K:Nat},di E nt pn i6 w l w'->ov w->w.c x=V K->(∀e∈l,x≠e.nw/\(e.cl=I->K∉e.ac))->w'.c x=V K\/w'.m.H x=A
 |_,_,_,_,_,.nil _,_,h,_=>.inl h
 |e::l,w,w',x,K,.cons (w1:=w1) hw st t,qH,hc,hl=>by
  let ⟨h,hx⟩:=qH.alive hc;have hx1:=Ch hx st.nx;have dead:w1.m.H x=A->w'.c x=V K\/w'.m.H x=A:=λh1=>.inr (t.Ni h1 hx1 λe he=>(hl e (fj _ he)).1)
  have ok1:ov w1:=by cases t<;>assumption
  have go:w1.c x=V K->w'.c x=V K\/w'.m.H x=A:=λh1=>t.arx ok1 h1 λe he=>hl e (fj _ he)
  cases dX:e.cl with
  |false=>exact ((st.v7 dX).1 x K hc).elim go dead
  |true=>
   let ⟨_,h2⟩:=st.fr x h λK' hK' e0=>by
    rw[hc] at e0;exact (hl e am).2 dX ((kh e0) ▸ hK')
   exact go (h2.trans hc)
structure Good (ops:fD) (e':Ev) (pm:List Ev) (e:Ev):Prop where
 cl:e'.cl=U
 rd:∃r' r,e'.Rd=V r'/\e.Rd=V r/\(∀K∈r'++e'.ac,K∉e.ac/\∀m∈pm,m.cl=I->K∉m.ac)/\∀K∈r,K∉e'.ac
 sl:∃o' o,ops[e'.i]? =V o'/\ops[e.i]? =V o/\Us ops.toList o' o=I
def aBf (i6:fD) (p:List Ev) (e:Ev):Prop:=∀pa e' pm,p=pa++e'::pm->e'.i∈AW i6 i6.size e.i\/Good i6 e' pm e
def PW (i6:fD):List Ev->List Ev->Prop
 |_,[]=>True
 |p,e::l=>((∀k∈direct i6 e.i,k∈p.map (·.i))/\aBf i6 p e)/\PW i6 (p++ [e]) l
def PW.at:∀{l p a:List Ev} {e:Ev} {b:List Ev},PW i6 p l->l=a++e::b->(∀k∈direct i6 e.i,k∈(p++a).map (·.i))/\aBf i6 (p++a) e
 |_,p,[],e,b,h,rfl=>by rw[rE];exact h.1
 |_,p,e0::a,e,b,h,rfl=>by
  have:=PW.at (p:=p++ [e0]) (a:=a) (e:=e) (b:=b) h.2 rfl;simpa using this
def JA (i6:fD) (jT:List Ev) (i:Nat):Stp:=(lk i (jT.map λe=>(e.i,e))).elim ⟨A,.undef,λ_=>U,λ_=>A⟩ λe=>⟨(i6[i]?).bind (·.dst),e.r.v,e.r.D,e.r.H⟩
def Qh {jT:List Ev} (nd:(jT.map (·.i)).Nodup) {e:Ev} (he:e∈jT):lk e.i (jT.map λe=>(e.i,e))=V e:=by
 induction jT with
 |nil=>cases he
 |cons e0 l ih=>
  rw[j2,dH];let ⟨n1,n2⟩:=qV.1 nd;rcases cU.1 he with rfl|he
  .rw[ax rfl]
  .rw[au λ(e1:e.i=e0.i)=>n1 (dL.2 ⟨e,he,e1⟩)]
   exact ih n2 he
def akO {jT:List Ev} (nd:(jT.map (·.i)).Nodup):∀{l:List Ev} {w w':WS},(∀e∈l,e∈jT)->di E nt pn i6 w l w'->nR (JA i6 jT) (l.map (·.i)) (λ_=>I) ⟨w.m.T,w.m.H⟩=⟨w'.m.T,w'.m.H⟩
 |_,_,_,_,.nil _=>rfl
 |e::l,w,w',hm,.cons (w1:=w1) _ st t=>by
  let ⟨o,ho,s1⟩:=st.st;have ih:=akO nd (λe he=>hm e (fj _ he)) t
  rw[<-ih];have e1:(⟨w.m.T,w.m.H⟩:DS).app (JA i6 jT e.i)=⟨w1.m.T,w1.m.H⟩:=by
   have:JA i6 jT e.i=⟨(i6[e.i]?).bind (·.dst),e.r.v,e.r.D,e.r.H⟩:=by unfold JA;rw[Qh nd (hm e am)];rfl
   rw[this,ho];show (⟨eE w.m.T o.dst e.r.v,sV e.r.D e.r.H w.m.H⟩:DS)=_;rw[<-s1.T,<-s1.H]
  show nR (JA i6 jT) (e.i::l.map (·.i)) (λ_=>I) _=_
  unfold nR;rw[mD];simp only[az,IT];rw[e1]
def atJ {jT:List Ev} {w w':WS} {id:Nat} (hT:w.m.T=m0.T) (hH:w.m.H=m0.H) (h0:w.m.nx=m0.nx+i6.size) (qu:∀x,m0.nx<=x->m0.H x=A) (hc:di E nt pn i6 w jT w') (nd:(jT.map (·.i)).Nodup) (fH:∀j,j∈jT.map (·.i)↔j<i6.size) (xS:∀e∈jT,e.nw=m0.nx+e.i) (hp:PW i6 [] jT):gE E nt (.region id i6 I) m0 .normal w'.m:=λok ro k g a wo Q n hQ=>by
 have uniq:∀{e e':Ev},e∈jT->e'∈jT->e.i=e'.i->e=e':=λh h' e0=>by
  have a:=Qh nd h;rw[e0,Qh nd h'] at a;exact (kh a).symm
 have SB:∀{e:Ev},e∈jT->e.nw<w.m.nx/\m0.nx<=e.nw:=λh=>by
  have:=(fH _).1 (dL.2 ⟨_,h,rfl⟩);rw[xS _ h,h0];omega
 have nwne:∀{a b:List Ev} {e:Ev},jT=a++e::b->∀e'∈a++b,e.nw≠e'.nw:=λ{a b e} he e' hm e0=>by
  have he1:e∈jT:=by rw[he];simp
  have he2:e'∈jT:=by rw[he];simp only[fk,cU] at hm ⊢;exact hm.elim .inl λh=>.inr (.inr h)
  rw[xS e he1,xS e' he2] at e0;have nd':=nd;rw[he,ky,j2] at nd';let ⟨_,n2,n3⟩:=Cf.1 nd';rcases fk.1 hm with hm|hm
  .exact n3 e'.i (dL.2 ⟨e',hm,rfl⟩) e.i am W
  .exact (qV.1 n2).1 (dL.2 ⟨e',hm,W⟩)
 have un:∀{a b:List Ev} {w1:WS},jT=a++b->di E nt pn i6 w a w1->∀e∈b,w1.m.H e.nw=A:=λ{a b w1} he pb e hm=>by
  obtain ⟨b1,b2,rfl⟩:=wY hm;have he1:e∈jT:=by rw[he];simp
  refine pb.Ni ?_ (SB he1).1 λe' Ju=>nwne (a:=a++b1) (b:=b2) (by rw[he];simp) e' (by simp[Ju])
  rw[hH];exact qu _ (SB he1).2
 let need:Nat->Nat->Prop:=λi x=>∃e,e∈jT/\e.i=i/\e.r.need x
 let frp:Nat->Nat->Prop:=λi x=>∃e,e∈jT/\e.i=i/\e.r.frp x
 let newp:Nat->Nat->Prop:=λi x=>∃e,e∈jT/\e.i=i/\e.r.newp x
 have spl:∀{a:bQ} {i:Nat} {b:bQ},jT.map (·.i)=a++i::b->∃ea e eb,jT=ea++e::eb/\ea.map (·.i)=a/\e.i=i:=λ{a i b} h=>by
  let ⟨ea,r,h1,h2,h3⟩:=List.map_eq_append_iff.1 h;let ⟨e,eb,h4,h5,h6⟩:=List.map_eq_cons_iff.1 h3;exact ⟨ea,e,eb,by rw[h1,h4],h2,h5⟩
 have apm:∀{e:Ev} {w1 w2:WS} {x:Nat} {r:bQ},Step E nt pn i6 e w1 w2->ov w1->e.Rd=V r->e.r.need x->w1.m.H x≠A/\((∃o,w1.F x=V o)\/∃K∈r,w1.c x=V K):=λ{e w1 w2 x r} st ok hr hx=>by
  rcases st.need r hr x hx with h|⟨K,m,h⟩
  .let ⟨o,ho⟩:=vB.1 h;exact ⟨by rw[(ok.fr x o ho).1];simp,.inl ⟨o,ho⟩⟩
  .exact ⟨(ok.alive h).1,.inr ⟨K,m,h⟩⟩
 have ind:∀{pa pm eb:List Ev} {e' e:Ev},jT=(pa++e'::pm)++e::eb->Good i6 e' pm e->Ind i6 (JA i6 jT) need e'.i e.i:=λ{pa pm eb e' e} he hg=>by
  let ⟨r',r,iN,hr,g1,g2⟩:=hg.rd;let ⟨o',o,ho',ho,AP⟩:=hg.sl;have me':e'∈jT:=by rw[he];simp
  have me:e∈jT:=by rw[he];simp
  have rl:=hc;rw[he] at rl;let ⟨w1,w2,c1,st,_,ok1⟩:=rl.split;let ⟨wp,wq,c2,kE,c3,okp⟩:=c1.split;have okq:ov wq:=by cases c3<;>assumption
  have nxp:=c2.F.2.2;have nxq:=kE.nx;have nx1:=c3.F.2.2;have unp:∀m∈e'::pm++e::eb,wp.m.H m.nw=A:=un (a:=pa) (by rw[he];simp) c2
  have une:w1.m.H e.nw=A:=un (a:=pa++e'::pm) he c1 e am
  have off:∀{x},wp.m.H x≠A->∀m∈e'::pm++e::eb,x≠m.nw:=λhx m hm e0=>hx (e0 ▸ unp m hm)
  have aCz:∀m∈pm++e::eb,e'.nw≠m.nw:=λm hm=>nwne (a:=pa) (b:=pm++e::eb) (by rw[he];simp) m (jw _ hm)
  have cW:∀{K},K∈r'++e'.ac->∀m∈pm,m.cl=I->K∉m.ac:=λhK m hm dX=>(g1 _ hK).2 m hm dX
  have T0:∀{x K},wp.c x=V K->K∈r'++e'.ac->w1.c x=V K\/w1.m.H x=A:=λ{x K} hx hK=>di.arx (.cons okp kE c3) okp hx λm hm=>⟨off (okp.alive hx).1 m (iP _ hm),λdX=>by
   rcases cU.1 hm with rfl|hm
   .rw[hg.cl] at dX;cases dX
   .exact cW hK m hm dX⟩
  have T1:∀{x},e'.r.D x=I->((∃K∈e'.ac,w1.c x=V K)\/w1.m.H x=A)/\x≠e.nw/\x<w1.m.nx:=λ{x} hx=>by
   rcases kE.D x hx with rfl|⟨h,_⟩|⟨K,m,h⟩
   .have cT:e'.nw<wq.m.nx:=by have:=(SB me').1;omega
    refine ⟨?_,aCz e am,W⟩
    by_cases hq:wq.m.H e'.nw=A
    .exact .inr (c3.Ni hq cT λm hm=>aCz m (iP _ hm))
    .let ⟨K,m,h⟩:=(kE.v7 hg.cl).2 hq;exact (c3.arx okq h λm' tX=>⟨aCz m' (iP _ tX),cW (jw _ m) m' tX⟩).imp_left λh=>⟨K,m,h⟩
   .rw[hg.cl] at h;cases h
   .let ⟨al,lt⟩:=okp.alive h;exact ⟨(T0 h (jw _ m)).imp_left λh=>⟨K,m,h⟩,off al e am,W⟩
  have dst:∀{e:Ev} {o:pw},e∈jT->i6[e.i]? =V o->(JA i6 jT e.i).dst=o.dst:=λhe ho=>by unfold JA;rw[Qh nd he];show (i6[_]?).bind _=_;rw[ho];rfl
  have Dv:∀{e:Ev},e∈jT->(JA i6 jT e.i).D=e.r.D:=λhe=>by unfold JA;rw[Qh nd he];rfl
  have sl:=j3.1 (show (xn o'.dst.toList (looks i6.toList o)&&(xn o.dst.toList (looks i6.toList o')&&xn o'.dst.toList o.dst.toList))=I from AP);have sl2:=j3.1 sl.2;have Dfin:∀{x},e.r.D x=I->x≠e.nw->x<w1.m.nx->∃K∈e.ac,w1.c x=V K:=λ{x} hx h1 h2=>by
   rcases st.D x hx with h|⟨_,h⟩|h
   .exact absurd h h1
   .omega
   .exact h
  refine ⟨λt ht o1 h1=> ?_,λt ht o1 h1=> ?_,λt ht h1=> ?_,λx hx=> ?_,λx hx=> ?_,λx hx=> ?_⟩
  .rw[dst me' ho'] at ht;rw[ho] at h1;cases h1;rw[<-ait];exact F0 sl.1 t (by rw[ht];simp)
  .rw[dst me ho] at ht;rw[ho'] at h1;cases h1;rw[<-ait];exact F0 sl2.1 t (by rw[ht];simp)
  .rw[dst me' ho'] at ht;rw[dst me ho] at h1;exact F0 sl2.2 t (by rw[ht];simp) (by rw[h1];simp)
  .rw[Dv me'] at hx;rw[Dv me];let ⟨t1,t2,t3⟩:=T1 hx;cases hd:e.r.D x with
   |false=>rfl
   |true=>
    let ⟨K,m,h⟩:=Dfin hd t2 t3;rcases t1 with ⟨K',m',h'⟩|h'
    .rw[h'] at h;cases h;exact absurd m (g1 _ (jw _ m')).1
    .exact absurd h' (ok1.alive h).1
  .rw[Dv me'];obtain ⟨e1,me1,ei,hx⟩:=hx;obtain rfl:=uniq me1 me ei;let ⟨n1,n2⟩:=apm st ok1 hr hx;cases hd:e'.r.D x with
   |false=>rfl
   |true=>
    let ⟨t1,_,_⟩:=T1 hd;rcases t1 with ⟨K',m',h'⟩|h'
    .rcases n2 with ⟨o,ho⟩|⟨K,m,h⟩
     .rw[(ok1.fr x o ho).2] at h';cases h'
     .rw[h'] at h;cases h;exact absurd m' (g2 _ m)
    .exact absurd h' n1
  .rw[Dv me];obtain ⟨e1,me1,ei,hx⟩:=hx;obtain rfl:=uniq me1 me' ei;let ⟨n1,n2⟩:=apm kE okp iN hx;have cT:x<wp.m.nx:=zm λh=>n1 (okp.bd x h)
   cases hd:e.r.D x with
   |false=>rfl
   |true=>
    let ⟨K,m,h⟩:=Dfin hd (off n1 e am) W
    rcases n2 with ⟨o,ho⟩|⟨K',m',h'⟩
    .rw[(ok1.fr x o (c3.F.1 x o (kE.F x o ho))).2] at h;cases h
    .rcases T0 h' (iP _ m') with h2|h2
     .rw[h2] at h;cases h;exact absurd m (g1 _ (iP _ m')).1
     .exact absurd h2 (ok1.alive h).1
 have step:∀{e:Ev},e∈jT->∃w1 w2 ea eb,jT=ea++e::eb/\di E nt pn i6 w ea w1/\Step E nt pn i6 e w1 w2/\di E nt pn i6 w2 eb w':=λhe=>by
  let ⟨ea,eb,h⟩:=wY he;have rl:=hc;rw[h] at rl;let ⟨w1,w2,h1,h2,h3,_⟩:=rl.split;exact ⟨w1,w2,ea,eb,h,h1,h2,h3⟩
 refine aEn (nt:=nt) (ul:=JA i6 jT) (need:=need) (frp:=frp) (newp:=newp) (s0:=⟨m0.T,m0.H⟩) nd fH n.env.mix (λa i b h=> ?_) (λa i b h=> ?_) (λi k hi hk dd x hx hy=> ?_) n.env n.fr n.hr (λi hi x hx=> ?_) λg' a' w1 q1 q2 q3 q4 q5=> ?_
 .obtain ⟨ea,e,eb,h1,h2,rfl⟩:=spl h;have me:e∈jT:=by rw[h1];simp
  have rl:=hc;rw[h1] at rl;let ⟨w1,w2,c1,st,_,_⟩:=rl.split;let ⟨o,ho,s1⟩:=st.st;have hs:=akO nd (λe' Ju=>by rw[h1];exact iP _ Ju) c1
  rw[hT,hH,h2] at hs;have eU:JA i6 jT e.i=⟨(i6[e.i]?).bind (·.dst),e.r.v,e.r.D,e.r.H⟩:=by unfold JA;rw[Qh nd me];rfl
  refine ⟨o,ho,by rw[eU,ho];rfl,?_⟩
  rw[hs,eU];exact λm g f T1 a w K Q e1 e2 e3 e4 e5 e6 e7=>s1.st ro m g f T1 a w K Q e1 e2 e3 e4 (λx hx=>e5 x ⟨e,me,rfl,hx⟩) (λx hx=>e6 x ⟨e,me,rfl,hx⟩) λr w' g' k1 k2 k3 k4=>e7 r w' g' k1 k2 k3 λx hx=>k4 x λhn=>hx ⟨e,me,rfl,hn⟩
 .obtain ⟨ea,e,eb,h1,h2,rfl⟩:=spl h;let ⟨p1,p2⟩:=hp.at h1;rw[jb,h2] at p1;refine ⟨p1,λk hk=> ?_⟩
  rw[<-h2] at hk;obtain ⟨e',Ju,rfl⟩:=dL.1 hk;let ⟨pa,pm,h3⟩:=wY Ju;rcases p2 pa e' pm (by rw[jb,h3]) with h|h
  .exact .inl h
  .exact .inr (ind (by rw[h1,h3]) h)
 .obtain ⟨e,me,rfl,hx⟩:=hx;obtain ⟨e2,me2,rfl,hy⟩:=hy;have n1:=SB me;have n2:=SB me2;have hnn:e.nw≠e2.nw:=by rw[xS e me,xS e2 me2];omega
  let ⟨ea,eb,he⟩:=wY me;have rl:=hc;have me3:=me2;rw[he] at rl me3;rcases fk.1 me3 with hm|hm
  .obtain ⟨b1,b2,rfl⟩:=wY hm;let ⟨w1,w2,c1,st,_,_⟩:=rl.split;let ⟨v1,v2,d1,vO,d2,_⟩:=c1.split;have a1:=d1.F.2.2;have a2:=d2.F.2.2;have a3:=vO.nx;rcases st.frp x hx with h1|⟨_,h1⟩<;>rcases vO.newp x hy with ⟨h2,_⟩|⟨_,h2,h3⟩
   .exact absurd (h1.symm.trans h2) hnn
   .omega
   .omega
   .omega
  .rcases cU.1 hm with h|hm
   .exact absurd (bH Ev.i h).symm dd
   obtain ⟨b1,b2,rfl⟩:=wY hm;have Ju:jT=(ea++e::b1)++e2::b2:=by rw[he];simp
   rw[show ea++e::(b1++e2::b2)=(ea++e::b1)++e2::b2 by simp] at rl
   let ⟨w1,w2,c1,vO,_,_⟩:=rl.split;let ⟨v1,v2,d1,st,d2,_⟩:=c1.split;have a1:=d1.F.2.2;have a2:=c1.F.2.2;rcases st.frp x hx with h1|⟨dX,h1⟩<;>rcases vO.newp x hy with ⟨h2,_⟩|⟨_,h2,h3⟩
   .exact absurd (h1.symm.trans h2) hnn
   .omega
   .omega
   .rcases (hp.at Ju).2 ea e b1 (by rw[jb]) with h|h
    .exact h
    .rw[h.cl] at dX;cases dX
 .obtain ⟨e,me,rfl,hx⟩:=hx;let ⟨w1,w2,ea,eb,he,c1,st,c2⟩:=step me;have a1:=c1.F.2.2;have n1:=SB me;refine n.fresh x ?_;rcases st.frp x hx with h1|⟨_,h1⟩<;>omega
 .have nb:∀{x i},newp i x->m0.nx<=x/\x<w'.m.nx:=λ{x i} h=>by
   obtain ⟨e,me,rfl,hx⟩:=h;let ⟨w1,w2,ea,eb,he,c1,st,c2⟩:=step me;have a1:=c1.F.2.2;have a2:=c2.F.2.2;have a3:=st.nx;have n1:=SB me;rcases st.newp x hx with ⟨h1,_⟩|⟨_,h1,h2⟩<;>omega
  have hfin:=akO nd (λe he=>he) hc
  rw[hT,hH] at hfin;rw[hfin] at q1 q2 q3;have lm:=hc.F.2.2;refine hQ g' a' w1 _ .normal ⟨n.env.mono q3.le,q1,q2,λx hx=> ?_⟩ ⟨q3,q4,λx hx=>q5 x λi _ h=> ?_,W⟩
  .rw[q5 x λi _ h=>by have:=nb h;omega]
   exact n.fresh x W
  .have:=nb h;omega
end
section
variable {s s' s1:LS} {E:Env} {pn:Nat->Bool} {nt:Nat} {i6:fD}
structure Mt where
 i:Nat
 o:pw
 ac:bQ
 Rd:Option bQ
 cl:Bool
def ancL (d:bQ) (l:List Mt):bQ:=List.rec (λd=>d) (λm _ ih d=>ih (aT (nN m.i d) (Ii m.o++d) d)) l d
def YX (all:oL) (o:pw) (rt ac:bQ) (Rd:G bQ):bQ->List Mt->Bool
 |_,[]=>I
 |cw,m::l=>(nN m.i rt||(!m.cl&&((match m.Rd,Rd with|some r',V r=>xn (r'++m.ac) (ac++cw)&&xn r m.ac|_,_=>U)&&Us all m.o o)))&&YX all o rt ac Rd (aT m.cl (m.ac++cw) cw) l
def ZN:bQ->List Mt->Bool
 | [],_=>I
 |k::l,p=>nN k (p.map (·.i))&&ZN l p
def aaP (E:Env) (nt:Nat) (pn:Nat->Bool) (all:oL):bQ->LS->Sc E->List cF->List Mt->G (LS×List cF×Sc E)
 | [],s,sc,ob,_=>V (s,ob,sc)
 |i::l,s,sc,ob,p=>aA (all[i]?) λo=>aA (arF E nt pn all s o sc) λr=>(λrt:bQ=>
  aT (D' (S6 (O p)) (O all)&&(ZN (Ii o) p&&(!nN i (p.map (·.i))&&YX all o rt r.1.r.ac r.1.Rd [] p))) (aaP E nt pn all l r.1.r.s r.2 (r.1.r.CB++ob) (⟨i,o,r.1.r.ac,r.1.Rd,r.1.cl⟩::p)) A) (ancL (Ii o) p)
structure Fits (ops:fD) (e:Ev) (m:Mt):Prop where
 i:e.i=m.i
 o:ops[e.i]? =V m.o
 ac:e.ac=m.ac
 Rd:e.Rd=m.Rd
 cl:e.cl=m.cl
inductive HI (ops:fD):List Ev->List Mt->Prop
 |nil:HI ops [] []
 |cons {p m e l:_} (h:HI ops p l) (k:Fits ops e m):HI ops (p++ [e]) (m::l)
def HI.map:∀{p:List Ev} {l:List Mt},HI i6 p l->∀k,k∈p.map (·.i)↔k∈l.map (·.i)
 |_,_,.nil,k=>Iff.rfl
 |_,_,.cons h f,k=>by simp only[ky,fk,h.map k,j2,cU,wa,List.not_mem_nil,or_false,f.i];exact Or.comm
def VD:∀{m n j:Nat},m<=n->∀i∈AW i6 m j,i∈AW i6 n j
 |0,_,_,_,i,h=>by cases h
 |m+1,0,_,h,_,_=>W
 |m+1,n+1,j,h,i,hi=>by
  rcases fk.1 (show i∈direct i6 j++(direct i6 j).flatMap (AW i6 m) from hi) with h1|h1
  .exact iP _ h1
  .let ⟨k,k1,k2⟩:=A5.1 h1;exact jw _ (A5.2 ⟨k,k1,VD (Nat.le_of_succ_le_succ h) i k2⟩)
def ajN:∀{n j i k:Nat},i∈AW i6 n j->k∈direct i6 i->k∈AW i6 (n+1) j
 |0,_,_,_,h,_=>by cases h
 |n+1,j,i,k,h,hk=>by
  rcases fk.1 (show i∈direct i6 j++(direct i6 j).flatMap (AW i6 n) from h) with h1|h1
  .exact jw _ (A5.2 ⟨i,h1,iP _ hk⟩)
  .let ⟨q,q1,q2⟩:=A5.1 h1;exact jw _ (A5.2 ⟨q,q1,ajN q2 hk⟩)
def aqd {j:Nat}:∀{p:List Ev} {l:List Mt} {q:Nat} {d:bQ},(∀i∈d,i∈AW i6 q j)->HI i6 p l->∀i∈ancL d l,i∈AW i6 (q+O l) j
 |_,_,_,_,hd,.nil,i,hi=>hd i hi
 |_,_,q,d,hd,.cons (m:=m) (l:=l) h k,i,hi=>by
  have:=aqd (q:=q+1) (d:=aT (nN m.i d) (Ii m.o++d) d) (λi hi=>by
   rw[cx] at hi;split at hi
   .rename_i hm;rcases fk.1 hi with hi|hi
    .exact ajN (hd _ ((uE _ _).1 hm)) (by unfold direct;rw[<-k.i,k.o];exact hi)
    .exact VD (qU _) i (hd i hi)
   .exact VD (qU _) i (hd i hi)) h i hi
  rwa[show q+1+O l=q+O (m::l) by rw[l7];omega] at this
def anS {l:List Mt}:∀{d:bQ},ZN d l=I->∀k∈d,k∈l.map (·.i)
 |k::d,h,j,hj=>by
  have h:=j3.1 (show (nN k (l.map (·.i))&&ZN d l)=I from h)
  rcases cU.1 hj with rfl|hj
  .exact (uE _ _).1 h.1
  .exact anS h.2 j hj
def apU {o:pw} {rt:bQ} {e:Ev} (ho:i6[e.i]? =V o):∀{p:List Ev} {l:List Mt} {cw:bQ},HI i6 p l->YX i6.toList o rt e.ac e.Rd cw l=I->∀pa e' pm,p=pa++e'::pm->e'.i∈rt\/(Good i6 e' pm e/\∃r',e'.Rd=V r'/\∀K∈r'++e'.ac,K∉cw)
 |_,_,cw,.nil,_,pa,e',pm,h0=>by
  have:=bH O h0;simp at this
 |_,_,cw,.cons (p:=p) (m:=m) (e:=e0) (l:=l) hf k,h,pa,e',pm,h0=>by
  have h:=j3.1 (show ((nN m.i rt||(!m.cl&&((match m.Rd,e.Rd with|some r',V r=>xn (r'++m.ac) (e.ac++cw)&&xn r m.ac|_,_=>U)&&Us i6.toList m.o o)))&&YX i6.toList o rt e.ac e.Rd (aT m.cl (m.ac++cw) cw) l)=I from h)
  rcases List.eq_nil_or_concat pm with rfl|⟨pm0,e1,rfl⟩
  .obtain ⟨rfl,h2⟩:=List.append_inj' h0 rfl;obtain rfl:=List.singleton_inj.1 h2;rcases (tG _ _).mp h.1 with h1|h1
   .left;rw[k.i];exact (uE _ _).1 h1
   .right;simp only[bI] at h1;let ⟨h1,h2,h3⟩:=h1;rw[<-k.Rd] at h2;split at h2
    .rename_i r' r e1 e2;rw[bI,<-k.ac] at h2;have d1:=F0 h2.1;have d2:=F0 h2.2;refine ⟨⟨by rw[k.cl];simpa using h1,⟨r',r,e1,e2,λK hK=>⟨λhm=>d1 K hK (iP _ hm),λm hm=>(by cases hm)⟩,d2⟩,⟨m.o,o,k.o,ho,h3⟩⟩,r',e1,λK hK hm=>d1 K hK (jw _ hm)⟩
    .cases h2
  .rw[List.concat_eq_append,show pa++e'::(pm0++ [e1])=(pa++e'::pm0)++ [e1] by simp] at h0
   let ⟨h1,h2⟩:=List.append_inj' h0 rfl;obtain rfl:=List.singleton_inj.1 h2;rcases apU ho hf h.2 pa e' pm0 h1 with h3|⟨⟨g1,⟨r',r,e1,e2,g2,g3⟩,g4⟩,r'',e3,g5⟩
   .exact .inl h3
   .right;rw[e1] at e3;cases e3;rw[cx] at g5;refine ⟨⟨g1,⟨r',r,e1,e2,λK hK=>⟨(g2 K hK).1,λm' tX dX=> ?_⟩,g3⟩,g4⟩,r',e1,λK hK hm=>g5 K hK ?_⟩
    .rw[List.concat_eq_append] at tX;rcases fk.1 tX with tX|tX
     .exact (g2 K hK).2 m' tX dX
     .rw[gy] at tX;subst tX;intro hKW;refine g5 K hK ?_;rw[ax (by rw[<-k.cl];exact dX)]
      exact iP _ (k.ac ▸ hKW)
    .split
     .exact jw _ hm
     .exact hm
def akJ {base:Nat}:∀{l:bQ} {s:LS} {sc:Sc E} {ob:List cF} {pm:List Mt} {r:LS×List cF×Sc E},aaP E nt pn i6.toList l s sc ob pm=V r->jF r.2.1->jF ob/\∀(p:List Ev) (w:WS),HI i6 p pm->(p.map (·.i)).Nodup->In s w->base+i6.size<=w.m.nx->(∀i,i<i6.size->i∉p.map (·.i)->w.m.H (base+i)=A)->
  ∃jT w',di E nt pn i6 w jT w'/\In r.1 w'/\jT.map (·.i)=l/\(∀e∈jT,e.nw=base+e.i)/\PW i6 p jT/\((p++jT).map (·.i)).Nodup/\(pn vd=I->∀x,w.m.H x≠A->w'.m.H x=w.m.H x/\w'.c x=w.c x)
 | [],s,sc,ob,pm,r,h,ho=>by
  cases h;exact ⟨ho,λp w _ nd hw _ _=>⟨[],w,.nil hw.wok,hw,rfl,λe he=>(by cases he),trivial,by simpa using nd,λ_ _ _=>⟨rfl,rfl⟩⟩⟩
 |i::l,s,sc,ob,pm,r,h,ho=>by
  let ⟨o,hi,h⟩:=ak h;let ⟨q,hq,h⟩:=ak h;let ⟨hc,h⟩:=bf h;simp only[bI] at hc;let ⟨k1,k2,k3,k4⟩:=hc;rw[ng] at hi;obtain ⟨h1,h2⟩:=akJ h ho;let ⟨h3,h4⟩:=qf h1;refine ⟨h4,λp w hf nd hw oH hun=> ?_⟩
  have cT:i<i6.size:=(pq.1 hi).1;have hip:i∉p.map (·.i):=λhm=>Ld k3 ((hf.map i).1 hm)
  let ⟨r1,w1,st,in1,n1,q9⟩:=afR (new:=base+i) (nZ:=w.m.nx) hi hq h3 hw (hun i cT hip) (cM _) W λ_=>.inr rfl
  have dird:∀k∈Ii o,k∈direct i6 i:=λk hk=>by unfold direct;rw[hi];exact hk
  have fit:Fits i6 ⟨i,base+i,r1,q.1.r.ac,q.1.Rd,q.1.cl⟩ ⟨i,o,q.1.r.ac,q.1.Rd,q.1.cl⟩:=⟨rfl,hi,rfl,rfl,rfl⟩;have nd':((p++ [(⟨i,base+i,r1,q.1.r.ac,q.1.Rd,q.1.cl⟩:Ev)]).map (·.i)).Nodup:=by
   rw[ky];exact Cf.2 ⟨nd,am,λa ha b hb e=>hip (by rw[show b=i by simpa using hb] at e;exact e ▸ ha)⟩
  let ⟨jT,w',c1,c2,c3,c4,c5,c6,c9⟩:=h2 _ w1 (.cons hf fit) nd' in1 (lO oH st.nx) λj hj hjp=>qP λdd=>by
   rw[ky,fk,not_or] at hjp;rcases st.born (base+j) (hun j hj hjp.1) dd with e|e
   .exact hjp.2 (by have e:base+j=base+i:=e;simp;omega)
   .have e:w.m.nx<=base+j:=e;omega
  refine ⟨⟨i,base+i,r1,q.1.r.ac,q.1.Rd,q.1.cl⟩::jT,w',.cons hw.wok st c1,c2,by rw[j2,c3],λe he=> ?_,⟨⟨λk hk=> ?_,λpa e' pm' hp=> ?_⟩,c5⟩,by simpa using c6,λhp x hx=>have ⟨a1,a2⟩:=q9 hp x hx;have ⟨b1,b2⟩:=c9 hp x (a1 ▸ hx);⟨b1.trans a1,b2.trans a2⟩⟩
  .rcases cU.1 he with rfl|he
   .rfl
   .exact c4 e he
  .refine (hf.map k).2 (anS k2 k ?_);have hk:k∈((i6[i]?).map Ii).getD []:=hk;rw[hi] at hk;exact hk
  .rcases apU (e:=⟨i,base+i,r1,q.1.r.ac,q.1.Rd,q.1.cl⟩) hi hf k4 pa e' pm' hp with h|⟨h,_⟩
   .refine .inl (VD ?_ _ (aqd (q:=1) (λk hk=>iP _ (dird k hk)) hf _ h))
    have:=(bO _ _).1 k1;have e:O i6.toList=i6.size:=Pz;omega
   .exact .inr h
def ordS (n:Nat) (sc:Sc E):bQ×Sc E:=
 match sc with
 |(0,.ord l)::sc=>(l,sc)
 |_=>(DO n,sc)
def aIg (E:Env) (nt:Nat) (pn:Nat->Bool) (all:oL) (n:Nat) (s:LS) (sc:Sc E) (ob:List cF):G (LS×List cF×Sc E):=
 (λq:LS×List cF×Sc E=>(λσ:bQ×Sc E=>aT ((DO n).all λj=>nN j σ.1) (aaP E nt pn all σ.1 q.1 σ.2 q.2.1 []) A) (ordS n q.2.2)) (FQ pn sc s ob)
def aEo {id:Nat} {sc:Sc E} {r:LS×List cF×Sc E} (h:aIg E nt pn i6.toList i6.size s sc ob=V r) (ho:jF r.2.1):jF ob/\∀w,In s w->∃w',gE E nt (.region id i6 I) w.m .normal w'.m/\In r.1 w'/\Ext pn w w':=by
 let ⟨h1,h⟩:=bf h;let ⟨h2,h3⟩:=akJ (base:=0) h ho;let ⟨h4,h5,h9⟩:=Oh sc s ob h2;refine ⟨h4,λw hw=> ?_⟩
 let ⟨w1,k1,k2,k3⟩:=hw.Sl h5 h9;let w2:WS:=⟨w1.F,w1.g,w1.Z,w1.c,⟨w1.m.T,w1.m.H,w1.m.nx+i6.size⟩⟩;have in2:In (FQ pn sc s ob).1 w2:=⟨k1.r,λx hx=>k1.bd x (by have hx:w1.m.nx+i6.size<=x:=hx;omega)⟩
 let ⟨_,h3⟩:=akJ (base:=w1.m.nx) h ho;let ⟨jT,w',c1,c2,c3,c4,c5,c6,c9⟩:=h3 [] w2 .nil am in2 (cM _) λi _ _=>k1.bd _ W
 have c6:(jT.map (·.i)).Nodup:=by simpa using c6
 have cT:∀j∈jT.map (·.i),j<i6.size:=λj hj=>by
  obtain ⟨e,he,rfl⟩:=dL.1 hj;let ⟨a,b,Ju⟩:=wY he;rw[Ju] at c1;let ⟨_,_,_,st,_⟩:=c1.split;let ⟨o,ho,_⟩:=st.st;exact (pq.1 ho).1
 have hF:=c1.F;have oH:w1.m.nx<=w'.m.nx:=lO (Py _ _) hF.2.2;refine ⟨w',?_,c2,k2.trans ⟨hF.1,hF.2.1,oH,λx hx dd h0=> ?_,c9⟩⟩
 .rw[<-k3];exact atJ (w:=w2) rfl rfl rfl k1.bd c1 c6 (λj=>⟨cT j,λhj=>by rw[c3];exact (uE _ _).1 ((jR.1 h1) j (asQ.2 hj))⟩) c4 c5
 .refine dd (c1.Ni h0 (show x<w1.m.nx+i6.size by omega) λe he e0=> ?_)
  rw[c4 e he] at e0;omega
end
section
variable {s s' s1:LS} {E:Env} {nt:Nat}
def GO:MJ->Nat->MJ
 | .seq a _,0=>a
 | .seq _ b,_=>b
 | .cond _ a _,0=>a
 | .cond _ _ b,_=>b
 | .block _ c,_=>c
 | .loop c,_=>c
 |_,_=>.skip
def sO (c:MJ):bQ->MJ
 | []=>c
 |i::p=>GO (sO c p) i
inductive KP where
 |code (p:bQ) (c:MJ)|block (id:Nat)|loop (p:bQ) (c:MJ)
def kR (c:MJ):bQ->List KP
 | []=> []
 |i::p=>
  match sO c p with
  | .seq _ b=>(match i with|0=>.code (1::p) b::kR c p|_=>kR c p)
  | .block id _=>.block id::kR c p
  | .loop b=>.loop p b::kR c p
  |_=>kR c p
structure Fx (E:Env) where
 fn:Func
 code:MJ
 NA:bQ
 ro:Bool
def zN (X:Fx E) (k:Nat):Bool:=aT (Cz k vd) X.ro (pnL X.NA k)
inductive Md where
 |Ad (c:MJ) (p:bQ) (kS:Bool)|out (e:Ex)
inductive Stop where
 |at (p:bQ) (s:LS)|ret (y:AV) (bs:de)
def eqP:bQ->bQ->Bool
 | []=>λq=>(match q with| []=>I|_=>U)
 |a::p=>λq=>(match q with| []=>U|b::q=>aT (Cz a b) (eqP p q) U)
def aDP (p:bQ) (st:Stop):G LS:=
 match st with
 | .at q s=>aT (eqP q p) (V s) A
 |_=>A
def Sq (E:Env) (s:LS):NR->AV
 | .tmp t=>(lk t s.ts).getD .undef
 | .cell t ty=>(cq (lk t s.ts) (E.ty.get ty) λa i=>Lh i s.bs a).getD .undef
def lC:bg->AV
 | [v]=>v
 |vs=>.dh vs
abbrev Dy:=G (Stop×List cF)
def aCp (X:Fx E) (st:Stop) (s:LS) (o:List cF):Dy:=
 match st with
 | .ret y bs=>(λys:bg=>aA (OA s.bs bs) λbs=>aT (sd ys) (V (.ret (cv y (lC ys)) bs,o)) A) (X.fn.results.toList.map (Sq E s))
 |_=>A
def retG (X:Fx E) (st:Stop) (s:LS) (sc:Sc E) (o:List cF):Dy:=(λq:LS×List cF×Sc E=>aCp X st q.1 q.2.1) (FQ (zN X) sc s o)
abbrev OO (E:Env):=Md->List KP->LS->Sc E->List cF->Dy
def regK (X:Fx E) (ih:OO E) (i6:oL) (n:Nat) (draw:Bool) (ks:List KP) (s:LS) (sc:Sc E) (o:List cF):Dy:=
 aA (aT draw (aIg E X.fn.ntmps (zN X) i6 n s sc o) (ahA E X.fn.ntmps (zN X) i6 i6 s sc o)) λr=>ih (.out .normal) ks r.1 r.2.2 r.2.1
def Vn (X:Fx E) (st:Stop) (ih:OO E) (c:MJ) (p:bQ) (ks:List KP) (s:LS) (sc:Sc E) (o:List cF):Dy:=
 match c with
 | .skip=>ih (.out .normal) ks s sc o
 | .seq a b=>ih (.Ad a (0::p) I) (.code (1::p) b::ks) s sc o
 | .region _ i6 draw=>regK X ih i6.toList i6.size draw ks s sc o
 | .cond x a b=>(match dR s.ts x with
  | .lit (.bool t)=>aT t (ih (.Ad a (0::p) I) ks s sc o) (ih (.Ad b (1::p) I) ks s sc o)
  |_=>A)
 | .block id c=>ih (.Ad c (0::p) I) (.block id::ks) s sc o
 | .loop c=>ih (.Ad c (0::p) I) (.loop p c::ks) s sc o
 | .exit id=>ih (.out (.exit id)) ks s sc o
 | .ret=>ih (.out .ret) ks s sc o
 |_=>A
def aix (X:Fx E) (st:Stop) (ih:OO E) (e:Ex) (ks:List KP) (s:LS) (sc:Sc E) (o:List cF):Dy:=
 match ks with
 | []=>aT (U6 e) (retG X st s sc o) A
 | .code p c::ks=>aT (uG e) (ih (.Ad c p I) ks s sc o) (ih (.out e) ks s sc o)
 | .block id::ks=>ih (.out (leave id e)) ks s sc o
 | .loop p c::ks=>aT (uG e) (ih (.Ad (.loop c) p I) ks s sc o) (ih (.out e) ks s sc o)
def aRZ (ro:Bool) (p:bQ) (w:LS) (q:LS×List cF×Sc E):Dy:=aT ro A (aA (OA q.1.bs w.bs) λbs=>V (.at p ⟨cvT w.ts q.1.ts,bs⟩,q.2.1))
def aro (X:Fx E) (st:Stop) (ih:OO E) (m:Md) (ks:List KP) (s:LS) (sc:Sc E) (o:List cF):Dy:=
 match m with
 | .Ad c p kS=>aT kS (match aDP p st with
  |some w=>aRZ (zN X vd) p w (FQ (zN X) sc s o)
  |none=>Vn X st ih c p ks s sc o) (Vn X st ih c p ks s sc o)
 | .out e=>aix X st ih e ks s sc o
def runK (X:Fx E) (st:Stop) (n:Nat):OO E:=Nat.rec (λ_ _ _ _ _=>A) (λ_ ih=>aro X st ih) n
def ti (X:Fx E) (st:Stop) (p:bQ) (s:LS) (sc:Sc E):Dy:=runK X st 100000 (.Ad (sO X.code p) p U) (kR X.code p) s sc []
def KT (E:Env) (nt:Nat):List KP->Ex->MS->Ex->MS->Prop
 | [],e,m,e',m'=>e=e'/\m=m'
 | .code _ c::ks,e,m,e',m'=>if uG e=I then ∃e1 m1,gE E nt c m e1 m1/\KT E nt ks e1 m1 e' m' else KT E nt ks e m e' m'
 | .block id::ks,e,m,e',m'=>KT E nt ks (leave id e) m e' m'
 | .loop _ c::ks,e,m,e',m'=>if uG e=I then ∃e1 m1,gE E nt (.loop c) m e1 m1/\KT E nt ks e1 m1 e' m' else KT E nt ks e m e' m'
def KTC (E:Env) (nt:Nat) (c:MJ) (ks:List KP) (m:MS) (e':Ex) (m':MS):Prop:=∃e1 m1,gE E nt c m e1 m1/\KT E nt ks e1 m1 e' m'
def MdT (E:Env) (nt:Nat) (md:Md) (ks:List KP) (m:MS) (e':Ex) (m':MS):Prop:=
 match md with
 | .Ad c _ _=>KTC E nt c ks m e' m'
 | .out e=>KT E nt ks e m e' m'
def Holds (X:Fx E) (Q:Ex->WS->Prop) (ks:List KP) (s:LS) (md:Md):Prop:=∀w,In s w->∃e' w',MdT E X.fn.ntmps md ks w.m e' w'.m/\Ext (zN X) w w'/\Q e' w'
def Fin (X:Fx E) (y:AV) (hY:de) (e:Ex) (w:WS):Prop:=U6 e=I/\(∃vs,Bo E w.m.T w.m.H X.fn.results.toList=V vs/\VA w.F w.g (oneOf vs) y)/\Rel w.F w.g w.Z w.c ⟨[],hY⟩ noT w.m.H/\∀x,w.m.nx<=x->w.m.H x=A
def AtQ (X:Fx E) (p:bQ) (s:LS) (Q:Ex->WS->Prop):Prop:=Holds X Q (kR X.code p) s (.Ad (sO X.code p) p U)
def At (X:Fx E) (p:bQ) (s:LS) (y:AV) (hY:de):Prop:=AtQ X p s (Fin X y hY)
def Holds.step {X:Fx E} {Q:Ex->WS->Prop} {ks NP:List KP} {md md':Md} (h:Holds X Q NP s md') (k:∀{m e m'},MdT E X.fn.ntmps md' NP m e m'->MdT E X.fn.ntmps md ks m e m'):Holds X Q ks s md:=λw hw=>
 let ⟨e,w',h1,h2,h3⟩:=h w hw
 ⟨e,w',k h1,h2,h3⟩
def Holds.lead {X:Fx E} {Q:Ex->WS->Prop} {ks NP:List KP} {md md':Md} (h:Holds X Q NP s' md') (k:∀w,In s w->∃w1,In s' w1/\Ext (zN X) w w1/\∀{e m'},MdT E X.fn.ntmps md' NP w1.m e m'->MdT E X.fn.ntmps md ks w.m e m'):Holds X Q ks s md:=λw hw=>
 let ⟨w1,k1,k2,k3⟩:=k w hw
 let ⟨e,w',h1,h2,h3⟩:=h w1 k1
 ⟨e,w',k3 h1,k2.trans h2,h3⟩
def Holds.Sl {X:Fx E} {Q:Ex->WS->Prop} {ks:List KP} {md:Md} (h:Holds X Q ks s' md) (k:kT (zN X) s s') (CK:zN X vd=I->s'=s):Holds X Q ks s md:=h.lead λw hw=>
 let ⟨w1,k1,k2,k3⟩:=hw.Sl k CK
 ⟨w1,k1,k2,λh=>k3 ▸ h⟩
def abX {e:Ex} (h:uG e=I):e= .normal:=by cases e<;>first|rfl|cases h
def KTC.seq {a b:MJ} {p:bQ} {ks:List KP} {m m':MS} {e:Ex} (h:KTC E nt a (.code p b::ks) m e m'):KTC E nt (.seq a b) ks m e m':=by
 let ⟨e1,m1,h1,h2⟩:=h;unfold KT at h2;split at h2
 .rename_i hn;obtain rfl:=abX hn;let ⟨e2,m2,h3,h4⟩:=h2;exact ⟨e2,m2,.seq h1 h3,h4⟩
 .rename_i hn;exact ⟨e1,m1,.axL (by simpa using hn) h1,h2⟩
def KTC.loop {c:MJ} {p:bQ} {ks:List KP} {m m':MS} {e:Ex} (h:KTC E nt c (.loop p c::ks) m e m'):KTC E nt (.loop c) ks m e m':=by
 let ⟨e1,m1,h1,h2⟩:=h;unfold KT at h2;split at h2
 .rename_i hn;obtain rfl:=abX hn;let ⟨e2,m2,h3,h4⟩:=h2;exact ⟨e2,m2,.loop h1 h3,h4⟩
 .rename_i hn;exact ⟨e1,m1,.aKl (by simpa using hn) h1,h2⟩
def KOK (X:Fx E):List KP->Prop
 | []=>True
 | .code p c::ks=>c=sO X.code p/\ks=kR X.code p/\KOK X ks
 | .loop p c::ks=>Code.loop c=sO X.code p/\ks=kR X.code p/\KOK X ks
 | .block _::ks=>KOK X ks
def aja (X:Fx E):∀p,KOK X (kR X.code p)
 | []=>trivial
 |i::p=>by
  have ih:=aja X p;unfold kR;split
  .rename_i a b hc;split
   .exact ⟨by simp[sO,hc,GO],by simp[kR,hc],ih⟩
   .exact ih
  .exact ih
  .rename_i b hc;exact ⟨hc.symm,rfl,ih⟩
  .exact ih
def BL (X:Fx E) (ks:List KP):Md->Prop
 | .Ad c p _=>c=sO X.code p/\ks=kR X.code p
 | .out _=>True
def adY (X:Fx E) (Q:Ex->WS->Prop):Stop->Prop
 | .at p s=>AtQ X p s Q
 | .ret y bs=>∀e w,Fin X y bs e w->Q e w
def auJ (X:Fx E) (Q:Ex->WS->Prop) (ih:OO E):Prop:=
 ∀m ks s sc o r,ih m ks s sc o=V r->jF r.2->KOK X ks->BL X ks m->adY X Q r.1->jF o/\Holds X Q ks s m
def aJZ {F:Hf} {g:Gb} {Z:Nat->Ow} {c:Nat->cC} {T:Tf} {H:Hf} (r:Rel F g Z c s T H) {x:NR} (hu:Sq E s x≠ .undef):∃v,Uw E T H x=V v/\VA F g v (Sq E s x):=by
 cases x with
 |tmp t=>
  have hu:(lk t s.ts).getD .undef≠ .undef:=hu;show ∃v,T t=V v/\VA F g v ((lk t s.ts).getD .undef);cases h:lk t s.ts with
  |none=>rw[h] at hu;exact absurd rfl hu
  |some x=>rw[h] at hu;exact r.tm t x h hu
 |cell t ty=>
  have hu:(cq (lk t s.ts) (E.ty.get ty) λa i=>Lh i s.bs a).getD .undef≠ .undef:=hu
  show ∃v,aA (T t) (sy E H ty)=V v/\VA F g v ((cq (lk t s.ts) (E.ty.get ty) λa i=>Lh i s.bs a).getD .undef)
  cases h:cq (lk t s.ts) (E.ty.get ty) λa i=>Lh i s.bs a with
  |none=>rw[h] at hu;exact absurd rfl hu
  |some x=>
   let ⟨a,i,h1,h2,h3⟩:=bV h;let ⟨v,v1,v2⟩:=r.tm t a h1 (λe=>by subst e;cases h3)
   let ⟨u,u1,u2⟩:=apt (E:=E) (t:=ty) h2 h3 r v2;refine ⟨u,?_,u2⟩;rw[v1];show sy E H ty v=_;cases hl:sy E H ty v with
   |none=>rw[hl] at u1;cases u1
   |some z=>rw[hl] at u1;cases u1;rfl
def aoH {F:Hf} {g:Gb} {Z:Nat->Ow} {c:Nat->cC} {T:Tf} {H:Hf} (r:Rel F g Z c s T H):∀{l:List NR},sd (l.map (Sq E s))=I->∃vs,Bo E T H l=V vs/\dS F g vs (l.map (Sq E s))
 | [],_=>⟨[],rfl,.nil⟩
 |x::l,h=>by
  have h:aT (tW (Sq E s x)) U (sd (l.map (Sq E s)))=I:=h;rw[cx] at h;split at h
  .cases h
  .rename_i hx;obtain ⟨v,v1,v2⟩:=aJZ (E:=E) r (akE (by simpa using hx))
   let ⟨vs,w1,w2⟩:=aoH r h;exact ⟨v::vs,by show cq _ _ _=_;rw[v1,w1];rfl,.cons v2 w2⟩
def aJY {X:Fx E} {Q:Ex->WS->Prop} {st:Stop} {sc:Sc E} {r:Stop×List cF} {e:Ex} (he:U6 e=I) (h:retG X st s sc o=V r) (ho:jF r.2) (hp:adY X Q r.1):jF o/\Holds X Q [] s (.out e):=by
 have h:aCp X st (FQ (zN X) sc s o).1 (FQ (zN X) sc s o).2.1=V r:=h;unfold aCp at h;split at h
 .rename_i y bs _;let ⟨hY,h1,h⟩:=ak h;let ⟨h2,h⟩:=bf h;cases h;let ⟨k1,k2,k3⟩:=Oh sc s o ho;refine ⟨k1,Holds.Sl (λw hw=>⟨e,w,⟨rfl,rfl⟩,.refl w,hp e w ⟨he,?_,?_,hw.bd⟩⟩) k2 k3⟩
  .let ⟨vs,v1,v2⟩:=aoH (E:=E) hw.r h2;refine ⟨vs,v1,Ec ?_⟩;generalize X.fn.results.toList.map _=ys at v2;cases v2 with
   |nil=>exact .dh .nil
   |cons a b=>cases b with
    |nil=>exact a
    |cons b c=>exact .dh (.cons a (.cons b c))
  .have:=hw.r.cv (w:=⟨[],bs⟩) h1;exact {this with tm:=λt x hx=>(by cases hx)}
 .cases h
def acg {X:Fx E} {Q:Ex->WS->Prop} {st:Stop} {ih:OO E} {c:MJ} {p:bQ} {ks:List KP} {sc:Sc E} {r:Stop×List cF} {kS:Bool} (FH:auJ X Q ih) (h:Vn X st ih c p ks s sc o=V r) (ho:jF r.2) (hk:KOK X ks) (h1:c=sO X.code p) (h2:ks=kR X.code p) (hp:adY X Q r.1):jF o/\Holds X Q ks s (.Ad c p kS):=by
 unfold Vn at h;split at h
 .let ⟨q1,q2⟩:=FH _ _ _ _ _ _ h ho hk trivial hp;exact ⟨q1,q2.step λh=>⟨_,_,.skip,h⟩⟩
 .rename_i a b;let ⟨q1,q2⟩:=FH _ _ _ _ _ _ h ho ⟨by simp[sO,<-h1,GO],by simp[kR,<-h1,h2],hk⟩ ⟨by simp[sO,<-h1,GO],by simp[kR,<-h1,h2]⟩ hp
  exact ⟨q1,q2.step λh=>KTC.seq h⟩
 .rename_i id i6 draw;let ⟨q,h3,h⟩:=ak h;let ⟨q1,q2⟩:=FH _ _ _ _ _ _ h ho hk trivial hp;rw[cx] at h3;split at h3
  .rename_i hd;subst hd;let ⟨q3,q4⟩:=aEo (id:=id) h3 q1;exact ⟨q3,q2.lead λw hw=>let ⟨w1,a,b,c⟩:=q4 w hw;⟨w1,b,c,λh=>⟨_,_,a,h⟩⟩⟩
  .rename_i hd;obtain rfl:draw=U:=by simpa using hd
   let ⟨q3,q4⟩:=abO (i:=0) (i6:=i6) am (rY _) h3 q1
   exact ⟨q3,q2.lead λw hw=>let ⟨w1,a,b,c⟩:=q4 w hw;⟨w1,b,c,λh=>⟨_,_,.region a,h⟩⟩⟩
 .rename_i x a b;split at h
  .rename_i t hv;have hc:∀w,In s w->dy w.m.T x=V (.bool t):=λw hw=>by
    let ⟨v,v1,v2⟩:=hw.r.val hv am
    cases v2;exact v1
   rw[cx] at h;split at h
   .rename_i ht;subst ht;let ⟨q1,q2⟩:=FH _ _ _ _ _ _ h ho hk ⟨by simp[sO,<-h1,GO],by simp[kR,<-h1,h2]⟩ hp
    exact ⟨q1,q2.lead λw hw=>⟨w,hw,.refl w,λ⟨e1,m1,k1,k2⟩=>⟨e1,m1,.cond (b:=I) (hc w hw) k1,k2⟩⟩⟩
   .rename_i ht;obtain rfl:t=U:=by simpa using ht
    let ⟨q1,q2⟩:=FH _ _ _ _ _ _ h ho hk ⟨by simp[sO,<-h1,GO],by simp[kR,<-h1,h2]⟩ hp
    exact ⟨q1,q2.lead λw hw=>⟨w,hw,.refl w,λ⟨e1,m1,k1,k2⟩=>⟨e1,m1,.cond (b:=U) (hc w hw) k1,k2⟩⟩⟩
  .cases h
 .rename_i id c;let ⟨q1,q2⟩:=FH _ _ _ _ _ _ h ho hk ⟨by simp[sO,<-h1,GO],by simp[kR,<-h1,h2]⟩ hp
  exact ⟨q1,q2.step λ⟨e1,m1,k1,k2⟩=>⟨_,m1,.block k1,k2⟩⟩
 .rename_i c;let ⟨q1,q2⟩:=FH _ _ _ _ _ _ h ho ⟨h1,h2,hk⟩ ⟨by simp[sO,<-h1,GO],by simp[kR,<-h1,h2]⟩ hp
  exact ⟨q1,q2.step λh=>KTC.loop h⟩
 .let ⟨q1,q2⟩:=FH _ _ _ _ _ _ h ho hk trivial hp;exact ⟨q1,q2.step λh=>⟨_,_,.exit,h⟩⟩
 .let ⟨q1,q2⟩:=FH _ _ _ _ _ _ h ho hk trivial hp;exact ⟨q1,q2.step λh=>⟨_,_,.ret,h⟩⟩
 .cases h
def ayO {X:Fx E} {Q:Ex->WS->Prop} {st:Stop} {ih:OO E} {e:Ex} {ks:List KP} {sc:Sc E} {r:Stop×List cF} (FH:auJ X Q ih) (h:aix X st ih e ks s sc o=V r) (ho:jF r.2) (hk:KOK X ks) (hp:adY X Q r.1):jF o/\Holds X Q ks s (.out e):=by
 unfold aix at h;split at h
 .let ⟨he,h⟩:=bf h;exact aJY he h ho hp
 .rename_i p c ks;let ⟨k1,k2,k3⟩:=hk;rw[cx] at h;split at h
  .rename_i he;let ⟨q1,q2⟩:=FH _ _ _ _ _ _ h ho k3 ⟨k1,k2⟩ hp;exact ⟨q1,q2.step λh=>by show KT E _ (.code p c::ks) e _ _ _;unfold KT;rw[ax he];exact h⟩
  .rename_i he;let ⟨q1,q2⟩:=FH _ _ _ _ _ _ h ho k3 trivial hp;exact ⟨q1,q2.step λh=>by show KT E _ (.code p c::ks) e _ _ _;unfold KT;rw[au he];exact h⟩
 .rename_i id ks;let ⟨q1,q2⟩:=FH _ _ _ _ _ _ h ho hk trivial hp;exact ⟨q1,q2.step λh=>h⟩
 .rename_i p c ks;let ⟨k1,k2,k3⟩:=hk;rw[cx] at h;split at h
  .rename_i he;let ⟨q1,q2⟩:=FH _ _ _ _ _ _ h ho k3 ⟨k1,k2⟩ hp;exact ⟨q1,q2.step λh=>by show KT E _ (.loop p c::ks) e _ _ _;unfold KT;rw[ax he];exact h⟩
  .rename_i he;let ⟨q1,q2⟩:=FH _ _ _ _ _ _ h ho k3 trivial hp;exact ⟨q1,q2.step λh=>by show KT E _ (.loop p c::ks) e _ _ _;unfold KT;rw[au he];exact h⟩
def aaa (X:Fx E) (st:Stop) (Q:Ex->WS->Prop):∀n,auJ X Q (runK X st n)
 |0=>λm ks s sc o r h=>by
  have h:A=V r:=h;cases h
 |n+1=>λm ks s sc o r h ho hk hm hp=>by
  have ih:=aaa X st Q n;have h:aro X st (runK X st n) m ks s sc o=V r:=h;cases m with
  |out e=>exact ayO ih h ho hk hp
  |Ad c p kS=>
   let ⟨m1,m2⟩:=hm;unfold aro at h;dsimp only at h;rw[cx] at h;split at h
   .split at h
    .rename_i l hl;have h:aT (zN X vd) A (aA (OA (FQ (zN X) sc s o).1.bs l.bs) λbs=>V (Stop.at p ⟨cvT l.ts (FQ (zN X) sc s o).1.ts,bs⟩,(FQ (zN X) sc s o).2.1))=V r:=h
     rw[cx] at h;split at h
     .cases h
     rename_i hr;let ⟨bs,h1,h⟩:=ak h;cases h;let ⟨k1,k2,_⟩:=Oh sc s o ho;subst m1;subst m2;exact ⟨k1,Holds.Sl hp (k2.trans (kT.cv h1)) λh=>absurd h hr⟩
    .exact acg ih h ho hk m1 m2 hp
   .exact acg ih h ho hk m1 m2 hp
abbrev Shw:=G (Stop×List Prop)
def KX (r:Dy):Shw:= @Option.rec (Stop×List cF) (λ_=>Shw) A (λq=>V (q.1,q.2.map cF.need)) r
def KY (st:Stop) (r:Dy):Shw:= @Option.rec (Stop×List cF) (λ_=>Shw) (V (st,[])) (λq=>V (st,q.2.map cF.got)) r
def aqe:∀{l:List cF},l.map cF.need=l.map cF.got->jF l
 | [],_=>trivial
 |q::l,h=>by
  rw[j2,j2,List.cons.injEq] at h;exact ⟨h.1 ▸ q.pf,aqe h.2⟩
def axN {st:Stop} {r:Dy} (h:KX r=KY st r):∃o,r=V (st,o)/\jF o:=by
 cases r with
 |none=>cases h
 |some q=>
  have h:V (q.1,q.2.map cF.need)=V (st,q.2.map cF.got):=h;rw[asU,Prod.mk.injEq] at h;exact ⟨q.2,by rw[<-h.1],aqe h.2⟩
def ahz {X:Fx E} {p p':bQ} {s s':LS} {sc:Sc E} {y:AV} {hY:de} (h:KX (ti X (.at p' s') p s sc)=KY (.at p' s') (ti X (.at p' s') p s sc)) (k:At X p' s' y hY):At X p s y hY:=by
 let ⟨o,h1,h2⟩:=axN h;exact (aaa X _ _ _ _ _ _ _ _ _ h1 h2 (aja X p) ⟨rfl,rfl⟩ k).2
def aoG {X:Fx E} {p:bQ} {s:LS} {sc:Sc E} {y:AV} {hY:de} (h:KX (ti X (.ret y hY) p s sc)=KY (.ret y hY) (ti X (.ret y hY) p s sc)):At X p s y hY:=by
 let ⟨o,h1,h2⟩:=axN h;exact (aaa X _ _ _ _ _ _ _ _ _ h1 h2 (aja X p) ⟨rfl,rfl⟩ λe w h=>h).2
end
section
section
variable {F F':Hf} {g g':Gb} {s s' s1:LS} {E:Env} {nt:Nat}
def Hy:Nat->bg->fN
 |_,[]=> []
 |i,x::l=>(i,x)::Hy (i+1) l
def ajK:∀{xs:bg} {aa:bj},dS F g aa xs->∀{i t:Nat} {x:AV},lk t (Hy i xs)=V x->∃v,i<=t/\t<i+O aa/\aa[t-i]? =V v/\VA F g v x
 | [],_,_,i,t,x,h=>by cases h
 |y::l,_,.cons (vs:=vs) hv q,i,j,x,h=>by
  rw[show Hy i (y::l)=(i,y)::Hy (i+1) l from rfl,dH] at h;split at h
  .rename_i e;cases h;subst e;exact ⟨_,cM _,am,am,hv⟩
  .let ⟨v,a1,a2,a3,a4⟩:=ajK q h;refine ⟨v,W,by rw[l7];omega,?_,a4⟩
   rw[show j-i=(j-(i+1))+1 by omega,uW]
   exact a3
def aAw {e:Ex} (h:U6 e=I):aIe e=V A:=by cases e<;>first|rfl|cases h
def akH [Mo E] {X:Fx E} {f:Nat} {s:LS} {y:AV} {hY:de} (h1:E.fn.get f=V X.fn) (h2:X.fn.body=V X.code) (h3:NU X.fn.name=U) (hn:D' (O xs) X.fn.ntmps=I) (hp:xQ s.bs=X.NA) (hs:(⟨Hy 0 xs,s.bs⟩:LS)=s) (h:At X [] s y hY):kM X.ro E f s.bs xs y hY:=.mk λ{F g Z c H nx aa} r nr has=>by
 have r0:Rel F g Z c s (setArgs aa 0 .nil).get H:={r with tm:=λt x hx dd=>(by
  rw[<-hs] at hx;let ⟨v,a1,a2,a3,a4⟩:=ajK has hx;exact ⟨v,by rw[akS,ax ⟨a1,a2⟩];exact a3,a4⟩)}
 let ⟨e,w',k1,k2,k3,⟨vs,k4,k5⟩,k6,k7⟩:=h ⟨F,g,Z,c,⟨(setArgs aa 0 .nil).get,H,nx⟩⟩ ⟨r0,nr⟩;obtain ⟨e1,m1,k8,rfl,rfl⟩:=k1;rw[hp];refine ⟨w'.F,w'.g,w'.Z,w'.c,oneOf vs,w'.m.H,w'.m.nx,?_,k2.nx,k7,k2.F,λk hk=>k2.g k ?_,k5,k6,k2.old,λhr=>k2.ro (by show aT (Cz vd vd) X.ro (pnL X.NA vd)=I;rw[show Cz vd vd=I from (f9 _ _).2 rfl];exact hr)⟩
 rotate_left
 .show aT (Cz k vd) X.ro (pnL X.NA k)=I;rw[cx];split
  .rename_i e;rw[(f9 _ _).1 e] at hk;have:oV vd=U/\evK vd=U:=⟨rfl,rfl⟩;unfold pnL at hk;rw[this.1,this.2] at hk;cases hk
  .exact hk
 exact gE.sem (fi:= []) (aa:=aa) (ca:= []) h1 h2 h3 (by rw[jb,rE,has.length];exact (bO _ _).1 hn) (aAw k3) (by rw[jb,rE];exact k8) k4
def iE.cast {f:Nat} {hY:de} {y y':AV} (h:kM ro E f bs xs y hY) (e:y=y'):kM ro E f bs xs y' hY:=e ▸ h
end
def iE.aIi {E:Env} {f:Nat} {hY:de} {xs':bg} {y:AV} (h:kM ro E f bs xs y hY) (e:xs=xs'):kM ro E f bs xs' y hY:=e ▸ h
def atL {E:Env} {ro':Bool} (e:ro=ro') {f:Nat} {hY:de} {y:AV} (h:kM ro E f bs xs y hY):kM ro' E f bs xs y hY:=e ▸ h
variable {E:Env} {X:Fx E} {p p':bQ} {s s':LS} {y:AV} {hY:de} {Y pp R:Type}
def ra (k:At X p' s' y hY) (sc:Sc E) (h:KX (ti X (.at p' s') p s sc)=KY (.at p' s') (ti X (.at p' s') p s sc):=by kernel_rfl):At X p s y hY:=ahz h k
def rr {f:Y->AV} {g:Y->de} {v r:Y} (h:V v=V r) (sc:Sc E) (e:KX (ti X (.ret (f v) (g v)) p s sc)=KY (.ret (f v) (g v)) (ti X (.ret (f v) (g v)) p s sc):=by kernel_rfl):At X p s (f r) (g r):=by
 cases h;exact aoG e
def cD (k:At X p' s' y hY) (a b:Sc E) (h:KX (ti X (.at p' s') p s (a++b))=KY (.at p' s') (ti X (.at p' s') p s (a++b)):=by kernel_rfl):At X p s y hY:=ahz h k
def bt {f:Y->AV} {g:Y->de} {v r:Y} (h:V v=V r) (a b:Sc E) (e:KX (ti X (.ret (f v) (g v)) p s (a++b))=KY (.ret (f v) (g v)) (ti X (.ret (f v) (g v)) p s (a++b)):=by kernel_rfl):At X p s (f r) (g r):=rr h (a++b) e
def be {x:G pp} {f:pp->G Y} {r:Y} (h:x.bind f=V r) (k:∀y,x=V y->f y=V r->pu):pu:=by
 cases x with
 |none=>simp at h
 |some y=>exact k y rfl h
def ie {b:Bool} {x y:G Y} {r:Y} (h:(if b=I then x else y)=V r) (k1:b=I->x=V r->pu) (k2:b=U->y=V r->pu):pu:=by
 cases b with
 |true=>exact k1 rfl (by simpa using h)
 |false=>exact k2 rfl (by simpa using h)
def nz {r:Y} (h:A=V r):pu:=by cases h
def fx (E:Env) (fn:Func) (NA:bQ):Fx E:=⟨fn,fn.body.getD .skip,NA,U⟩
def fxR (E:Env) (fn:Func) (NA:bQ):Fx E:=⟨fn,fn.body.getD .skip,NA,I⟩
def Cx (E:Env) (k:Nat) (f:R->AV) (g:R->de) (s:LS) (r:R):Prop:=iE E k s.bs (s.ts.map (·.2)) (f r) (g r)
def ca [Mo E] {k:Nat} {r:R} {f:R->AV} {g:R->de} (h:At X [] s (f r) (g r)) (h1:E.fn.get k=V X.fn:=by kernel_rfl) (h2:X.fn.body=V X.code:=by kernel_rfl) (h3:NU X.fn.name=U:=by kernel_rfl)
  (h9:D' (O (s.ts.map (·.2))) X.fn.ntmps=I:=by kernel_rfl) (h10:xQ s.bs=X.NA:=by kernel_rfl) (h11:(⟨Hy 0 (s.ts.map (·.2)),s.bs⟩:LS)=s:=by kernel_rfl) (h0:X.ro=U:=by kernel_rfl):Cx E k f g s r:=
 atL h0 (akH h1 h2 h3 h9 h10 h11 h)
def xi (sk:bQ) (bs:de):de:=sk.map λk=>(k,(lk k bs).getD (.map []))
def CxSR (E:Env) (k:Nat) (sk:bQ) (f:R->AV) (g:R->de) (s:LS) (r:R):Prop:=kM I E k s.bs (s.ts.map (·.2)) (f r) (g r++xi sk s.bs)
def caSR [Mo E] {k:Nat} {r:R} {f:R->AV} {g:R->de} (h:At X [] s (f r) (g r++xi sk s.bs)) (h1:E.fn.get k=V X.fn:=by kernel_rfl) (h2:X.fn.body=V X.code:=by kernel_rfl) (h3:NU X.fn.name=U:=by kernel_rfl) (h9:D' (O (s.ts.map (·.2))) X.fn.ntmps=I:=by kernel_rfl) (h10:xQ s.bs=X.NA:=by kernel_rfl) (h11:(⟨Hy 0 (s.ts.map (·.2)),s.bs⟩:LS)=s:=by kernel_rfl) (h0:X.ro=I:=by kernel_rfl):CxSR E k sk f g s r:=
 atL h0 (akH h1 h2 h3 h9 h10 h11 h)
def awL {Y:Type} (s:List Y):G (Y×List Y):=match s with| []=>A|x::l=>V (x,l)
def awK {Y:Type} {s:List Y} {y:Y×List Y} (h:awL s=V y):s=y.1::y.2:=by
 cases s with
 |nil=>cases h
 |cons x l=>cases h;rfl
def aTS (k:Nat):AV:=match k with|0=>.vM|n+1=>.fn (n+1) [] []
def Ax (X:Fx E) (f:R->AV) (g:R->de) (p:bQ) (s:LS) (r:R):Prop:=At X p s (f r) (g r)
class dK (κ:Type) where z:κ
instance {R:Type}:dK (G R):=⟨A⟩
instance {T κ:Type} [dK κ]:dK (T->κ):=⟨λ_=>dK.z⟩
class KC (σ κ R:Type) [dK κ] where
 K:(LS->R->Prop)->σ->κ->Prop
 h:∀{rt s},K rt s dK.z
instance {R:Type}:KC LS (G R) R:=⟨λrt s k=>∀ ⦃r⦄,k=V r->rt s r,λh=>nz h⟩
instance {T σ κ R:Type} [dK κ] [KC σ κ R]:KC (T->σ) (T->κ) R:=⟨λrt s k=>∀ ⦃a⦄,KC.K rt (s a) (k a),KC.h⟩
abbrev KK {σ κ R:Type} [dK κ] [KC σ κ R]:(LS->R->Prop)->σ->κ->Prop:=KC.K
def MM {f:Y->AV} {g:Y->de} {v r:Y} (h:V v=V r) (sc:Sc E) (e:KX (ti X (.ret (f v) (g v++xi sk s.bs)) p s sc)=KY (.ret (f v) (g v++xi sk s.bs)) (ti X (.ret (f v) (g v++xi sk s.bs)) p s sc):=by kernel_rfl):At X p s (f r) (g r++xi sk s.bs):=by
 cases h;exact aoG e
def AxS (X:Fx E) (sk:bQ) (f:R->AV) (g:R->de) (p:bQ) (s:LS) (r:R):Prop:=At X p s (f r) (g r++xi sk s.bs)
def CxS (E:Env) (k:Nat) (sk:bQ) (f:R->AV) (g:R->de) (s:LS) (r:R):Prop:=iE E k s.bs (s.ts.map (·.2)) (f r) (g r++xi sk s.bs)
def caS [Mo E] {k:Nat} {r:R} {f:R->AV} {g:R->de} (h:At X [] s (f r) (g r++xi sk s.bs)) (h1:E.fn.get k=V X.fn:=by kernel_rfl) (h2:X.fn.body=V X.code:=by kernel_rfl) (h3:NU X.fn.name=U:=by kernel_rfl) (h9:D' (O (s.ts.map (·.2))) X.fn.ntmps=I:=by kernel_rfl) (h10:xQ s.bs=X.NA:=by kernel_rfl) (h11:(⟨Hy 0 (s.ts.map (·.2)),s.bs⟩:LS)=s:=by kernel_rfl) (h0:X.ro=U:=by kernel_rfl):CxS E k sk f g s r:=
 atL h0 (akH h1 h2 h3 h9 h10 h11 h)
def Je {g:de} (k:At X p' s' y (g++xi sk s'.bs)) (hs:xi sk s'.bs=xi sk s.bs) (sc:Sc E) (h:KX (ti X (.at p' s') p s sc)=KY (.at p' s') (ti X (.at p' s') p s sc):=by kernel_rfl):At X p s y (g++xi sk s.bs):=ahz h (hs ▸ k)
end
section
def idx {Y:Type} (xs:List Y) (i:Int):G Y:=if 0<=i then xs[i.toNat]? else A
def app {Y:Type} (xs ys:List Y):G (List Y):=if O xs<=1000000/\O ys<=1000000 then V (xs++ys) else A
def BK {Y:Type} (xs:List Y) (n:Nat) (ys:List Y):G (List Y):=if n<=O xs/\n<=1000000/\O ys<=1000000 then V (xs.take n++ys) else A
def cut {Y:Type} (xs:List Y) (lo hi:G Int):G (List Y):=
 if 0<=lo.getD 0/\0<=hi.getD 0/\(lo.getD 0).toNat<=(hi.map Int.toNat).getD (O xs)/\(hi.map Int.toNat).getD (O xs)<=O xs then
  V ((xs.take ((hi.map Int.toNat).getD (O xs))).drop (lo.getD 0).toNat) else A
def cat (a b:xN):G xN:=if a.size+b.size<=1000000 then V (a++b) else A
def H8 (s:xN) (i:Int):G UInt8:=if 0<=i then s.data.toList[i.toNat]? else A
def rem (a b:Int):G Int:=if b=0 then A else V (a.tmod b)
def eT (n:Nat) (i:Int):cC:=if 0<=i/\i.toNat<n then V i.toNat else A
def setAt {Y:Type} (xs:List Y) (i:Nat) (x:Y):G (List Y):=if i<O xs then V (xs.set i x) else A
def rT {Y:Type} (n:Int) (x:Y):G (List Y):=if 0<=n/\n<=1000000 then V (Va n.toNat x) else A
abbrev ba (x:Int):Int:=IntKind.i64.wrap x
structure RowsK {Y:Type} (enc:Y->bg) (rows:List Y->bB):Prop where
 map:∀xs,rows xs=xs.map enc
section
variable {Y:Type} {ka:Y->bg} {ii:List Y->bB} {E:Env}
def RowsK.len (R:RowsK ka ii) (xs:List Y):O (ii xs)=O xs:=by rw[R.map,ku]
def RowsK.get (R:RowsK ka ii) {xs:List Y} {x:Y} (h:xs[j]? =V x):(ii xs)[j]? =V (ka x):=by rw[R.map,my,h];rfl
def RowsK.idx' (R:RowsK ka ii) {xs:List Y} {n:Int} {x:Y} (h:idx xs n=V x):CS (ii xs) n=V (ka x):=by
 unfold Go.bM.idx at h;unfold CS;split at h
 .rename_i h0;rw[ax h0];exact R.get h
 .cases h
def RowsK.idx (R:RowsK ka ii) {xs:List Y} {n:Int} {x:Y} (h:idx xs n=V x):It E:=.op (R.idx' h) (.row (ka x) [])
def RowsK.row (R:RowsK ka ii) {xs:List Y} {j:Nat} {x:Y} (h:xs[j]? =V x):It E:=.op (R.get h) (.row (ka x) [])
def aED {i:Int} {k:Nat} (h:eT n i=V k):i=(k:Int)/\k<n:=by
 unfold eT at h;split at h
 .rename_i h0;cases h;exact ⟨W,h0.2⟩
 .cases h
def du {n:Nat} {i:Int} {k:Nat} (h:eT n i=V k):It E:=.op (aED h) (.nat k)
def DW {xs zs:List Y} {y:Y} (h:setAt xs i y=V zs):zs=xs.set i y/\i<O xs:=by
 unfold setAt at h;split at h
 .cases h;exact ⟨rfl,by assumption⟩
 .cases h
def py {xs zs:List Y} {y:Y} (h:setAt xs i y=V zs):O zs=O xs:=by rw[(DW h).1,iy]
def uR {xs ys zs:List Y} (h:app xs ys=V zs):O xs<=1000000/\O ys<=1000000/\zs=xs++ys:=by
 unfold app at h;split at h
 .rename_i h0;cases h;exact ⟨h0.1,h0.2,rfl⟩
 .cases h
def RowsK.aEH (R:RowsK ka ii) {xs ys zs:List Y} (h:Go.bM.app xs ys=V zs):GG I (ii xs) (O xs) (ii zs) (O zs) (ii ys):=
 ⟨λ_=>(R.len xs).symm,by rw[R.len];exact cM _,(uR h).1,by rw[R.len];exact (uR h).2.1,by rw[<-R.len xs,nj,(uR h).2.2,R.map,R.map,R.map,ky],R.len zs⟩
def RowsK.app (R:RowsK ka ii) {xs ys zs:List Y} (h:Go.bM.app xs ys=V zs):It E:=.op (R.aEH h) (.app I (ii ys) (ii zs) (O zs))
def RowsK.kq (R:RowsK ka ii) {xs ys zs:List Y} (h:Go.bM.app xs ys=V zs):It E:=
 .op (P:=GG I (ii xs) (O xs) (ii zs) (O zs) (ii ys)/\((ii ys).drop 0).take (O ys)=ii ys/\0+O ys<=O (ii ys)) ⟨R.aEH h,by rw[oQ,<-R.len,nj],by rw[R.len];omega⟩ (.app I (ii ys) (ii zs) (O zs))
def RowsK.eD (R:RowsK ka ii) (K:Nat) (xs:List Y):It E:=.gh ⟨R.len xs,.eD K 0 (O xs)⟩
end
abbrev eb {E:Env} {a b:Bool} (h:a=b):It E:=.op (bH AV.bool h) (.eqv (.bool b))
def cb {E:Env} {f:Nat} {hY:de} {a b:Bool} (h:iE E f bs xs (.bool a) hY) (e:a=b):iE E f bs xs (.bool b) hY:=e ▸ h
def LR {a b c:xN} (h:cat a b=V c):a.size+b.size<=1000000/\a++b=c:=by
 unfold cat at h;split at h
 .rename_i h0;cases h;exact ⟨h0,rfl⟩
 .cases h
def ahK {a b c:Int} (h:rem a b=V c):b≠0/\a.tmod b=c:=by
 unfold rem at h;split at h
 .cases h
 .rename_i h0;cases h;exact ⟨h0,rfl⟩
section
variable {E:Env}
def It.nz {y:Int} (h:y≠0):It E:=.op h (.val 0)
def It.cat {x y:xN} (h:x.size+y.size<=1000000):It E:=.op h (.val 0)
def aCY {s:xN} {i:Int} {c:UInt8} (h:H8 s i=V c):(CS s.data.toList i).map UInt8.toNat=V c.toNat:=by
 have h:CS s.data.toList i=V c:=h;rw[h];rfl
def It.chr {s:xN} {i:Int} {c:UInt8} (h:H8 s i=V c):It E:=.op (aCY h) (.val c.toNat)
def It.eqv {x y:AV} (h:x=y):It E:=.op h (.eqv y)
def It.laid {b b':Bx} (h:b=b'):It E:=.op (bH V h) (.laid b')
def It.iS (K K':Nat):It E:=.gh ⟨trivial,.iS K K'⟩
def It.born (ts:bQ) (cs:List (Nat×Nat)) (K:Nat) (z:Bool) (e sz:Nat):It E:=.gh ⟨trivial,.born ts cs K z e sz⟩
def It.seq (t:Nat) {x y:AV} (h:x=y):It E:=.gh ⟨h,.gT t y⟩
def It.beq (K:Nat) {x y:Bx} (h:x=y):It E:=.gh ⟨h,.bis K y⟩
def It.pN (t:Nat) (w:AV):It E:=.gh ⟨trivial,.pN t w⟩
def It.kH (K:Nat) (w:Bx):It E:=.gh ⟨trivial,.kH K w⟩
def int_eq {k:IntKind} {a b:Int} (h:(a==b)=I):AV.int k a=AV.int k b:=by rw[eq_of_beq h]
def en {k:IntKind} {a b:Int} (h:(a==b)=I):It E:=It.eqv (int_eq (k:=k) h)
end
end
section
def nilAt {Y:Type} (xs:List (List Y)) (j:Nat):G Unit:=match xs[j]? with|some []=>V ()|_=>A
def nG (a b:Nat):G Unit:=if a=b then V () else A
def Bj {a b:Nat} {u:Unit} (h:nG a b=V u):a=b:=by
 unfold nG at h;split at h
 .assumption
 .cases h
def ou (n:Nat) (hi:Int):cC:=if 0<=hi/\hi.toNat<=n then V hi.toNat else A
def yH (n:Nat) (lo:Int):cC:=if 0<=lo/\lo.toNat<=n then V lo.toNat else A
def uq (h:ou n hi=V u):hi=(u:Int)/\u<=n:=by
 unfold ou at h;split at h
 .rename_i h0;cases h;exact ⟨W,h0.2⟩
 .cases h
def aiw (h:yH n lo=V u):lo=(u:Int)/\u<=n:=by
 unfold yH at h;split at h
 .rename_i h0;cases h;exact ⟨W,h0.2⟩
 .cases h
def apP {m:Nat} (h:yH n lo=V u) (le:n<=m):0+u+(n-u)<=m:=by
 have:=(aiw h).2;omega
def Co {Y:Type} {xs:List Y} (h:u<=O xs):O (xs.take u)=u:=by rw[dv];omega
def aEu {Y:Type} {xs zs:List Y} {lo hi:G Int} (h:cut xs lo hi=V zs):∃l u:Nat,Vu (lo.getD 0) (hi.getD (O xs:Nat)) (O xs) l u/\zs=(xs.drop l).take (u-l):=by
 unfold cut at h;split at h
 .rename_i h0;cases h;let ⟨a,b,c,d⟩:=h0;refine ⟨(lo.getD 0).toNat,(hi.map Int.toNat).getD (O xs),⟨W,?_,c,d⟩,by rw[wX]⟩
  cases hi with
  |none=>rfl
  |some v=>have:0<=v:=b;show v=((v.toNat:Nat):Int);omega
 .cases h
def Hz {Y:Type} {xs ys zs:List Y} (h:BK xs n ys=V zs):n<=O xs/\n<=1000000/\O ys<=1000000/\zs=xs.take n++ys:=by
 unfold BK at h;split at h
 .rename_i h0;cases h;exact ⟨h0.1,h0.2.1,h0.2.2,rfl⟩
 .cases h
def wm {Y:Type} {n:Int} {x:Y} {zs:List Y} (h:rT n x=V zs):n=(n.toNat:Int)/\n.toNat<=1000000/\zs=Va n.toNat x:=by
 unfold rT at h;split at h
 .rename_i h0;cases h;exact ⟨W,W,rfl⟩
 .cases h
def K0 {Y:Type} {n:Int} {x:Y} {zs:List Y} (h:rT n x=V zs):n.toNat=O zs:=by rw[(wm h).2.2,vz]
section
variable {Y:Type} {ka:Y->bg} {ii:List Y->bB} {E:Env}
def RowsK.take (R:RowsK ka ii) (xs:List Y) (u:Nat):(ii xs).take u=ii (xs.take u):=by rw[R.map,R.map,uY]
def E2 {f:Nat} (h:j<O Q):HV (Q.set j r) j f xs=V (Q.set j (iL r f xs)):=by
 unfold HV;rw[lR h];show V _=_;rw[vy]
def RowsK.aCc (R:RowsK ka ii) {xs:List Y} {x:Y} {f:Nat} (h:xs[j]? =V x):HV (ii xs) j f vs=V ((ii xs).set j (iL (ka x) f vs)):=by unfold HV;rw[R.get h];rfl
def RowsK.aCj (R:RowsK ka ii) {xs zs:List Y} {y:Y} (h:setAt xs j y=V zs) (he:r=ka y):(ii xs).set j r=ii zs:=by rw[(DW h).1,he,R.map,R.map,ET]
def RowsK.lt (R:RowsK ka ii) {xs:List Y} {x:Y} (h:xs[j]? =V x):j<O (ii xs):=by rw[R.len];exact (bk.1 h).1
def RowsK.ltS (R:RowsK ka ii) {xs zs:List Y} {y:Y} (h:setAt xs j y=V zs):j<O (ii xs):=by rw[R.len];exact (DW h).2
def SK {Q Q':bB} {j f:Nat} {vs:bg} (h:HV Q j f vs=V Q'):It E:=.op h (.uj Q')
def RowsK.uj (R:RowsK ka ii) {xs zs:List Y} {j:Nat} {x y:Y} (f:Nat) (vs:bg) (h0:xs[j]? =V x) (h1:setAt xs j y=V zs) (he:iL (ka x) f vs=ka y:=by kernel_rfl):It E:=SK (Q:=ii xs) (Q':=ii zs) (j:=j) (f:=f) (vs:=vs) (by rw[R.aCc h0,R.aCj h1 he])
def RowsK.Jr (R:RowsK ka ii) {xs:List Y} {j:Nat} {x:Y} (f:Nat) (h0:xs[j]? =V x):It E:=SK (R.aCc (f:=f) (vs:= [.undef]) h0)
def RowsK.holF (R:RowsK ka ii) {xs:List Y} {j:Nat} {x:Y} (f:Nat) (r':bg) (h:xs[j]? =V x) (hr:iL (ka x) f [.undef]=r':=by kernel_rfl):It E:=SK (Q:=ii xs) (Q':=(ii xs).set j r') (j:=j) (f:=f) (vs:= [.undef]) (by rw[R.aCc h,hr])
def RowsK.zZ (R:RowsK ka ii) {xs:List Y} {j:Nat} {x:Y} (f:Nat) (r r':bg) (h:xs[j]? =V x) (hr:iL r f [.undef]=r':=by kernel_rfl):It E:=SK (Q:=(ii xs).set j r) (Q':=(ii xs).set j r') (j:=j) (f:=f) (vs:= [.undef]) (by rw[E2 (R.lt h),hr])
def RowsK.hrwS (R:RowsK ka ii) {xs:List Y} {j:Nat} {x:Y} (r r':bg) (h:xs[j]? =V x) (hr:iL r 0 r'=r':=by kernel_rfl):It E:=SK (Q:=(ii xs).set j r) (Q':=(ii xs).set j r') (j:=j) (f:=0) (vs:=r') (by rw[E2 (R.lt h),hr])
def RowsK.atS (R:RowsK ka ii) {xs:List Y} {x:Y} (h:xs[j]? =V x):((ii xs).set j r)[j]? =V r:=lR (R.lt h)
def RowsK.rowS (R:RowsK ka ii) {xs:List Y} {j:Nat} {x:Y} (r:bg) (h:xs[j]? =V x):It E:=.op (R.atS (r:=r) h) (.row r [])
def RowsK.Dd (R:RowsK ka ii) {xs:List Y} {j:Nat} {x:Y} (fs:bQ) (r:bg) (h:xs[j]? =V x):It E:=.op (R.atS (r:=r) h) (.row r fs)
def RowsK.cut (R:RowsK ka ii) {xs zs:List Y} {lo hi:G Int} (h:Go.bM.cut xs lo hi=V zs):It E:=.op (P:=CutR (ii xs) (lo.getD 0) (hi.getD (O xs:Nat)) (ii zs) (O zs)) (by
 obtain ⟨l,u,h1,rfl⟩:=aEu h;exact ⟨l,u,by rw[R.len];exact h1,by rw[R.map,R.map,uY,zp],R.len _⟩) (.cut 0 0 (ii zs) (O zs))
def RowsK.ou (R:RowsK ka ii) {xs:List Y} {n u:Nat} {hi:Int} (h:Go.bM.ou n hi=V u) (le:n<=O xs):It E:=.op (P:=Vu 0 hi n 0 u/\0+n<=O (ii xs)) ⟨⟨rfl,(uq h).1,rY _,(uq h).2⟩,by rw[R.len];omega⟩ (.cut 0 u [] 0)
def RowsK.yH (R:RowsK ka ii) {xs:List Y} {n u:Nat} {lo:Int} (h:Go.bM.yH n lo=V u) (le:n<=O xs):It E:=.op (P:=Vu lo (n:Int) n u n/\0+n<=O (ii xs)) ⟨⟨(aiw h).1,rfl,(aiw h).2,cM _⟩,by rw[R.len];omega⟩ (.cut u n [] 0)
def RowsK.appQ (R:RowsK ka ii) {xs ys zs:List Y} (h:Go.bM.BK xs n ys=V zs):GG U (ii xs) n (ii zs) (O zs) (ii ys):=
 ⟨λh=>(by cases h),by rw[R.len];exact (Hz h).1,(Hz h).2.1,by rw[R.len];exact (Hz h).2.2.1,by rw[(Hz h).2.2.2,R.map,R.map,R.map,ky,uY],R.len zs⟩
def Ij {Y:Type} (xs:List Y) (hi mx:Int):G (List Y):=if hi=mx/\0<=hi/\hi.toNat<=O xs then V (xs.take hi.toNat) else A
def RowsK.Ij (R:RowsK ka ii) {xs zs:List Y} {hi mx:Int} (h:Go.bM.Ij xs hi mx=V zs):It E:=.op (P:=CutF (ii xs) hi mx (ii zs) (O zs)) (by
 unfold Go.bM.Ij at h;split at h
 .rename_i h0;cases h;exact ⟨hi.toNat,W,W,by rw[R.len];exact h0.2.2,by rw[R.take],R.len _⟩
 .cases h) (.aEt (ii zs) (O zs))
def RowsK.aIH (R:RowsK ka ii) {xs ys zs:List Y} (h:Go.bM.app xs ys=V zs) (dd:ys≠ []):GG U (ii xs) (O xs) (ii zs) (O zs) (ii ys)/\ii ys≠ []:=
 ⟨⟨λh=>(by cases h),by rw[R.len];exact cM _,(uR h).1,by rw[R.len];exact (uR h).2.1,by rw[(uR h).2.2,R.map,R.map,R.map,ky,jc (by rw[ku];exact cM _)],R.len zs⟩,by rw[R.map];intro h;exact dd (List.map_eq_nil_iff.1 h)⟩
def RowsK.appF (R:RowsK ka ii) {xs ys zs:List Y} (h:Go.bM.app xs ys=V zs) (dd:ys≠ []):It E:=.op (R.aIH h dd) (.YA (ii ys) (ii zs) (O zs))
def RowsK.aXi (R:RowsK ka ii) {xs ys zs:List Y} (h:Go.bM.app xs ys=V zs) (dd:ys≠ []):It E:=
 .op (P:=(GG U (ii xs) (O xs) (ii zs) (O zs) (ii ys)/\ii ys≠ [])/\((ii ys).drop 0).take (O ys)=ii ys/\0+O ys<=O (ii ys)) ⟨R.aIH h dd,by rw[oQ,jc (by rw[R.len];exact cM _)],by rw[R.len];omega⟩ (.YA (ii ys) (ii zs) (O zs))
def RowsK.aXj (R:RowsK ka ii) {ys:List Y} (h:ys= []):It E:=.op (P:=ii ys= []) (by rw[h,R.map];rfl) (.auh (ii ys))
def Hm {Y:Type} (xs ys:List Y):G (List Y):=if xs= [] then A else V (ys.take (min (O ys) (O xs))++xs.drop (min (O ys) (O xs)))
def F3 {xs ys zs:List Y} (h:Go.bM.Hm xs ys=V zs):xs≠ []/\zs=ys.take (min (O ys) (O xs))++xs.drop (min (O ys) (O xs)):=by
 unfold Go.bM.Hm at h;split at h
 .cases h
 .rename_i h0;cases h;exact ⟨h0,rfl⟩
def RowsK.Hm (R:RowsK ka ii) {xs ys zs:List Y} (h:Go.bM.Hm xs ys=V zs):It E:=.op (P:=aFj (ii xs) (ii zs) 0 (O xs) (min (O ys) (O xs)) (ii ys))
 ⟨by rw[R.len];omega,by have:=IS.2 (F3 h).1;omega,by rw[R.len],by rw[(F3 h).2,R.map,R.map,R.map,ky,uY,zp,zn,jb,cN]⟩ (.Hm (ii ys) (ii zs) (min (O ys) (O xs)))
def RowsK.cpyW (R:RowsK ka ii) {xs ys zs:List Y} (h:Go.bM.Hm xs ys=V zs):It E:=.op (P:=aFj (ii xs) (ii zs) 0 (O xs) (min (O ys) (O xs)) (ii ys)/\((ii ys).drop 0).take (O ys)=ii ys/\0+O ys<=O (ii ys))
 ⟨⟨by rw[R.len];omega,by have:=IS.2 (F3 h).1;omega,by rw[R.len],by rw[(F3 h).2,R.map,R.map,R.map,ky,uY,zp,zn,jb,cN]⟩,by rw[oQ,<-R.len,nj],by rw[R.len];omega⟩ (.Hm (ii ys) (ii zs) (min (O ys) (O xs)))
def aKG {xs ys zs:List Y} (h:Go.bM.Hm xs ys=V zs):O zs=O xs:=by
 rw[(F3 h).2,gS,dv,iz];omega
def RowsK.aXh (R:RowsK ka ii) {xs ys zs:List Y} {n:Nat} (h:Go.bM.BK xs n ys=V zs):It E:=
 .op (P:=GG U (ii xs) n (ii zs) (O zs) (ii ys)/\((ii ys).drop 0).take (O ys)=ii ys/\0+O ys<=O (ii ys)) ⟨R.appQ h,by rw[oQ,<-R.len,nj],by rw[R.len];omega⟩ (.app U (ii ys) (ii zs) (O zs))
def RowsK.appS (R:RowsK ka ii) {xs ys zs:List Y} {lo m:Nat} (h:Go.bM.app xs ((ys.drop lo).take m)=V zs) (hm:lo+m<=O ys):It E:=
 .op (P:=GG I (ii xs) (O xs) (ii zs) (O zs) (ii ((ys.drop lo).take m))/\((ii ys).drop lo).take m=ii ((ys.drop lo).take m)/\lo+m<=O (ii ys)) ⟨R.aEH h,by rw[R.map,R.map,uY,zp],by rw[R.len];exact hm⟩ (.app I (ii ((ys.drop lo).take m)) (ii zs) (O zs))
def RowsK.appB (R:RowsK ka ii) {xs ys zs:List Y} {lo m n:Nat} (h:Go.bM.BK xs n ((ys.drop lo).take m)=V zs) (hm:lo+m<=O ys):It E:=
 .op (P:=GG U (ii xs) n (ii zs) (O zs) (ii ((ys.drop lo).take m))/\((ii ys).drop lo).take m=ii ((ys.drop lo).take m)/\lo+m<=O (ii ys)) ⟨R.appQ h,by rw[R.map,R.map,uY,zp],by rw[R.len];exact hm⟩ (.app U (ii ((ys.drop lo).take m)) (ii zs) (O zs))
def RowsK.made (R:RowsK ka ii) {n:Int} {x:Y} {zs:List Y} (h:rT n x=V zs) (sh:eG:= []):It E:=
 .op (P:=MkP n n (ka x) (ii zs) n.toNat) ⟨n.toNat,(wm h).1,(wm h).1,cM _,(wm h).2.1,by rw[(wm h).2.2,R.map,List.map_replicate]⟩ (.mk (ka x) (ii zs) n.toNat sh)
def RowsK.aSr (R:RowsK ka ii) {n:Int} {x:Y} {zs:List Y} (h:rT n x=V zs) (sh:eG:= []):It E:=
 .op (P:=MkP 0 n (ka x) (ii []) 0) ⟨n.toNat,rfl,(wm h).1,rY _,(wm h).2.1,by rw[R.map];rfl⟩ (.mk (ka x) (ii []) 0 sh)
def It.shr (K:Nat) {Q P:bB} {u:Nat} (h:Q.take u=P):It E:=.gh ⟨h,.shr K u P⟩
def RowsK.Nn (R:RowsK ka ii) {xs ys zs:List Y} (h:Go.bM.app xs ys=V zs):It E:=.op (P:=TapP (ii xs) (O xs)) ⟨(R.len xs).symm,(uR h).1⟩ .Nn
def RowsK.apS (R:RowsK ka ii) {xs zs:List Y} {y:Y} (h:Go.bM.app xs [y]=V zs):ii xs++ [r]=(ii zs).set (O xs) r:=by
 rw[(uR h).2.2,R.map,R.map,ky,A4 _ _ (by rw[ku];exact cM _),ku,qT]
 rfl
def RowsK.apL (R:RowsK ka ii) {xs zs:List Y} {y:Y} (h:Go.bM.app xs [y]=V zs):O xs+1=O zs:=by
 rw[(uR h).2.2,gS];rfl
def RowsK.tfr (R:RowsK ka ii) (b:Bool) (K:Nat) (xs:List Y):It E:=.gh ⟨R.len xs,.eD K (aT b 2 0) (O xs)⟩
def RowsK.frzN (R:RowsK ka ii) {n:Nat} (b:Bool) (K:Nat) (xs:List Y) (h:n=O xs):It E:=.gh ⟨(R.len xs).trans h.symm,.eD K (aT b 2 0) n⟩
def RowsK.noDR (R:RowsK ka ii) (h:∀x,wx (ka x)=I) (xs:List Y):aET (ii xs):=λr hr=>by
 rw[R.map] at hr;obtain ⟨x,_,rfl⟩:=dL.1 hr;exact h x
def It.gi (x:It E):GI:=match x with| .gh g=>g|_=>⟨trivial,.iS 0 0⟩
def It.thw {E:Env} (K:Nat):It E:=.gh ⟨trivial,.thw K⟩
def It.bsF (d s n:Nat) (fz:List (It E)):It E:=.opF (P:=AV.ms d s 0 n= .ms d s 0 n) rfl (.eqv (.ms d s 0 n)) (fz.map It.gi)
def It.Aj {f:Nat} {bs hY:de} {ys:bg} {y:AV} {P:Prop} (h:iE E f bs ys y hY) (gs:List (It E)) (hd:P) (ps rs:ja) (fz:List (It E):= []):It E:=.aIj h (gs.map It.gi) hd ps rs (fz.map It.gi)
def Ye (K K2:Nat) {j f e2 s2 n:Nat} {x:Bool} {Q Q2 Q':bB} (h:aES Q j f x e2 s2 n Q2 Q'):It E:=.gh ⟨h,.opn K K2 j f e2 s2 n Q2 Q'⟩
def clsO (K K2:Nat) {j f n:Nat} {y:AV} {Q Q2 Q':bB} (h:O Q2=n/\RZ Q j f y Q'):It E:=.gh ⟨h,.cls K K2 j f n Q'⟩
def cldO (K:Nat) {j f:Nat} (y:AV) {Q Q':bB} (h:RZ Q j f y Q'):It E:=.gh ⟨h,.cld K j f y Q'⟩
variable {pp:Type} {od:List pp->bB} {S4:pp->bg}
def RowsK.pc (R:RowsK ka ii) (N:RowsK S4 od) {xs:List Y} {j:Nat} {x:Y} (K K2 f:Nat) (b:Bool) (e' s:Nat) (y:List pp) (h:xs[j]? =V x) (r':bg) (hx:(ka x)[f]? =V (zw b e' s (O y) (od y)):=by kernel_rfl) (hr:iL (ka x) f [.undef]=r':=by kernel_rfl):It E:=
 Ye (Q:=ii xs) (Q2:=od y) (Q':=(ii xs).set j r') K K2 ⟨ka x,R.get h,hx,by rw[hr]⟩
def RowsK.ye (R:RowsK ka ii) (N:RowsK S4 od) {xs:List Y} {j:Nat} {x:Y} {r:bg} (K K2 f:Nat) (b:Bool) (e' s:Nat) (y:List pp) (h:xs[j]? =V x) (r':bg) (hx:r[f]? =V (zw b e' s (O y) (od y)):=by kernel_rfl) (hr:iL r f [.undef]=r':=by kernel_rfl):It E:=
 Ye (Q:=(ii xs).set j r) (Q2:=od y) (Q':=(ii xs).set j r') K K2 ⟨r,R.atS h,hx,by rw[hr,vy]⟩
def RowsK.kQ (R:RowsK ka ii) (N:RowsK S4 od) {xs zs:List Y} {j:Nat} {z:Y} {r:bg} (K K2 f:Nat) (b:Bool) (e' s:Nat) (y:List pp) (h:setAt xs j z=V zs) (r':bg) (hr:iL r f [zw b e' s (O y) (od y)]=r':=by kernel_rfl):It E:=
 clsO (Q:=(ii xs).set j r) (Q2:=od y) (Q':=(ii xs).set j r') (y:=zw b e' s (O y) (od y)) K K2 ⟨N.len y,by show HV _ _ _ _=_;rw[E2 (R.ltS h),hr]⟩
def RowsK.jf (R:RowsK ka ii) (N:RowsK S4 od) {xs zs:List Y} {j:Nat} {z:Y} {r:bg} (K K2 f:Nat) (b:Bool) (e' s:Nat) (y:List pp) (h:setAt xs j z=V zs) (hr:iL r f [zw b e' s (O y) (od y)]=ka z:=by kernel_rfl):It E:=
 clsO (Q:=(ii xs).set j r) (Q2:=od y) (Q':=ii zs) (y:=zw b e' s (O y) (od y)) K K2 ⟨N.len y,by show HV _ _ _ _=_;rw[E2 (R.ltS h),R.aCj h hr]⟩
def RowsK.clo (R:RowsK ka ii) {xs zs:List Y} {j:Nat} {x y:Y} (K:Nat) (f:Nat) (q:AV) (u:AV) (h0:xs[j]? =V x) (h1:setAt xs j y=V zs) (he:iL (iL (ka x) f [u]) f [q]=ka y:=by kernel_rfl):It E:=
 cldO (Q:=(ii xs).set j (iL (ka x) f [u])) (Q':=ii zs) K q (by show HV _ _ _ _=_;rw[E2 (R.lt h0),R.aCj h1 he])
end
def gone (l:eG) (g:Nat) (Q:bB):bB:=(Q.take g).map (KW l)++Q.drop g
def aMM:Q=gone l 0 Q:=rfl
def ajd {g:Nat} (h:Q[g]? =V r):(gone l g Q)[g]? =V r:=by
 have cT:=(bk.1 h).1;unfold gone;rw[nW (by rw[ku,dv];omega),ku,dv,fF,fG W,qT,po]
 exact h
def aDI {g:Nat} (h:Q[g]? =V r):(gone l g Q).set g (KW l r)=gone l (g+1) Q:=by
 have cT:=(bk.1 h).1;have hr:Q[g]=r:=(bk.1 h).2;have hl:O ((Q.take g).map (KW l))=g:=by rw[ku,dv];omega
 unfold gone;rw[A4 _ _ W,hl,qT,tE cT,qO,bJ cT,hr]
 simp
section
variable {Y pp:Type} {ka:Y->bg} {ii:List Y->bB} {od:List pp->bB} {S4:pp->bg} {E:Env}
def aje {g:Nat} {r0:bg} {u:Unit} (hg:nG j g=V u) (h:Q[j]? =V r0):((gone l g Q).set j r)[j]? =V r:=by
 have:=Bj hg;subst this;exact lR (bk.1 (ajd h)).1
def RowsK.aLD (R:RowsK ka ii) (N:RowsK S4 od) {xs:List Y} {j g:Nat} {x:Y} {u:Unit} (l:eG) (hg:nG j g=V u) (K K2 f:Nat) (b:Bool) (e' s:Nat) (y:List pp) (h:xs[j]? =V x) (r':bg) (hx:(ka x)[f]? =V (zw b e' s (O y) (od y)):=by kernel_rfl) (hr:iL (ka x) f [.undef]=r':=by kernel_rfl):It E:=
 Ye (Q:=gone l g (ii xs)) (Q2:=od y) (Q':=(gone l g (ii xs)).set j r') K K2 ⟨ka x,by have:=Bj hg;subst this;exact ajd (R.get h),hx,by rw[hr]⟩
def RowsK.awN (R:RowsK ka ii) (N:RowsK S4 od) {xs:List Y} {j g:Nat} {x:Y} {u:Unit} (l:eG) (hg:nG j g=V u) (r:bg) (K K2 f:Nat) (b:Bool) (e' s:Nat) (y:List pp) (h:xs[j]? =V x) (r':bg) (hx:r[f]? =V (zw b e' s (O y) (od y)):=by kernel_rfl) (hr:iL r f [.undef]=r':=by kernel_rfl):It E:=
 Ye (Q:=(gone l g (ii xs)).set j r) (Q2:=od y) (Q':=(gone l g (ii xs)).set j r') K K2 ⟨r,aje hg (R.get h),hx,by rw[hr,vy]⟩
def RowsK.aRX (R:RowsK ka ii) {xs:List Y} {j g:Nat} {x:Y} {u:Unit} (l:eG) (hg:nG j g=V u) (fs:bQ) (r:bg) (h:xs[j]? =V x):It E:=.op (aje (l:=l) (r:=r) hg (R.get h)) (.row r fs)
def RowsK.asW (R:RowsK ka ii) {xs zs:List Y} {g:Nat} {z:Y} {u:Unit} (hg:nG j g=V u) (h:setAt xs j z=V zs) (hr:KW l (ka z)=r:=by kernel_rfl):(gone l g (ii xs)).set j r=gone l (g+1) (ii zs):=by
 have:=Bj hg;subst this;let ⟨e,cT⟩:=DW h;have hz:zs[j]? =V z:=by rw[e,lR cT]
 rw[<-aDI (R.get hz),hr];have e2:gone l j (ii zs)=(gone l j (ii xs)).set j (ka z):=by
  have hl:O (ii xs)=O xs:=R.len xs;unfold gone;rw[e,R.map,ET,<-R.map,List.take_set_of_le (cM _)];rw[A4 _ _ (by rw[ku,dv];omega),ku,dv,fG W,qT]
  rw[List.drop_set,au W,qT]
 rw[e2,vy]
end
class xF (κ:Type) [DecidableEq κ] where
 kf:κ->AV
 eq:∀a b,U5 (kf a) (kf b)=V (A' (a=b))
instance:xF xN:=⟨.str,λ_ _=>rfl⟩
instance:xF Int:=⟨.int .i64,λ_ _=>rfl⟩
section
variable {κ pp:Type} [DecidableEq κ] [xF κ] {f:pp->AV} {k:κ} {d v:pp}
def gB (m:List (κ×pp)) (k:κ) (d:pp):pp:=match m with| []=>d|p::m=>if k=p.1 then p.2 else gB m k d
def jx (m:List (κ×pp)) (k:κ) (v:pp):List (κ×pp):=match m with| []=> [(k,v)]|p::m=>if k=p.1 then (k,v)::m else p::jx m k v
def gO (f:pp->AV) (m:List (κ×pp)):List (AV×AV):=m.map λp=>(xF.kf p.1,f p.2)
def aaA (p:κ×pp) (m:List (κ×pp)):uN (xF.kf k) (gO f (p::m))=(match V (A' (k=p.1)) with
   |some I=>V (V (0,f p.2))
   |some U=>(match uN (xF.kf k) (gO f m) with|some (V q)=>V (V (q.1+1,q.2))|r=>r)
   |none=>A):=by
 show (match U5 (xF.kf k) (xF.kf p.1) with
  |some I=>V (V (0,f p.2))
  |some U=>(match uN (xF.kf k) (gO f m) with|some (V q)=>V (V (q.1+1,q.2))|r=>r)
  |none=>A)=_
 rw[xF.eq]<;>rfl
def aiV:∀m:List (κ×pp),∃r,uN (xF.kf k) (gO f m)=V r/\Vf U (V (f d)) r=V (f (gB m k d))
 | []=>⟨A,rfl,rfl⟩
 |p::m=>by
  let ⟨r,h1,h2⟩:=aiV m;have step:=aaA (f:=f) (k:=k) p m;by_cases hk:k=p.1
  .refine ⟨V (0,f p.2),by rw[step];simp[hk],?_⟩
   show V (f p.2)=V (f (gB (p::m) k d));unfold gB;rw[ax hk]
  .have hg:gB (p::m) k d=gB m k d:=by rw[gB,au hk]
   rw[hg];cases r with
   |none=>exact ⟨A,by rw[step];simp[hk,h1],h2⟩
   |some q=>exact ⟨V (q.1+1,q.2),by rw[step];simp[hk,h1],h2⟩
def CU:∀m:List (κ×pp),∃r,uN (xF.kf k) (gO f m)=V r/\Sd (gO f m) (xF.kf k) (f v) r=gO f (jx m k v)
 | []=>⟨A,rfl,rfl⟩
 |p::m=>by
  let ⟨r,h1,h2⟩:=CU m;have step:=aaA (f:=f) (k:=k) p m;by_cases hk:k=p.1
  .refine ⟨V (0,f p.2),by rw[step];simp[hk],?_⟩
   unfold jx;rw[ax hk];rfl
  .have hg:jx (p::m) k v=p::jx m k v:=by rw[jx,au hk]
   rw[hg];have hc:gO f (p::jx m k v)=(xF.kf p.1,f p.2)::gO f (jx m k v):=rfl;have CQ:gO f (p::m)=(xF.kf p.1,f p.2)::gO f m:=rfl;cases r with
   |none=>exact ⟨A,by rw[step];simp[hk,h1],by rw[hc,<-h2,CQ];rfl⟩
   |some q=>exact ⟨V (q.1+1,q.2),by rw[step];simp[hk,h1],by rw[hc,<-h2,CQ];rfl⟩
def D8 {d b:Bool} {m:List (κ×Bool)} (h:gB m k d=b):∃r,uN (xF.kf k) (gO AV.bool m)=V r/\Vf U (V (.bool d)) r=V (.bool b):=h ▸ aiV m
end
def It.lkp {E:Env} {es:List (AV×AV)} {k x z:AV} (ok:Bool) (h:∃f,uN k es=V f/\Vf ok (V z) f=V x):It E:=.op h (.lkp x [])
def It.j4 {E:Env} {es MW:List (AV×AV)} {k x:AV} (h:∃f,uN k es=V f/\Sd es k x f=MW):It E:=.op h (.lkp .undef MW)
def It.nxt {E:Env} {b:xN} {pos:Nat} (h:pos<b.size):It E:=.op h (.val 1)
def It.fin {E:Env} {b:xN} {pos:Nat} (h:¬pos<b.size):It E:=.op h (.val 0)
def It.eD {E:Env} {Q:bB} {n:Nat} (K:Nat) (h:O Q=n):It E:=.gh ⟨h,.eD K 0 n⟩
def cd {E:Env} {f:Nat} {hY:de} (h:iE E f bs xs (.ms K sz 0 n) hY) (hq:O Q=n) (hl:lk K hY=V (.rows z e sz Q):=by kernel_rfl) (hb:UA K sz hY= []:=by kernel_rfl):
  iE E f bs xs (Dq 0 n (.rows z e sz Q) sz 0) (LS.NJ ⟨[],hY⟩ K 0 n (.rows z e sz Q)).bs:=.mk λr nr has=>by
 let ⟨F',g',φ',c',v,H',nZ,h1,h2,h3,h4,h5,h6,h7,h8,_⟩:=h.go r nr has;have r0:=h7.put (V 0) λ_=>h6
 have kk:Cz K K=I:=(f9 _ _).2 rfl;have ss:Cz sz sz=I:=(f9 _ _).2 rfl;have ho:jF (NK ((⟨[],hY⟩:LS).put (V 0) (.ms K sz 0 n)) K n (.rows z e sz Q) λP=>⟨P,True,trivial⟩):=by
  refine ⟨hq,?_⟩;show jF ((((aT (Cz K K&&(Cz sz sz&&Cz 0 0)) [n] [])++ [])++UA K sz hY).map _);rw[hb,kk,ss];exact ⟨hq,trivial⟩
 let ⟨F2,c2,a1,_,r2⟩:=r0.eD (m:=0) (λ_=>rfl) hl ho
 have e0:Ie K (Dq 0 n (.rows z e sz Q)) (Lw (.rows z e sz Q)) (.ms K sz 0 n)=Dq 0 n (.rows z e sz Q) sz 0:=by
  show aT (Cz K K) _ _=_;rw[kk]
 have dd:Dq 0 n (.rows z e sz Q) sz 0≠ .undef:=by
  show aT (Cz sz sz&&Cz 0 0) _ _≠_;rw[ss];exact λh=>by cases h
 let ⟨v',v1,v2⟩:=r2.tm 0 (Ie K (Dq 0 n (.rows z e sz Q)) (Lw (.rows z e sz Q)) (.ms K sz 0 n)) (show lk 0 [((0:Nat),_)]=V _ from by rw[dH,ax rfl]) (by rw[e0];exact dd)
 obtain rfl:v=v':=by simpa[eE] using v1
 rw[e0] at v2;exact ⟨F2,g',φ',c2,v,H',nZ,h1,h2,h3,h4.trans a1,h5,v2,{r2 with tm:=λt x hx=>(by cases hx)},h8,λh=>by cases h⟩
def iE.res {E:Env} {f:Nat} {hY:de} {y:AV} (w:AV) (h:kM ro E f bs xs y hY):kM ro E f bs xs (cv w y) hY:=.mk λr nr has=>by
 let ⟨F',g',φ',c',v,H',nZ,h1,h2,h3,h4,h5,h6,h7,h8⟩:=h.go r nr has;exact ⟨F',g',φ',c',v,H',nZ,h1,h2,h3,h4,h5,Ec h6,h7,h8⟩
end
section
variable {F F':Hf} {g g':Gb} {Z:Nat->Ow} {c:Nat->cC} {s s':LS} {T:Tf} {H:Hf} {E:Env}
def Bs {k c nx:Nat} (hP:L4 E k c) {v:SV} (ho:xh E c H nx aa=V (v,ups)):p8 E U (.fn (.func k) [] []) aa H nx v (iH H ups) (nx+1):=λm g w u us hE hr oH hu mK=>by
 cases hu with
 | @fn _ first kL _ _ FC Jp=>
 have B7:ow g (first.toList++us++kL.toList) ([]++aa++ []):=(FC.append mK).append Jp
 rw[jb,rE] at B7;have yE:first++us.toArray++kL=(first.toList++us++kL.toList).toArray:=by apply Cg;simp
 let ⟨FI,asT⟩:=ayh hE hP hr (oH nx (cM _)) B7 ho m;refine ⟨{target:=.fn (.func k) kL,args:=first++us.toArray},rfl,.inl ⟨k,first++us.toArray++kL,aDJ FI _ w,?_⟩⟩
 rw[yE];refine CallsIn.mono asT ?_;rintro e w' ⟨r,g',rfl,hp⟩;exact ⟨r,rfl,g',hp.val,hp.hr,hp.fr,λx hx=>hp.ro x W,λx hx=>by rw[hp.ro x W];exact oH x W⟩
def Lb {v:SV} {s:Nat} (h:VA F g v (.ms K s 0 n)) (hn:0<n):(g K).b=I/\v= .sl (g K).n 0 n (g K).c:=by
 cases h with
 |sw _ hb=>omega
 |ms _ _ _ hb=>exact ⟨hb,by rw[nX];cases (g K).c<;>rfl⟩
 |zQ _ _ hl=>omega
def Qc {s:Nat} (hb:(g K).b=I):VA F g (.sl (g K).n 0 n (g K).c) (.ms K s 0 n):=by
 have:=VA.ms (F:=F) (g:=g) (K:=K) s 0 n hb;rw[nX,show A6 (g K).c 0=(g K).c from by cases (g K).c<;>rfl] at this
 exact this
def qv {a b:Nat} (h:a<=b):D' a b=I:=(bO _ _).2 h
def aKE {id:Nat} {cp:Cp} (hf:H id=V (SO.cells e svs)) (hi:i<j) (hj:j<=n) (hl:n*sz<=O svs):
  YM sz H [.sl id 0 n cp,.int .i64 (.lit (i:Int)),.int .i64 (.lit (j:Int))]=V (.sl id 0 (n-(j-i)) cp,[(id,V (SO.cells e (Dr (i*sz) (j*sz) (n*sz) svs)))]):=by
 show uQ (V i) (V j) (ny (H id)) (λi j p=>aT (D' (S6 i) j&&(D' j n&&D' (E' 0 (N' n sz)) (O p.2))) (V (SV.sl id 0 (Nat.sub n (Nat.sub j i)) cp,[(id,V (SO.cells p.1 (Dr (E' 0 (N' i sz)) (E' 0 (N' j sz)) (E' 0 (N' n sz)) p.2)))])) A)=_
 rw[hf];show aT (D' (S6 i) j&&(D' j n&&D' (E' 0 (n*sz)) (O svs))) _ A=_;rw[qv hi,qv hj,show E' 0 (n*sz)=n*sz from cN _,qv hl];simp only[Nat.add_eq,Nat.mul_eq,Nat.sub_eq,cN];rfl
def aAy {B C:Nat} (h1:rt<=B) (h2:B<=C) (h3:C<=O svs):(Dr rt B C svs).take (rt+(C-B))=(svs.take C).take rt++(svs.take C).drop B:=by
 have e0:Dr rt B C svs=svs.take rt++((svs.drop B).take (C-B)++(Va (B-rt) SV.undef++svs.drop C)):=rfl;have e1:O (svs.take rt)=rt:=by simp;omega
 have e2:O ((svs.drop B).take (C-B))=C-B:=by simp;omega
 have e3:(svs.take C).take rt=svs.take rt:=by rw[mC,fG W]
 have e4:(svs.take C).drop B=(svs.drop B).take (C-B):=by rw[wX]
 rw[e0,e3,e4,<-l6,IQ (by rw[gS,e1,e2])]
def ali {s n' len:Nat} {c:Cp} (hc:Az e s n len c) (h:n'<=n):Az e s n' len c:=by
 cases c with
 |k m=>exact ⟨by have:=hc.1;omega,hc.2⟩
 |u e'=>exact ⟨hc.1,by have:=jv s h;have:=hc.2;omega⟩
def Rel.wr0 {b b':Bx} {id nx:Nat} (r:Rel F g Z c ⟨[],[(0,b)]⟩ noT H) (nr:∀x,nx<=x->H x=A) (jA:H id≠A) (hc:c id=V 0) (hb:fg F g 0 b' L') (nd:(L'.map (·.1)).Nodup) (hL:∀p∈L',p=(id,o')\/p.1≠id/\H p.1=V p.2/\c p.1=V 0):
  ∃φ' c',(∀x,nx+1<=x->jG H (id,V o') x=A)/\Rel F g φ' c' ⟨[],[(0,b')]⟩ noT (jG H (id,V o'))/\∀x,x<nx->jG H (id,V o') x≠A->H x≠A:=by
 have hn:∀x,x≠id->jG H (id,V o') x=H x:=λx hx=>au hx
 have lt:id<nx:=zm λh=>jA (nr _ h)
 let ⟨c',h1,_⟩:=r.chg (K:=0) (b':=b') (L':=L') (H':=jG H (id,V o')) hb nd (λp hp=>(hL p hp).elim (λe=>e ▸ ⟨ax rfl,.inl hc⟩) λh=>⟨(hn _ h.1).trans h.2.1,.inl h.2.2⟩) (λi hi=>.inl (qP λh=>hi (hn i λe=>h (e ▸ hc)))) (.inl rfl)
 refine ⟨_,c',λx hx=>(hn x W).trans (nr x W),h1.sub (λt x h=>(by cases h)) λk b h=> ?_,λx hx dd=> ?_⟩
 .show lk k [(0,b'),(0,_)]=_;rw[dH] at h ⊢;split
  .rename_i e;rw[ax e] at h;exact h
  .rename_i e;rw[au e] at h;cases h
 .by_cases e:x=id
  .exact e ▸ jA
  .rwa[hn x e] at dd
def iE.del {k c:Nat} {ie:TI} (hP:L4 E k c) (h9:D' 1048576 c=U) (h0:Ys c 2=e) (h1:Cz (Ht c 2) 0=I) (pi:E.ty.get e=V ie) (hs:ie.size=sz) (hn:O Q=n) (hi:i<j) (hj:j<=n):
  iE E k [(0,.bG U e sz l Q [])] [.ms 0 sz 0 n,.int .i64 (i:Int),.int .i64 (j:Int)] (.ms 0 sz 0 (n-(j-i))) [(0,.bG U e sz l (Q.take i++Q.drop j) [])]:=.mk λ{F g Z c0 H nx aa} r nr has=>by
 cases has with|cons q1 t1=>
 cases t1 with|cons q2 t2=>
 cases t2 with|cons q3 t3=>
 cases t3;obtain ⟨hb,rfl⟩:=Lb q1 W
 cases q2;cases q3;have hlk:lk 0 [((0:Nat),Bx.bG U e sz l Q [])]=V (.bG U e sz l Q []):=by rw[dH,ax rfl]
 rcases r.bG hlk with ⟨_,_,lL,_⟩|⟨_,svs,ae,hφ,hH,_,hu,jL,q,_⟩
 .rw[hb] at lL;cases lL
 let ⟨_,nd,own⟩:=r.bx 0 _ hlk;rw[hφ] at nd own;subst hn;have hl:=pH jL;have hA:i*sz<=j*sz:=jv _ W
 have hB:j*sz<=O Q*sz:=jv _ hj;have ho:xh E c H nx [.sl (g 0).n 0 (O Q) (g 0).c,.int .i64 (.lit (i:Int)),.int .i64 (.lit (j:Int))]=V (.sl (g 0).n 0 (O Q-(j-i)) (g 0).c,[((g 0).n,V (SO.cells e (Dr (i*sz) (j*sz) (O Q*sz) svs)))]):=by
  unfold xh;rw[h9];show aA (E.ty.get (Ys c 2)) _=_;rw[h0,pi];show aT (Cz (Ht c 2) 0) (YM ie.size H _) _=_;rw[h1,hs];exact aKE hH hi hj hl
 let ⟨rt,B,e1,a1,a2⟩:=q.cut j hu;obtain ⟨A1,A2,rfl,b1,b2⟩:=a1.cut i λr hr=>hu r (oB hr)
 rw[mC,fG hA,show (Q.take j).take i=Q.take i by rw[mC,fG W]] at b1
 have Ia:(A1++B).Sublist ae:=by
  rw[e1];exact List.Sublist.append (List.sublist_append_left _ _) (.refl _)
 have r1:O (Q.take i++Q.drop j)=O Q-(j-i):=by simp;omega
 have r3:(O Q-(j-i))*sz=i*sz+(O Q*sz-j*sz):=by rw[show O Q-(j-i)=i+(O Q-j) by omega,gz,Ci]
 have jA:=(own ((g 0).n,_) kr);have key:=r.wr0 (b':=.bG U e sz l (Q.take i++Q.drop j) []) (id:=(g 0).n) (o':=SO.cells e (Dr (i*sz) (j*sz) (O Q*sz) svs)) (L':=((g 0).n,SO.cells e (Dr (i*sz) (j*sz) (O Q*sz) svs))::(A1++B)) nr (by rw[hH];simp) jA.2 (.bG hb (λh=>by cases h) (λr hr=> ?_) ?_ ?_ λp hp=>by cases hp) ?_ λp hp=> ?_
 .let ⟨φ',c',k1,k2,k3⟩:=key;exact ⟨F,g,φ',c',_,_,nx+1,Bs hP ho,qU _,k1,.refl _,λ_ _=>rfl,Qc hb,k2,k3,λh=>by cases h⟩
 .rcases fk.1 hr with hr|hr
  .exact hu r (oB hr)
  .exact hu r (nh hr)
 .rw[r1,aEr hA hB hl];exact ali jL W
 .rw[r1,r3,aAy hA hB hl];exact b1.append a2
 .exact ((Ia.cons_cons _).map _).nodup nd
 .rcases cU.1 hp with e|hp
  .exact .inl e
  .have hp:=Ia.subset hp;exact .inr ⟨λe=>(qV.1 nd).1 (dL.2 ⟨p,hp,e⟩),own p (fj _ hp)⟩
def aKw {id G5 q new:Nat} {c c2:Cp} {e2:Ey} {Np:bj} (hf:H id=V (SO.cells e svs)) (hf2:H G5=V (SO.cells e2 Np)) (hi:i<=n) (hq:0<q) (AS:n<=1000000) (hq6:q<=1000000) (dd:id≠G5) (hl:n*sz<=O svs) (z6:q*sz<=O Np) (hc:YW 0 (O svs) sz c=I):
  Z2 e sz H new [.sl id 0 n c,.int .i64 (.lit (i:Int)),.sl G5 0 q c2]=V (.sl new 0 (n+q) (.u e),[(id,A),(new,V (SO.cells e (Dn (svs.take (n*sz)) (i*sz) (Np.take (q*sz)))))]):=by
 show uQ (V i) (ny (H id)) (ny (H G5)) (λi p p2=>aT (D' i n&&(D' 1 q&&(D' n 1000000&&(D' q 1000000&&(!Cz id G5&&(Cz p.1 e&&(D' (E' 0 (N' n sz)) (O p.2)&&(D' (E' 0 (N' q sz)) (O p2.2)&&YW 0 (O p.2) sz c)))))))) (V (SV.sl new 0 (E' n q) (.u e),[(id,A),(new,V (SO.cells e (Dn ((p.2.drop 0).take (N' n sz)) (N' i sz) ((p2.2.drop 0).take (N' q sz)))))])) A)=_
 rw[hf,hf2];show aT (D' i n&&(D' 1 q&&(D' n 1000000&&(D' q 1000000&&(!Cz id G5&&(Cz e e&&(D' (E' 0 (N' n sz)) (O svs)&&(D' (E' 0 (N' q sz)) (O Np)&&YW 0 (O svs) sz c)))))))) _ A=_;rw[show E' 0 (N' n sz)=n*sz from cN _,show E' 0 (N' q sz)=q*sz from cN _];rw[qv hi,qv hq,qv AS,qv hq6,qv hl,qv z6,hc,(f9 _ _).2 rfl,show Cz id G5=U from afC.2 λh=>dd ((f9 _ _).1 h)]
 rfl
def iE.ins {k c q:Nat} {e2:Ey} {ie:TI} {or:bB} (hP:L4 E k c) (h9:D' 1048576 c=U) (h0:Ys c 2=e) (h1:Cz (Ht c 2) 0=U) (pi:E.ty.get e=V ie) (hs:ie.size=sz) (hn:O Q=n) (hq:O or=q) (hi:i<=n) (hn0:0<n) (hq0:0<q) (AS:n<=1000000) (hq6:q<=1000000):
  iE E k [(2,.rows z e2 sz or),(4294967296,.rows U e sz Q)] [.ms 4294967296 sz 0 n,.int .i64 (i:Int),.ms 2 sz 0 q] (.ms 4294967296 sz 0 (n+q)) [(4294967296,.rows U e sz (Q.take i++or++Q.drop i)),(2,.rows z e2 sz or)]:=.mk λ{F g Z c0 H nx aa} r nr has=>by
 generalize hK:(4294967296:Nat)=K at*;have hK2:K≠2:=by rw[<-hK];decide
 have hpn:pnL (xQ [(2,Bx.rows z e2 sz or),(K,Bx.rows U e sz Q)]) K=U:=by rw[<-hK];rfl
 cases has with|cons q1 t1=>
 cases t1 with|cons q2 t2=>
 cases t2 with|cons q3 t3=>
 cases t3;obtain ⟨hb,rfl⟩:=Lb q1 hn0;obtain ⟨hb2,rfl⟩:=Lb q3 hq0;cases q2;have hlk:lk K [((2:Nat),Bx.rows z e2 sz or),(K,Bx.rows U e sz Q)]=V (.rows U e sz Q):=by rw[dH,au hK2,dH,ax rfl]
 have hlk2:lk 2 [((2:Nat),Bx.rows z e2 sz or),(K,Bx.rows U e sz Q)]=V (.rows z e2 sz or):=by rw[dH,ax rfl]
 rcases r.bG hlk with ⟨_,_,lL,_⟩|⟨_,svs,ae,hφ,hH,_,hu,jL,w1,_⟩
 .rw[hb] at lL;cases lL
 rcases r.bG hlk2 with ⟨_,_,lL,_⟩|⟨_,Np,L2,hφ2,hH2,_,hu2,aHo,w2,_⟩
 .rw[hb2] at lL;cases lL
 have own:=(r.bx K _ hlk).2.2;have S5:=(r.bx 2 _ hlk2).2.2;rw[hφ] at own;rw[hφ2] at S5;have cK:=(own (_,_) kr).2;have c2:=(S5 (_,_) kr).2;subst hn;subst hq;have hl:=pH jL;have z6:=pH aHo;have dd:(g K).n≠(g 2).n:=λe=>by
  have cK:c0 (g K).n=V K:=cK;have c2:c0 (g 2).n=V 2:=c2;rw[e,c2] at cK;exact hK2 (kh cK).symm
 have jJ:i*sz<=O Q*sz:=jv _ hi;have ho:xh E c H nx [.sl (g K).n 0 (O Q) (g K).c,.int .i64 (.lit (i:Int)),.sl (g 2).n 0 (O or) (g 2).c]=V (.sl nx 0 (O Q+O or) (.u e),[((g K).n,A),(nx,V (SO.cells e (Dn (svs.take (O Q*sz)) (i*sz) (Np.take (O or*sz)))))]):=by
  unfold xh;rw[h9];show aA (E.ty.get (Ys c 2)) _=_;rw[h0,pi];show aT (Cz (Ht c 2) 0) _ (Z2 e ie.size H nx _)=_;rw[h1,hs];refine aKw hH hH2 hi hq0 AS hq6 dd hl z6 ?_;cases hκ:(g K).c with
  |k m=>
   rw[hκ] at jL;show D' (E' 0 (N' m sz)) (O svs)=I;rw[jL.2];exact qv (by show 0+m*sz<=_;omega)
  |u e'=>rfl
 have oH:=nr nx (cM _);generalize hX:Dn (svs.take (O Q*sz)) (i*sz) (Np.take (O or*sz))=X at ho;have hXe:X=((svs.take (O Q*sz)).take (i*sz))++(Np.take (O or*sz)++(svs.take (O Q*sz)).drop (i*sz)):=hX.symm;let H':Hf:=jG (jG H ((g K).n,A)) (nx,V (SO.cells e X));have Ls:∀x,x≠(g K).n->x≠nx->H' x=H x:=λx h1 h2=>by
  show (if x=nx then _ else if x=(g K).n then _ else H x)=_
  rw[au h2,au h1]
 have mM:O (Q.take i++or++Q.drop i)=O Q+O or:=by simp;omega
 have hru:∀r∈Q.take i++or++Q.drop i,O r=sz:=λr hr=>by
  rcases fk.1 hr with hr|hr
  .rcases fk.1 hr with hr|hr
   .exact hu r (oB hr)
   .exact hu2 r hr
  .exact hu r (nh hr)
 have hXl:O X=(O Q+O or)*sz:=by
  rw[hXe];simp only[gS,dv,iz,gz];rw[fG hl,fG z6,fG jJ];omega
 have hXv:dS F mn X (Q.take i++or++Q.drop i).flatten:=by
  rw[hXe,List.flatten_append,List.flatten_append,l6,Hh hu,Hi hu];exact (w1.dat.take _).append (w2.dat.append (w1.dat.drop _))
 let g':Gb:=j4 g K ⟨nx,.u e,I⟩;have gK:g' K=⟨nx,.u e,I⟩:=ax rfl;let ⟨c',k1,_⟩:=r.chg (K:=K) (g':=g') (b':=.rows U e sz (Q.take i++or++Q.drop i)) (L':= [(nx,.cells e X)]) (H':=H') (by
   have:=fg.bG (F:=F) (g:=g') (K:=K) (z:=U) (e:=e) (s:=sz) (l:= []) (Q:=Q.take i++or++Q.drop i) (o:= []) (svs:=X) (by rw[gK]) (λh=>by cases h) hru (by rw[gK,mM,hXl];exact ⟨rfl,cM _⟩) (.tQ hru (by rw[mM,<-hXl,nj];exact hXv)) λp hp=>by cases hp
   rwa[gK] at this) am (λp hp=>by rw[gy.1 hp];exact ⟨ax rfl,.inr oH⟩)
  (λx hx=>by
   by_cases h1:x=(g K).n
   .exact .inl (h1 ▸ cK)
   .by_cases h2:x=nx
    .exact .inr (h2 ▸ oH)
    .exact absurd (Ls x h1 h2) hx)
  (.inr ⟨⟨λt x h=>(by cases h),λk b hk h=>by
   rw[dH] at h;split at h
   .cases h;exact λhm=>by cases hm
   .rw[dH] at h;split at h
    .rename_i e;exact absurd e hk
    .cases h⟩,λk hk=>au hk⟩)
 refine ⟨F,g',_,c',_,H',nx+1,Bs hP ho,qU _,λx hx=> ?_,.refl _,λk hk=>au λe=>(by rw[e,hpn] at hk;cases hk),?_,k1.sub (λt x h=>(by cases h)) λk b h=> ?_,λx hx h=> ?_,λh=>by cases h⟩
 .by_cases h1:x=(g K).n
  .have:H (g K).n=V _:=hH;rw[<-h1,nr x W] at this;cases this
  .exact (Ls x h1 W).trans (nr x W)
 .have:=Qc (F:=F) (g:=g') (K:=K) (s:=sz) (n:=O Q+O or) (by rw[gK])
  rw[gK] at this;exact this
 .show lk k [(K,_),(2,_),(K,_)]=_;rw[dH] at h ⊢;split
  .rename_i e;rw[ax e] at h;exact h
  .rename_i e;rw[au e] at h;rw[dH] at h ⊢;split
   .rename_i e;rw[ax e] at h;exact h
   .rename_i e;rw[au e] at h;cases h
 .by_cases h1:x=(g K).n
  .rw[h1];have:H (g K).n=V _:=hH;rw[this];simp
  .rwa[Ls x h1 W] at h
def rG (xs:List Int):bB:=xs.map λx=> [AV.int .i64 x]
def D3 (z:Bool) (xs:List Int):List Int:=aT z (dJ xs) (mO xs)
def arI (x:Int) (xs:List Int):(rG (x::xs)).flatten=AV.int .i64 x::(rG xs).flatten:=rfl
def awE:∀xs:List Int,dS F g (fV xs) (rG xs).flatten
 | []=>.nil
 |x::xs=>.cons (.lit _) (awE xs)
def abP:∀{xs:List Int} {vs:bj},dS F g vs (rG xs).flatten->vs=fV xs
 | [],vs,h=>by cases h;rfl
 |x::xs,vs,h=>by
  rw[arI] at h;cases h with|cons q t=>
  cases q;rw[abP t];rfl
def akD:∀xs:List Int,Ll (fV xs)=V xs
 | []=>rfl
 |x::xs=>by
  show cq (NO (.int .i64 (.lit x))) (Ll (fV xs)) (λx r=>V (x::r))=_
  rw[akD xs];rfl
def asw (z:Bool) (xs:List Int) (l:bj):(fV (D4 z xs)++l).take (O (D3 z xs))=fV (D3 z xs):=by
 cases z
 .show (fV (mO xs++Va (O xs-O (mO xs)) 0)++l).take (O (mO xs))=fV (mO xs);have e:fV (mO xs++Va (O xs-O (mO xs)) 0)=fV (mO xs)++fV (Va (O xs-O (mO xs)) 0):=by simp[fV]
  rw[e,l6,IQ (by simp[fV])]
 .show (fV (dJ xs)++l).take (O (dJ xs))=fV (dJ xs);rw[IQ (by simp[fV])]
def aaR:∀xs:List Int,O (mO xs)<=O xs
 | []=>cM _
 | [x]=>cM _
 |x::y::l=>by
  have:=aaR (y::l);show O (if x=y then mO (y::l) else x::mO (y::l))<=_
  split
  .exact Nat.le_succ_of_le this
  .exact Nat.succ_le_succ this
def abj (x:Int):∀ys:List Int,O (Dm x ys)=O ys+1
 | []=>rfl
 |y::ys=>by
  unfold Dm;split
  .rfl
  .rw[l7,abj x ys];rfl
def wj:∀xs:List Int,O (dJ xs)=O xs
 | []=>rfl
 |x::xs=>by rw[dJ,abj,wj xs];rfl
def aCT (z:Bool) (xs:List Int):O (D3 z xs)<=O xs:=by
 cases z
 .exact aaR xs
 .exact qz (wj xs)
def aiF (b:Bool) (xs:List Int):O (D4 b xs)=O xs:=by
 cases b
 .have:=aaR xs;show O (mO xs++Va (O xs-O (mO xs)) 0)=_;rw[gS,vz];omega
 .exact wj xs
def GN (xs:List Int):∀r∈rG xs,O r=1:=λr hr=>by
 obtain ⟨x,_,rfl⟩:=dL.1 hr;rfl
def iE.ints {k c:Nat} {xs:List Int} (hP:L4 E k c) (h0:D' 1048576 c=I) (h1:Cz c 1048576=z) (hn:O xs=n) (h6:n<=4294967295):
  iE E k [(0,.rows U e 1 (rG xs))] [.ms 0 1 0 n] (aT z (.dh []) (.ms 0 1 0 (O (D3 z xs)))) [(0,.rows U e 1 (rG (D3 z xs)))]:=.mk λ{F g Z c0 H nx aa} r nr has=>by
 cases has with| @cons _ v _ _ _ q1 t1=>
 cases t1;have hpr:∀f new aa,xh E c f new aa=adA z f aa:=λf new aa=>by
  unfold xh;rw[h0,h1,cx,ax rfl]
 subst hn;rcases IF (O xs) with hz|N2
 .obtain rfl:xs= []:=qg.1 hz;have e0:D3 z []= []:=by cases z<;>rfl
  rw[e0];have hv:v= .bY\/∃id c',v= .sl id 0 0 c':=by
   cases q1 with
   |sw=>exact .inl rfl
   |ms _ _ _ hb=>exact .inr ⟨(g 0).n,_,by rw[nX];rfl⟩
   |zQ _ _ hl=>omega
  have ho:xh E c H nx [v]=V (aT z (.dh []) v,[]):=by
   rw[hpr];rcases hv with rfl|⟨id,c',rfl⟩
   .cases z<;>rfl
   .cases z<;>rfl
  refine ⟨F,g,Z,c0,_,_,nx+1,Bs hP ho,qU _,λx hx=>nr x W,.refl _,λ_ _=>rfl,?_,r,λx _ h=>h,λh=>by cases h⟩
  cases z
  .exact q1
  .exact .dh .nil
 .obtain ⟨hb,rfl⟩:=Lb q1 N2;have hlk:lk 0 [((0:Nat),Bx.rows U e 1 (rG xs))]=V (.rows U e 1 (rG xs)):=by rw[dH,ax rfl]
  rcases r.bG hlk with ⟨_,_,lL,_⟩|⟨_,svs,ae,hφ,hH,_,hu,jL,q,_⟩
  .rw[hb] at lL;cases lL
  have own:=(r.bx 0 _ hlk).2.2;rw[hφ] at own;have mM:O (rG xs)=O xs:=by simp[rG]
  have hl:=pH jL;have q:=q.dat;rw[mM,IC] at hl q;rw[mM] at jL;have e1:svs.take (O xs)=fV xs:=abP q;have e2:(svs.drop 0).take (O xs)=fV xs:=by rw[oQ];exact e1
  have ho:xh E c H nx [.sl (g 0).n 0 (O xs) (g 0).c]=V (aT z (.dh []) (.sl (g 0).n 0 (O (mO xs)) (g 0).c),[((g 0).n,V (SO.cells e (svs.take 0++(fV (D4 z xs)++svs.drop (E' 0 (O xs))))))]):=by
   rw[hpr];show aT (Cz (O xs) 0) _ (aA (ny (H (g 0).n)) _)=_;rw[show H (g 0).n=_ from hH,show Cz (O xs) 0=U from afC.2 λh=>by have:=(f9 _ _).1 h;omega]
   show aA (Ll ((svs.drop 0).take (O xs))) _=_;rw[e2,akD];show aT (D' 1 (O xs)&&(D' (E' 0 (O xs)) (O svs)&&D' (O xs) 4294967295)) _ A=_;rw[qv N2,qv h6,show E' 0 (O xs)=O xs from cN _,qv hl];rfl
  have Jr:O (rG (D3 z xs))=O (D3 z xs):=by simp[rG]
  generalize hX:(svs.take 0++(fV (D4 z xs)++svs.drop (E' 0 (O xs))))=X at ho;have li:O X=O svs:=by
   have:=aiF z xs;have e3:E' 0 (O xs)=O xs:=cN _;rw[<-hX,e3];simp[fV,this];omega
  have key:=r.wr0 (b':=.rows U e 1 (rG (D3 z xs))) (id:=(g 0).n) (o':=.cells e X) (L':= [((g 0).n,.cells e X)]) nr (by rw[show H (g 0).n=_ from hH];simp) (own (_,_) kr).2
   (.bG hb (λhc=>by cases hc) (GN _) (by rw[Jr,li];exact ali jL (aCT z xs)) (.tQ (GN _) (by
    rw[Jr,IC,<-hX,zn,jb,asw];exact awE _)) λp hp=>by cases hp) am (λp hp=>.inl (gy.1 hp))
  let ⟨φ',c',k1,k2,k3⟩:=key;refine ⟨F,g,φ',c',_,_,nx+1,Bs hP ho,qU _,k1,.refl _,λ_ _=>rfl,?_,k2,k3,λh=>by cases h⟩
  cases z
  .exact Qc hb
  .exact .dh .nil
def iE.cmp {k:Nat} {a b:xN} (Ob:E.P.funcs[k]? =V fn) (hb:fn.body=A) (hn:(fn.name== "runtime.NumGoroutine")=U) (e1:Extern.findNext fn=A) (e2:Extern.find fn=V Extern.BytealgCompare.compare):iE E k [] [.str a,.str b] (.int .i64 (OD a b)) []:=.mk λ{F g Z c H nx aa} r nr has=>by
 cases has with|cons h1 t1=>
 cases t1 with|cons h2 t2=>
 cases t2;cases h1;cases h2;refine ⟨F,g,Z,c,.int .i64 (.lit (OD a b)),H,nx,λm g w u us hE hr oH hu mK=> ?_,cM _,nr,.refl _,λ_ _=>rfl,.lit _,r,λ_ _ h=>h,λh=>by cases h⟩
 cases hu with
 | @fn _ first kL _ _ FC Jp=>
 have B7:ow g (first.toList++us++kL.toList) [.str a,.str b]:=(FC.append mK).append Jp
 have yE:first++us.toArray++kL=(first.toList++us++kL.toList).toArray:=by apply Cg;simp
 let ⟨v1,v2,e,h1,h2⟩:=I0 B7;rw[e] at yE;cases h1;cases h2;refine ⟨{target:=.fn (.func k) kL,args:=first++us.toArray},rfl,.inr (.inr ⟨.int .i64 (Lib.compareBytes a.data.toList b.data.toList),w,?_,_,rfl,g,.int _ _ ?_,hr,Fr.refl _ _ _,λ_ _=>rfl,oH⟩)⟩
 .show (callFunc k (first++us.toArray++kL)).run E.P w=_
  rw[yE,run_callFunc_extern Ob hn (by rw[hb];rfl) e1 e2,Lib.run_compareString]
  rfl
 .rw[aci];rfl
end
end Go.bM
namespace Go.bM
open Go.RowKit
variable {nb nx:Nat} {v:O'} {H:Hf} {k f:FuncId} {aa:bj} {us:gn} {xs:bg}
section
def vj (nb:Nat):O'->SV
 | .bool b=>.bool b
 | .int k n=>.int k (.lit n)
 | .string s=>.str s
 | .slice a n c=>
  if n=0 then (if a=A/\c=0 then .bY else .sle)
  else (match a with
   |some ⟨b,o,A⟩=>if b<nb/\n<=c then .sl b o n (.k c) else .undef
   |_=>.undef)
 |_=>.undef
def R7 (nb:Nat):O'->SV
 | .agg cs=>.agg (cs.toList.map (vj nb))
 |v=>vj nb v
def Z1 (nb:Nat):Obj->G SO
 | .cells kw _ _=>V (.ro (kw.toList.map (vj nb)))
 |_=>A
def mir (nb:Nat):List Obj->Nat->Hp
 | [],_=>.nil
 |o::l,i=>(mir nb l (i+1)).set i (Z1 nb o)
def xB (ac:World):Hp:=mir ac.heap.size ac.heap.toList 0
def gW (P:Y') (ac:World):Gh:=⟨λ_=>0,P.cellsOf,λid=>if id<ac.heap.size then V (id,0) else A,λ_=>0,λ_=>0,λb=>ac.heap[b]?⟩
def apq (nb:Nat):∀(l:List Obj) (i x:Nat),(mir nb l i).get x=if x<i then A else (l[x-i]?).bind (Z1 nb)
 | [],i,x=>by show (Tr.nil:Hp).get x=_;simp;rfl
 |o::l,i,x=>by
  show ((mir nb l (i+1)).set i (Z1 nb o)).get x=_;rw[Tr.apE];by_cases hx:x=i
  .subst hx;simp
  .rw[au hx,apq nb l (i+1) x];by_cases cT:x<i
   .rw[ax cT,ax W]
   .rw[au cT,au W,show x-i=(x-(i+1))+1 by omega,uW]
def Lc (ac:World) (x:Nat):(xB ac).get x=(ac.heap[x]?).bind (Z1 ac.heap.size):=by
 unfold xB;rw[apq];simp
variable {P:Y'} {ac:World}
def aAl (v:O'):VR (gW P ac) v (vj ac.heap.size v):=by
 unfold vj;split
 .exact .bool _
 .exact .int _ _ rfl
 .exact .str _
 .rename_i a n c;split
  .rename_i hn;subst hn;split
   .rename_i h;obtain ⟨rfl,rfl⟩:=h;exact .bY
   .exact .sle
  .split
   .rename_i b o;split
    .rename_i h;have:=VR.sl (g:=gW P ac) (id:=b) (off:=o) (n:=n) (b:=b) (o:=0) (c:=c) (cap:=.k c) (by show (if b<ac.heap.size then V (b,0) else A)=_;rw[ax h.1]) h.2 (λm hm=>by cases hm;rfl) (λe he=>by cases he)
     rwa[cN] at this
    .exact .undef _
   .exact .undef _
 .exact .undef _
def aKx (h:MQ (vj nb v)=U):v.oneCell'=I:=by
 cases v<;>first|rfl|(cases h;done)
def aME:HR (gW P ac) (xB ac).get ac:=by
 refine ⟨λid o ho=> ?_,λi j x y b c d hx hy h1 h2=> ?_⟩
 .rw[Lc] at ho;cases hb:ac.heap[id]? with
  |none=>rw[hb] at ho;cases ho
  |some ob=>
   have cT:id<ac.heap.size:=(pq.1 hb).1;refine ⟨id,0,ax cT,cT,?_⟩;rw[hb] at ho;cases ob with
   |cells kw e fz=>
    cases ho;refine ⟨kw,e,fz,hb,hb,λj x hx=> ?_⟩
    rw[my] at hx;cases hv:kw.toList[j]? with
    |none=>rw[hv] at hx;cases hx
    |some v=>
     rw[hv] at hx;cases hx;exact ⟨v,by rw[cN];simpa using hv,λhu=>⟨aKx hu,aAl v⟩⟩
   |_=>cases ho
 .have k1:(if i<ac.heap.size then V (i,0) else A)=V (b,c):=h1
  have k2:(if j<ac.heap.size then V (j,0) else A)=V (b,d):=h2
  split at k1
  .split at k2
   .cases k1;cases k2;rfl
   .cases k2
  .cases k1
variable {E:Env} {g:Gh} {w:World}
def aJR [hF:Mo E] {H':Hf} {nZ:Nat} {v:SV} (sem:p8 E U (.fn (.func k) [] []) aa H nx v H' nZ) (FI:Yf E (.fn (.func k) [] [])=I) (hE:fU E g) (hr:HR g H w) (jB:∀x,nx<=x->g.ρ x=A) (mK:ow g us aa) (m:Nat):CallsIn Fence.wide m E.P k us.toArray w λe w'=>∃r g',e= .returned r/\VR g' r v/\HR g' H' w'/\Fr g H w g' H' w':=by
 let ⟨k',fi,ca,fn,e1,Ob,Vc⟩:=aAo FI;cases e1;let ⟨d,CP,DJ⟩:=sem m g w (.func (.func k) #[] #[]) us hE hr jB (.fn .nil .nil) mK;have hd:d={target:=.fn (.func k) #[],args:= #[]++us.toArray}:=by
  rw[aii] at CP;cases CP;rfl
 subst hd;have adC:∀(ge:jQ) (w:World),(invoke (.fn (.func k) #[]) ge).run E.P w=(callFunc k (ge++ #[])).run E.P w:=λ_ _=>rfl
 rcases aei (hF.fn k fn Ob).1 Vc (#[]++us.toArray++ #[]) w with ⟨hc,_⟩|hc
 .rcases DJ with ⟨k',as',q1,q2⟩|⟨l,k',t',as',b',q1,_⟩|⟨r,w',q1,_⟩<;>(rw[adC,hc] at q1;cases q1)
 .rcases DJ with ⟨k',as',q1,q2⟩|⟨l,k',t',as',b',q1,_⟩|⟨r,w',q1,_⟩
  .rw[adC,hc] at q1;cases q1;have e: #[]++us.toArray++ #[]=us.toArray:=by simp
   rw[e] at q2;refine CallsIn.mono q2 ?_;rintro e w' ⟨r,rfl,g',h1,h2,h3,_,_⟩;exact ⟨r,g',rfl,h1,h2,h3⟩
  .rw[adC,hc] at q1;cases q1
  .rw[adC,hc] at q1;cases q1
def atN {E:Env} [Mo E] (hE:fU E (gW E.P ac)) {b:Bool} (hc:iE E f [] xs (.bool b) []) (FI:Yf E (.fn (.func f) [] [])=I) (hx:dS (xB ac).get mn aa xs) (mK:ow (gW E.P ac) us aa):Calls E.P f us.toArray ac λe W'=>e= .returned (.bool b)/\Below ac.heap.size ac W':=by
 have nr:∀x,ac.heap.size<=x->(xB ac).get x=A:=λx hx=>by
  rw[Lc,ID hx];rfl
 have aDz:Rel (xB ac).get mn (λ_=> []) (λ_=>A) ⟨[],[]⟩ noT (xB ac).get:=⟨λt x hx=>(by cases hx),λk b hb=>(by cases hb),λi o h=>⟨h,rfl⟩,λ_ _=>rfl⟩
 let ⟨F',g',φ',c',v,H',nZ,sem,oH,hbd',hF,_,hv,hrel,_,_⟩:=hc.go aDz nr hx;have:=callsIn_wide.1 (aJR sem FI hE aME (λx hx=>au (Nat.not_lt.2 hx)) mK 0)
 refine this.mono ?_;rintro e W' ⟨r,g2,rfl,k1,k2,k3⟩;cases hv;cases k1;refine ⟨rfl,k3.os,k3.tape,k3.output,k3.size,λx hx=> ?_⟩
 cases hm:(xB ac).get x with
 |none=>
  refine k3.old x hx λ⟨id,o,c,z1,z2⟩=> ?_
  have z2:(if id<ac.heap.size then V (id,0) else A)=V (x,c):=z2
  split at z2
  .cases z2;have z1:(xB ac).get x=V o:=z1;rw[hm] at z1;cases z1
  .cases z2
 |some o=>
  let ⟨b',c',y1,y2,y3⟩:=k2.ob x o (hrel.fr x o (hF x o hm)).1;have y0:g2.ρ x=V (x,0):=k3.le.ρ x (x,0) (ax hx);rw[y0] at y1;cases y1;rw[Lc] at hm;cases hb:ac.heap[x]? with
  |none=>rw[hb] at hm;cases hm
  |some ob=>
   rw[hb] at hm;cases ob with
   |cells kw e fz=>
    cases hm;let ⟨kb,e',fz',w1,w2,_⟩:=y3;have w3:g2.wb x=ac.heap[x]? :=congrFun k3.le.wb x;rw[w1,<-w2,w3,hb]
   |_=>cases hm
end
end Go.bM
namespace Go.bM
open Go.RowKit Go.Proofs.YtbnkhmoelnfjoaaGreat
variable {a vs:gn} {x xs:bg} {v:O'} {Y:Type} {c s nb:Nat} {e t:Ey} {ps:List MemPlace}
section
mutual
def Qz:AV->Nat
 | .lit (.str s)=>s.size+1
 | .sl _ _ _ _ ii=>BH ii+1
 |_=>1
def BH:bB->Nat
 | []=>0
 |r::rs=>oP r+BH rs
def oP:bg->Nat
 | []=>0
 |x::xs=>Qz x+oP xs
end
def ac4 (xs ys:bg):oP (xs++ys)=oP xs+oP ys:=by
 induction xs with
 |nil=>simp[oP]
 |cons x xs ih=>simp[oP,ih];omega
def Am {Y pp:Type} (R:Y->pp->Prop):List Y->List pp->Prop
 | [],[]=>True
 |a::l,b::m=>R a b/\Am R l m
 |_,_=>False
def lj (P:Y'):Nat->Ey->bg->Prop
 |0,_,_=>False
 |n+1,t,xs=>
  match P.underlying t with
  |some .bool=>∃b,xs= [.bool b]
  |some (.int k)=>∃i,xs= [.int k i]/\(Lit.int k i).wf=I
  |some .string=>∃s:xN,xs= [.str s]/\s.size<=maxLen
  |some (.slice e)=>∃ii,xs= [.tN e (P.cellsOf e) (O ii) ii]/\∀r∈ii,lj P n e r
  |some (.struct fs)=>∃tH:bB,xs=tH.flatten/\Am (λf ys=>lj P n f.type ys) fs.toList tH
  |some (.array m e)=>∃tH:bB,xs=tH.flatten/\O tH=m/\∀ys∈tH,lj P n e ys
  |_=>False
def yW (P:Y') (S:Ey->Bool) (total:Nat):Nat->List Field->Bool
 |off,[]=>off==total
 |off,f::fs=>f.offset==off&&S f.type&&yW P S total (off+P.cellsOf f.type) fs
def Nl (P:Y') (S:Ey->Bool) (t:Ey):Bool:=
 match P.underlying t with
 |some .bool|some (.int _)|some .string=>I
 |some (.struct fs)=>yW P S (P.cellsOf t) 0 fs.toList
 |some (.array n e)=>P.cellsOf t==n*P.cellsOf e&&S e
 |some (.slice e)=>S e&&A' (0<P.cellsOf e)
 |_=>U
def CR (ac:World) (cs:gn) (xs:bg):Prop:=dS (xB ac).get mn (cs.map (vj ac.heap.size)) xs/\∀v∈cs,MQ (vj ac.heap.size v)=U
section
variable {H:Type} {ka:Ey×O'->H} {P:Y'} {S:Ey->Bool} {w:World} {base:Nat} {spare:Nat->Bool} {held:Bool}
def CR.nil:CR w [] []:=⟨.nil,λv hv=>by cases hv⟩
def CR.append {b:gn} {y:bg} (h:CR w a x) (k:CR w b y):CR w (a++b) (x++y):=⟨by rw[ky];exact h.1.append k.1,λv hv=>(fk.1 hv).elim (h.2 v) (k.2 v)⟩
def CR.one {x:AV} (h:VA (xB w).get mn (vj w.heap.size v) x) (hu:MQ (vj w.heap.size v)=U):CR w [v] [x]:=⟨.cons h .nil,λu vk=>by rw[gy.1 vk];exact hu⟩
def CR.length (h:CR w a x):O a=O x:=by have:=h.1.length;simpa using this
def CE {Y pp:Type} {f:Y->G pp}:∀{l:List Y} {r:List pp},l.mapM f=V r->Am (λa b=>f a=V b) l r
 | [],r,h=>by simp at h;subst h;trivial
 |a::l,r,h=>by
  rw[asV] at h;cases ha:f a with
  |none=>simp[ha] at h
  |some b=>
   cases hl:l.mapM f with
   |none=>simp[ha,hl] at h
   |some m=>
    simp[ha,hl] at h;subst h;exact ⟨ha,CE hl⟩
def ad1 {Y pp:Type} {R:Y->pp->Prop}:∀{l:List Y} {m:List pp},Am R l m->O l=O m
 | [],[],_=>rfl
 |_::_,_::_,h=>by simp[ad1 h.2]
 | [],_::_,h=>h.elim
 |_::_,[],h=>h.elim
def avq {Y pp:Type} {R:Y->pp->Prop}:∀{l:List Y} {m:List pp},Am R l m->∀{i:Nat} {b:pp},m[i]? =V b->∃a,l[i]? =V a/\R a b
 | [],[],_,_,_,h=>by simp at h
 |a::l,b::m,h,i,x,hx=>by
  cases i with
  |zero=>simp at hx;subst hx;exact ⟨a,rfl,h.1⟩
  |succ i=>simp at hx;let ⟨y,h1,h2⟩:=avq h.2 hx;exact ⟨y,by simpa using h1,h2⟩
 | [],_::_,h,_,_,_=>h.elim
 |_::_,[],h,_,_,_=>h.elim
def aEL {pp:Type} {R:Y->pp->Prop} {l:List Y} {m:List pp} (h:Am R l m) {b:pp} (hb:b∈m):∃a,R a b:=by
 let ⟨i,hi⟩:=List.mem_iff_getElem?.1 hb;let ⟨a,_,ha⟩:=avq h hi;exact ⟨a,ha⟩
def ab6 (n:Nat)
  (ih:∀t cs x,S t=I->Nu ka P w base spare held n t cs=V x->∃xs,CR w cs xs/\lj P n t xs/\oP xs<=Rows.uptoBulk x.1) (total:Nat):
  ∀(fs:List Field) (off:Nat) (cs:gn) (ys:List (DataW H×List MemPlace)),yW P S total off fs=I->O cs=total->
   Am (λf y=>Nu ka P w base spare held n f.type ((cs.drop f.offset).take (P.cellsOf f.type))=V y) fs ys->off<=total->
   ∃tH:bB,CR w (cs.drop off) tH.flatten/\Am (λf zs=>lj P n f.type zs) fs tH/\oP tH.flatten<=Rows.uptoBulkAll (ys.map (·.1))
 | [],off,cs,ys,ht,hl,h2,_=>by
  simp[yW] at ht;refine ⟨[],?_,trivial,by simp[oP]⟩
  rw[xH W]
  exact .nil
 |f::fs,off,cs,[],_,_,h2,_=>h2.elim
 |f::fs,off,cs,y::ys,ht,hl,h2,ho=>by
  simp only[yW,bI,tD] at ht;let ⟨⟨ht0,htt⟩,ht1⟩:=ht;let ⟨h0,h1⟩:=h2;let ⟨xs,c1,c2,c3⟩:=ih _ _ _ htt h0;have lm:∀(fs:List Field) (o:Nat),yW P S total o fs=I->o<=total:=by
   intro fs;induction fs with
   |nil=>intro o h;simp[yW] at h;omega
   |cons g gs ihg=>intro o h;simp only[yW,bI] at h;have:=ihg _ h.2;omega
  have hle':=lm fs _ ht1;let ⟨tH,d1,d2,d3⟩:=ab6 n ih total fs (off+P.cellsOf f.type) cs ys ht1 hl h1 hle';refine ⟨xs::tH,?_,⟨c2,d2⟩,?_⟩
  .rw[ht0] at c1;have:cs.drop off=(cs.drop off).take (P.cellsOf f.type)++cs.drop (off+P.cellsOf f.type):=by
    rw[<-tF];exact (vC _ _).symm
   rw[this];exact c1.append d1
  .simp only[qQ,j2,Rows.uptoBulkAll,ac4];omega
def ac3 (n:Nat) (e:Ey) (he:S e=I)
  (ih:∀t cs x,S t=I->Nu ka P w base spare held n t cs=V x->∃xs,CR w cs xs/\lj P n t xs/\oP xs<=Rows.uptoBulk x.1) (cs:gn):
  ∀(m k:Nat) (ys:List (DataW H×List MemPlace)),O cs=(k+m)*P.cellsOf e->
   Am (λi y=>Nu ka P w base spare held n e ((cs.drop (i*P.cellsOf e)).take (P.cellsOf e))=V y) (List.range' k m) ys->
   ∃tH:bB,CR w (cs.drop (k*P.cellsOf e)) tH.flatten/\O tH=m/\(∀zs∈tH,lj P n e zs)/\oP tH.flatten<=Rows.uptoBulkAll (ys.map (·.1))
 |0,k,ys,hl,h2=>by
  refine ⟨[],?_,rfl,am,by simp[oP]⟩
  rw[xH (by simp at hl;omega)]
  exact .nil
 |m+1,k,[],_,h2=>by simp[EU,Am] at h2
 |m+1,k,y::ys,hl,h2=>by
  rw[EU] at h2;let ⟨h0,h1⟩:=h2;let ⟨xs,c1,c2,c3⟩:=ih _ _ _ he h0;let ⟨tH,d1,d2,d3,d4⟩:=ac3 n e he ih cs m (k+1) ys (by rw[hl];congr 1;omega) h1
  refine ⟨xs::tH,?_,by simp[d2],?_,?_⟩
  .have:cs.drop (k*P.cellsOf e)=(cs.drop (k*P.cellsOf e)).take (P.cellsOf e)++cs.drop ((k+1)*P.cellsOf e):=by
    rw[gz,tC,<-tF];exact (vC _ _).symm
   rw[this];exact c1.append d1
  .intro zs hz;rcases cU.1 hz with rfl|hz
   .exact c2
   .exact d3 zs hz
  .simp only[qQ,j2,Rows.uptoBulkAll,ac4];omega
def aKY (a:Addr) (k j:Nat) (h:a.spot=A\/0<k):(a.add k).add j=⟨a.block,a.off+k+j,A⟩:=by
 let ⟨b,o,s⟩:=a;by_cases hk:k=0
 .subst hk;simp at h;subst h;by_cases hj:j=0<;>simp[Addr.add,hj]
 .by_cases hj:j=0<;>simp[Addr.add,hk,hj]
def ac0 (n:Nat) (e:Ey) (he:S e=I) (a:Addr)
  (ih:∀t cs x,S t=I->Nu ka P w base spare held n t cs=V x->∃xs,CR w cs xs/\lj P n t xs/\oP xs<=Rows.uptoBulk x.1) (hs:0<P.cellsOf e):
  ∀(m k:Nat) (ys:List (DataW H×List MemPlace)),
   Am (λi y=>((w.cells? base (a.add (i*P.cellsOf e)) (P.cellsOf e)).bind (Nu ka P w base spare held n e))=V y) (List.range' k m) ys->
   ∃(ii:bB) (vs:gn),CR w vs ii.flatten/\O vs=m*P.cellsOf e/\(∀j v,vs[j]? =V v->w.cell? ⟨a.block,a.off+k*P.cellsOf e+j,A⟩=V v)/\O ii=m/\(∀zs∈ii,lj P n e zs/\O zs=P.cellsOf e)/\BH ii<=Rows.uptoBulkAll (ys.map (·.1))/\(k=0->0<m->a.spot=A)
 |0,k,ys,h2=>⟨[],[],.nil,am,λj v hv=>(by simp at hv),rfl,am,by simp[BH],am⟩
 |m+1,k,[],h2=>by simp[EU,Am] at h2
 |m+1,k,y::ys,h2=>by
  rw[EU] at h2;let ⟨h0,h1⟩:=h2;let ⟨ii,vs,d1,dl,dc,d2,d3,d4,d5⟩:=ac0 n e he a ih hs m (k+1) ys h1;cases hc:w.cells? base (a.add (k*P.cellsOf e)) (P.cellsOf e) with
  |none=>simp[hc] at h0
  |some cs=>
   simp only[hc,ai] at h0;let ⟨xs,c1,c2,c3⟩:=ih _ _ _ he h0;unfold World.cells? at hc;split at hc
   .have fH:=CE hc;have li:O cs=P.cellsOf e:=by have:=ad1 fH;simpa using this.symm
    have pY:∀j v,cs[j]? =V v->w.cell? ((a.add (k*P.cellsOf e)).add j)=V v:=by
     intro j v hj;let ⟨i,hi,hv⟩:=avq fH hj;have sD:i=j:=by
      have:=(bk.1 hi);let ⟨q1,q2⟩:=this;simpa using q2.symm
     rw[<-sD];exact hv
    have aHg:a.spot=A\/0<k*P.cellsOf e:=by
     by_cases hk:0<k*P.cellsOf e
     .exact .inr hk
     .have hk0:k*P.cellsOf e=0:=by omega
      have h00:=pY 0 (cs[0]' W) am
      rw[hk0] at h00;simp only[Addr.add,az] at h00;unfold World.cell? at h00;split at h00
      .split at h00
       .simp at h00
       .rename_i q;left;simpa using q
      .simp at h00
    refine ⟨xs::ii,cs++vs,?_,?_,λj v hj=> ?_,by simp[d2],?_,?_,?_⟩
    .rw[qQ];exact c1.append d1
    .rw[gS,li,dl,gz];omega
    .by_cases gI:j<O cs
     .rw[nc gI] at hj;have h:=pY j v hj;rw[aKY a _ j aHg] at h;exact h
     .rw[nW W] at hj
      have h:=dc _ v hj;rw[li] at h;rw[li] at gI;rw[gz,tC] at h;rw[show a.off+k*P.cellsOf e+j=a.off+(k*P.cellsOf e+P.cellsOf e)+(j-P.cellsOf e) by omega]
      exact h
    .intro zs hz;rcases cU.1 hz with rfl|hz
     .exact ⟨c2,by rw[<-c1.length,li]⟩
     .exact d3 zs hz
    .simp only[BH,j2,Rows.uptoBulkAll];omega
    .intro hk0 _;rcases aHg with h|h
     .exact h
     .subst hk0;simp at h
   .simp at hc
def aCh {b o n:Nat} {ii:bB} (h:CR w vs ii.flatten) (hl:O vs=n*s) (hc:∀j v,vs[j]? =V v->w.cell? ⟨b,o+j,A⟩=V v) (hn:O ii=n) (hn0:0<n) (hs:0<s) (hu:∀r∈ii,O r=s) (jL:n<=c):
  VA (xB w).get mn (vj w.heap.size (.slice (V ⟨b,o,A⟩) n c)) (.tN e s (O ii) ii)/\MQ (vj w.heap.size (.slice (V ⟨b,o,A⟩) n c))=U:=by
 have N2:0<n*s:=Nat.mul_pos hn0 hs;have hb:∃kw et fz,w.heap[b]? =V (.cells kw et fz):=by
  have h0:=hc 0 (vs[0]' W) am
  unfold World.cell? at h0;split at h0
  .rename_i kw et fz q;exact ⟨kw,et,fz,q⟩
  .simp at h0
 let ⟨kw,et,fz,hb⟩:=hb;have cT:b<w.heap.size:=(pq.1 hb).1;have Ib:∀j v,vs[j]? =V v->kw[o+j]? =V v:=λj v hj=>by
  have:=hc j v hj;unfold World.cell? at this;rw[hb] at this;simpa using this
 have lm:o+n*s<=kw.size:=by
  have h0:=Ib (n*s-1) (vs[n*s-1]' W) am
  have:=(pq.1 h0).1;omega
 have heq:(kw.toList.drop o).take (n*s)=vs:=by
  apply pK;intro j;rw[eO];split
  .rename_i hj;rw[fF];have:=Ib j (vs[j]' W) am
   rw[ng,this];simp
  .rename_i hj;rw[mw W]
 have himg:vj w.heap.size (.slice (V ⟨b,o,A⟩) n c)= .sl b o n (.k c):=by
  show (if n=0 then _ else if b<w.heap.size/\n<=c then SV.sl b o n (.k c) else .undef)=_
  rw[au W,ax ⟨cT,jL⟩]
 have hwin:((kw.toList.map (vj w.heap.size)).drop o).take (n*s)=vs.map (vj w.heap.size):=by
  rw[<-zp,<-uY,heq]
 have hF:jD ((xB w).get b) o (n*s)=V (0,kw.toList.map (vj w.heap.size)):=by
  rw[Lc,hb];show aT (xW (((kw.toList.map (vj w.heap.size)).drop o).take (n*s))) (V (0,kw.toList.map (vj w.heap.size))) A=_;rw[hwin,cx,ax (aiT λj x hx=> ?_)]
  rw[my] at hx;cases hv:vs[j]? with
  |none=>rw[hv] at hx;cases hx
  |some v=>rw[hv] at hx;cases hx;exact h.2 v (bF hv)
 rw[himg];subst hn;exact ⟨.sl rfl hF jL ⟨λh=>(by cases h),λh=>(by cases h)⟩ hu (by simpa using lm) (by rw[hwin];exact h.1),rfl⟩
def ajU {a:G Addr} {F:Hf}:VA F mn (vj nb (.slice a 0 c)) (.tN e s 0 [])/\MQ (vj nb (.slice a 0 c))=U:=by
 have h:vj nb (.slice a 0 c)=if a=A/\c=0 then SV.bY else .sle:=by simp[vj]
 rw[h];split
 .exact ⟨.nil _ _ _,rfl⟩
 .exact ⟨.sle _ _,rfl⟩
def aaQ (hP:∀t,S t=I->Nl P S t=I):∀(n:Nat) (t:Ey) (cs:gn) (x:DataW H×List MemPlace),S t=I->Nu ka P w base spare held n t cs=V x->
  ∃xs,CR w cs xs/\lj P n t xs/\oP xs<=Rows.uptoBulk x.1
 |0,_,_,_,_,h=>by simp[Nu] at h
 |n+1,t,cs,x,cT,h=>by
  have ih:=aaQ hP n;have tn:=hP t cT;unfold Nu at h;unfold Nl at tn;split at h
  .rename_i b hu;simp at h;subst h;exact ⟨[.bool b],.one (.lit (.bool b)) rfl,by simp[lj,hu],by simp[oP,Qz,Rows.uptoBulk]⟩
  .rename_i k k' i hu;split at h
   .rename_i hc;obtain ⟨rfl,hw⟩:=hc;simp at h;subst h;exact ⟨[.int k' i],.one (.lit (.int _ (.lit _))) rfl,by simp[lj,hu,hw],by simp[oP,Qz,Rows.uptoBulk]⟩
   .simp at h
  .rename_i k k' i hu;rw[hu] at tn;cases tn
  .rename_i s hu;split at h
   .rename_i hc;simp at h;subst h;exact ⟨[.str s],.one (.lit (.str _)) rfl,by simp[lj,hu,hc],by simp[oP,Qz,Rows.uptoBulk]⟩
   .simp at h
  .rename_i hu;rw[hu] at tn;cases tn
  .rename_i e a hu;rw[hu] at tn;cases tn
  .rename_i e hu;simp at h;subst h;exact ⟨[.tN e (P.cellsOf e) 0 []],.one (ajU (a:=A) (c:=0)).1 (ajU (F:=λ_=>A) (e:=0) (s:=0)).2,by simp only[lj,hu];exact ⟨[],rfl,λr hr=>by cases hr⟩,by simp[oP,Qz,BH,Rows.uptoBulk]⟩
  .rename_i e a len cap hu;simp only at h;split at h
   .rename_i hc;cases hr:(DO len).mapM λi=>(w.cells? base (a.add (i*P.cellsOf e)) (P.cellsOf e)).bind (Nu ka P w base spare held n e) with
    |none=>simp[hr] at h
    |some ys=>
     simp only[hr,ai,xb] at h;obtain ⟨rest,_,rfl⟩:=h;simp only[hu,bI,lB] at tn;let ⟨he,hs⟩:=tn;have h2:=CE hr;rw[T3] at h2;let ⟨ii,vs,d1,dl,dc,d2,d3,d4,d5⟩:=ac0 n e he a ih hs len 0 ys h2;have key:VA (xB w).get mn (vj w.heap.size (.slice (V a) len cap)) (.tN e (P.cellsOf e) (O ii) ii)/\MQ (vj w.heap.size (.slice (V a) len cap))=U:=by
      by_cases AT:len=0
      .subst AT;rw[wZ d2];exact ajU
      .have hsp:=d5 rfl W
       let ⟨ab,ao,asp⟩:=a;simp at hsp;subst hsp;exact aCh d1 dl (λj v hj=>by have:=dc j v hj;simpa using this) d2 W hs (λr hr=>(d3 r hr).2) hc.2.1
     refine ⟨[.tN e (P.cellsOf e) (O ii) ii],.one key.1 key.2,?_,?_⟩
     .simp only[lj,hu];exact ⟨ii,rfl,λr hr=>(d3 r hr).1⟩
     .simp only[oP,Qz,Rows.uptoBulk];omega
   .simp at h
  .rename_i fs hu;split at h
   .rename_i hl;simp only[xb] at h;obtain ⟨ys,hm,rfl⟩:=h;simp only[hu] at tn;let ⟨tH,d1,d2,d3⟩:=ab6 n ih _ fs.toList 0 _ ys tn hl (CE hm) (rY _);exact ⟨tH.flatten,by simpa using d1,by simp only[lj,hu];exact ⟨tH,rfl,d2⟩,by simp only[Rows.uptoBulk];omega⟩
   .simp at h
  .rename_i m e hu;split at h
   .rename_i hl;simp only[xb] at h;obtain ⟨ys,hm,rfl⟩:=h;simp only[hu,tD,bI] at tn;have h2:=CE hm;rw[T3] at h2;let ⟨tH,d1,d2,d3,d4⟩:=ac3 n e tn.2 ih _ m 0 ys (by rw[hl,tn.1];simp) h2
    exact ⟨tH.flatten,by simpa using d1,by simp only[lj,hu];exact ⟨tH,rfl,d2,d3⟩,by simp only[Rows.uptoBulk];omega⟩
   .simp at h
  all_goals first
   |(rename_i hu;rw[hu] at tn;cases tn;done)
   |(cases h;done)
mutual
def Vh:AV->Prop
 | .lit (.int k (.lit n))=>(Lit.int k n).wf=I
 | .lit (.str s)=>s.size<=maxLen
 | .sl _ _ _ _ ii=>FU ii
 |_=>True
def FU:bB->Prop
 | []=>True
 |r::rs=>Ac r/\FU rs
def Ac:bg->Prop
 | []=>True
 |x::xs=>Vh x/\Ac xs
end
def ajn {ys:bg} (h:Ac xs) (k:Ac ys):Ac (xs++ys):=by
 induction xs with
 |nil=>exact k
 |cons x xs ih=>exact ⟨h.1,ih h.2⟩
def anB {ii:bB} (h:∀r∈ii,Ac r):FU ii:=by
 induction ii with
 |nil=>trivial
 |cons r rs ih=>exact ⟨h r am,ih λx hx=>h x (by simp[hx])⟩
def ab9 {ii:bB} (h:∀r∈ii,Ac r):Ac ii.flatten:=by
 induction ii with
 |nil=>trivial
 |cons r rs ih=>exact ajn (h r am) (ih λx hx=>h x (by simp[hx]))
def afK:∀(n:Nat) (t:Ey) (xs:bg),lj P n t xs->Ac xs
 |0,_,_,h=>h.elim
 |n+1,t,xs,h=>by
  have ih:=afK n;unfold lj at h;split at h
  .obtain ⟨b,rfl⟩:=h;exact ⟨trivial,trivial⟩
  .obtain ⟨b,rfl,hw⟩:=h;exact ⟨hw,trivial⟩
  .obtain ⟨b,rfl,hw⟩:=h;exact ⟨hw,trivial⟩
  .obtain ⟨ii,rfl,hr⟩:=h;exact ⟨anB λr h=>ih _ _ (hr r h),trivial⟩
  .obtain ⟨tH,rfl,h2⟩:=h;exact ab9 λr hr=>by let ⟨f,hf⟩:=aEL h2 hr;exact ih _ _ hf
  .obtain ⟨tH,rfl,_,h2⟩:=h;exact ab9 λr hr=>ih _ _ (h2 r hr)
  .exact h.elim
def aJU {en:Y->bg} {ii:bB} (h:∀r∈ii,∃x,r=en x):∃ys:List Y,ii=ys.map en:=by
 induction ii with
 |nil=>exact ⟨[],rfl⟩
 |cons r rs ih=>
  obtain ⟨y,rfl⟩:=h r am
  obtain ⟨ys,rfl⟩:=ih λx hx=>h x (by simp[hx])
  exact ⟨y::ys,rfl⟩
def AR (ac:World) (P:Y') (v:O') (x:AV):Prop:=VA (xB ac).get mn (R7 ac.heap.size v) x/\VR (gW P ac) v (R7 ac.heap.size v)
def aKV (hP:∀t,S t=I->Nl P S t=I) (ht:S t=I) {d:DataW H} (h:DataW.Trod ka P w base spare held t v d ps) (hv:v.cells.toList= [v]):
  ∃x n,AR w P v x/\lj P n t [x]/\oP [x]<=Rows.uptoBulk d:=by
 let ⟨n,hn⟩:=h;let ⟨xs,h1,h2,h3⟩:=aaQ hP n t _ _ ht hn;rw[hv] at h1;let ⟨h1,hu⟩:=h1;cases h1 with
 |cons hd ht=>
  cases ht;have e:R7 w.heap.size v=vj w.heap.size v:=by
   cases v<;>first|rfl|(have:=hu _ (gy.2 rfl);cases this;done)
  exact ⟨_,n,⟨by rw[e];exact hd,by rw[e];exact aAl v⟩,h2,h3⟩
end
end
end Go.bM
namespace Go.bM
open Go.RowKit Go.ChangeShapes Go.Proofs.YtbnkhmoelnfjoaaGreat
variable {E:Env} {f:FuncId} {fn:Func} {s:ChangeSpec} {tb t:Ey} {ac:World} {before:List MemPlace} {base:Nat} {v:O'}
section
section
variable {H:Type} {ka:Ey×O'->H} {P:Y'}
def aa2 (hl:laidOutB P=I) {ac W':World} {sp:Nat->Bool}:∀{ts:List Ey} {vs:gn} {ds:List (DataW H)} {ps:List MemPlace},
  (∀t∈ts,P.readableRec t=I/\t<P.types.size)->DataW.TrodAll ka P ac 0 (λ_=>I) I ts vs ds ps->Below ac.heap.size ac W'->(∀p∈ps,p.block<ac.heap.size)->(∀p∈ps,sp p.block=I)->
  DataW.TrodAll ka P W' 0 sp I ts vs ds ps
 | [],_,_,_,_,h,_,_,_=>by
  obtain ⟨rfl,rfl,rfl⟩:=trodAll_nil h;exact rfl
 |t::ts,_,_,_,ht,h,hb,cT,hsp=>by
  obtain ⟨v,vs,d,ds,p,q,rfl,rfl,rfl,h1,h2⟩:=trodAll_cons h;refine ⟨p,q,?_,aa2 hl (λt h=>ht t (by simp[h])) h2 hb (λx hx=>cT x (by simp[hx])) (λx hx=>hsp x (by simp[hx])),rfl⟩
  exact WideElems.Trod_stays hl (ht t am).1 (ht t am).2 h1 (λx hx=>hb.same (cT x (by simp[hx]))) (λx hx=>hsp x (by simp[hx]))
def amW {ac:World}:∀{vs:gn} {xs:bg},Am (AR ac P) vs xs->dS (xB ac).get mn (vs.map (R7 ac.heap.size)) xs/\ow (gW P ac) vs (vs.map (R7 ac.heap.size))
 | [],[],_=>⟨.nil,.nil⟩
 |v::vs,x::xs,h=>⟨.cons h.1.1 (amW h.2).1,.cons h.1.2 (amW h.2).2⟩
 | [],_::_,h=>h.elim
 |_::_,[],h=>h.elim
def law_contract [Mo E] (hE:∀ac,fU E (gW E.P ac)) (FI:Yf E (.fn (.func f) [] [])=I) (hl:laidOutB E.P=I) (mU:(fn.params.toList.all λt=>E.P.readableRec t&&A' (t<E.P.types.size))=I) (SS:fn.resultTypes= #[tb]) (htb:E.P.underlying tb=V .bool) (hv:s.vars= []) (Ob:∀ds:List (DataW H),O ds=fn.params.size->s.fn H ds={results:= [.lit (.bool I)],args:=ds}) {ge:jQ} {ds gs:List (DataW H)} (hW:DataW.Whole ka E.P fn.params.toList s.vars U ac ge.toList ds gs before) (asT:∃xs:bg,iE E f [] xs (.bool I) []/\Am (AR ac E.P) ge.toList xs):
  Calls E.P f ge ac λe W'=>∃v,e= .returned v/\s.post ka E.P fn U I U U ac ge v W':=by
 let ⟨xs,hs,h2⟩:=asT;let ⟨k1,k2⟩:=amW h2;have hc:=atN (hE ac) hs FI k1 k2;rw[Array.toArray_toList] at hc;refine hc.mono ?_;rintro e W' ⟨rfl,hb⟩;refine ⟨_,rfl,?_⟩;have hW':=hW;obtain ⟨p,q,hA,hV,rfl,hfz,DI⟩:=hW;rw[hv] at hV;obtain ⟨rfl,rfl⟩:=trodVars_none hV;have qI:O ds=fn.params.size:=by
  have:∀{ts:List Ey} {vs:gn} {ds:List (DataW H)} {ps:List MemPlace},DataW.TrodAll ka E.P ac 0 (λ_=>I) I ts vs ds ps->O ds=O ts:=by
   intro ts;induction ts with
   |nil=>intro vs ds ps h;obtain ⟨rfl,rfl,rfl⟩:=trodAll_nil h;rfl
   |cons t ts ih=>intro vs ds ps h;obtain ⟨v,vs,d,ds,p,q,rfl,rfl,rfl,h1,h2⟩:=trodAll_cons h;simp[ih h2]
  simpa using this hA
 have hf:=Ob (ds++ []) (by simpa using qI)
 have cT:∀x∈p,x.block<ac.heap.size:=λx hx=>hW'.lt x (by simp[hx])
 have htt:∀t∈fn.params.toList,E.P.readableRec t=I/\t<E.P.types.size:=λt ht=>by
  have:=jR.1 mU t ht;simpa using this
 have hold:∀x∈p,(λb=>A' (b<ac.heap.size)) x.block=I:=λx hx=>by simpa using cT x hx
 refine ⟨ds,[],p++ [],[],p,[],hW',?_,?_,?_,hb.frame _,λh=>by cases h⟩
 .rw[hf,SS];exact trodAll_cons_mk (shut_bool htb _) trodAll_mk0
 .rw[hf];simp only[rE];exact aa2 hl htt hA hb cT hold
 .rw[hf,hv];exact rfl
def anq {e:Ey} (hu:P.underlying t=V (.slice e)) (h:Value.okWide P ac .any base t v):v.cells.toList= [v]:=by
 simp only[Value.okWide,hu,Cell.okWide,Cell.ok] at h;split at h<;>first|rfl|(simp_all;done)|(exact h.elim)
end
end
end Go.bM
end
