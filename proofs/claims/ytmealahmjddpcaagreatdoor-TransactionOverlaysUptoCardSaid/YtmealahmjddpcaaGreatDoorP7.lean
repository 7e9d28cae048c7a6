/- Texts that belong together. The first: The runner: ghosts, calls, the operations of an ordered region. -/
import Derived.Test.YtmealahmjddpcaaGreatDoorP6
import Derived.Below
import Derived.Carry
import Derived.OpenShut
import Derived.JoinedCond
import Derived.KernelRfl
set_option linter.all false
noncomputable section
namespace Go.Sim
section
variable {F F':Hf} {g g':Gb} {B:Bs} {φ:Nat->List Nat} {s s' s1:LS} {tm:Tf} {h:Hs} {hp:Hf} {E:Env} {nt:Nat} {all l:List Oper}
theorem DV {α β:Type} (f:Nat->α->β) (t:Nat):∀l:List (Nat×α),lk t (l.map fun p=>(p.1,f p.1 p.2))=(lk t l).map (f t)
 | []=>rfl
 |(k,x)::l=>by
  rw[List.map_cons,aW,aW,DV f t l];split
  ·rename_i e;subst e;rfl
  ·rfl
theorem Rel.aaC (r:Rel B F g φ s tm h) {ft:Nat->AV->AV} {fb:Nat->Bx->Bx} (h0:∀t,ft t .undef= .undef) (h1:∀t v x,VA F g v x->VA F g v (ft t x)) (h2:∀k b fp,cD F g h.hp.get k b fp->cD F g h.hp.get k (fb k b) fp):
  Rel B F g φ ⟨s.ts.map fun p=>(p.1,ft p.1 p.2),s.bs.map fun p=>(p.1,fb p.1 p.2)⟩ tm h:=by
 have back:∀{k b},lk k (s.bs.map fun p=>(p.1,fb p.1 p.2))=some b->∃b0,lk k s.bs=some b0/\fb k b0=b:=fun {k b} hb=>by
  rw[DV] at hb;obtain ⟨b0,c1,c2⟩:=Option.map_eq_some_iff.1 hb;exact ⟨b0,c1,c2⟩
 refine {r with tm:=fun t y hy hn=> ?_,bx:=fun k b hb=> ?_,dj:=fun k k' b b' hb hb'=> ?_,nf:=fun k b hb=> ?_,gJ:=fun k b hb=> ?_}
 ·have hy:lk t (s.ts.map fun p=>(p.1,ft p.1 p.2))=some y:=hy
  rw[DV] at hy;obtain ⟨x,hx,e⟩:=Option.map_eq_some_iff.1 hy;by_cases hu:x= .undef
  ·subst hu;rw[h0] at e;exact absurd e.symm hn
  ·obtain ⟨v,v1,v2⟩:=r.tm t x hx hu;subst e;exact ⟨v,v1,h1 t v x v2⟩
 ·obtain ⟨b0,c1,c2⟩:=back hb;subst c2;exact h2 k b0 _ (r.bx k b0 c1)
 ·obtain ⟨b0,c1,_⟩:=back hb;obtain ⟨b1,d1,_⟩:=back hb';exact r.dj k k' b0 b1 c1 d1
 ·obtain ⟨b0,c1,_⟩:=back hb;exact r.nf k b0 c1
 ·obtain ⟨b0,c1,_⟩:=back hb;exact r.gJ k b0 c1
def kH (K K' k:Nat):Nat:=sel (Nat.beq k K) K' k
theorem DA (K K' k:Nat):kH K K' k=if k=K then K' else k:=by
 unfold kH;rw[aC];by_cases h:k=K
 ·rw[if_pos h,if_pos ((beq_iff _ _).2 h)]
 ·rw[if_neg h,if_neg (fun e=>h ((beq_iff _ _).1 e))]
def LS.ren (s:LS) (K K':Nat):LS:=⟨s.ts.map fun p=>(p.1,jP (kH K K') p.2),s.bs.map fun p=>(kH K K' p.1,p.2.ren (kH K K'))⟩
theorem sX {K K' k:Nat} {b':Bx}:∀{l:List (Nat×Bx)},lk K' l=none->lk k (l.map fun p=>(kH K K' p.1,p.2.ren (kH K K')))=some b'->∃k0 b0,lk k0 l=some b0/\kH K K' k0=k/\k0≠K'/\b'=b0.ren (kH K K')
 | [],_,h=>by cases h
 |(j,x)::l,hn,h=>by
  rw[aW] at hn;rw[List.map_cons,aW] at h;split at hn
  ·cases hn
  ·rename_i hj;split at h
   ·rename_i e;cases h;exact ⟨j,x,by rw[aW,if_pos rfl],e.symm,fun c=>hj c.symm,rfl⟩
   ·rename_i e;obtain ⟨k0,b0,a1,a2,a3,a4⟩:=sX hn h;refine ⟨k0,b0,?_,a2,a3,a4⟩;rw[aW,if_neg (fun c=>e (by rw[<-a2,c])),a1]
theorem df.ren {K K':Nat} (hk:s.free K') (hp:B.pk K=false) (hp':B.pk K'=false) (hn:lk K' s.bs=none):df B s (s.ren K K'):=.mk fun {F g φ tm h} r=>by
 let g2:Gb:=⟨fun k=>if k=K' then g.ρ K else g.ρ k,fun k=>if k=K' then g.κ K else g.κ k,fun k=>if k=K' then g.β K else g.β k⟩
 let φ2:Nat->List Nat:=fun k=>if k=K' then φ K else φ k
 have one:∀k,k≠K'->g2.ρ (kH K K' k)=g.ρ k/\g2.κ (kH K K' k)=g.κ k/\g2.β (kH K K' k)=g.β k:=fun k hk'=>by
  rw[DA];by_cases e:k=K
  ·subst e;rw[if_pos rfl];exact ⟨if_pos rfl,if_pos rfl,if_pos rfl⟩
  ·rw[if_neg e];exact ⟨if_neg hk',if_neg hk',if_neg hk'⟩
 have gr:∀ks:List Nat,K'∉ks->kq g g2 (kH K K') ks:=fun ks hks k hm=>one k (fun e=>hks (e ▸ hm))
 have ph:∀k,k≠K'->φ2 (kH K K' k)=φ k:=fun k hk'=>by
  rw[DA];by_cases e:k=K
  ·subst e;rw[if_pos rfl];exact if_pos rfl
  ·rw[if_neg e];exact if_neg hk'
 refine ⟨F,g2,φ2,{r with tm:=fun t y hy hne=> ?_,bx:=fun k b hb=> ?_,dj:=fun k k' b b' hb hb' hne=> ?_,nf:=fun k b hb=> ?_,gJ:=fun k b hb i hi=> ?_,pin:=fun k hk'=> ?_}⟩
 ·rw[show (s.ren K K').ts=s.ts.map fun p=>(p.1,jP (kH K K') p.2) from rfl,gT] at hy
  obtain ⟨x,hx,e⟩:=Option.map_eq_some_iff.1 hy;by_cases hu:x= .undef
  ·subst hu;exact absurd e.symm hne
  ·obtain ⟨v,v1,v2⟩:=r.tm t x hx hu;subst e;exact ⟨v,v1,v2.ren (gr _ (hk.1 t x hx))⟩
 ·obtain ⟨k0,b0,a1,a2,a3,a4⟩:=sX hn hb;subst a4;have:=(r.bx k0 b0 a1).ren (g':=g2) (f:=kH K K') (gr [k0] (by simpa using fun e=>a3 e.symm)) (gr _ (hk.2 k0 b0 a3 a1))
  rw[<-ph k0 a3,a2] at this;exact this
 ·obtain ⟨k0,b0,a1,a2,a3,a4⟩:=sX hn hb;obtain ⟨k1,b1,c1,c2,c3,c4⟩:=sX hn hb';rw[<-a2,<-c2,ph k0 a3,ph k1 c3];exact r.dj k0 k1 b0 b1 a1 c1 (fun e=>hne (by rw[<-a2,<-c2,e]))
 ·obtain ⟨k0,b0,a1,a2,a3,a4⟩:=sX hn hb;rw[<-a2,ph k0 a3];exact r.nf k0 b0 a1
 ·obtain ⟨k0,b0,a1,a2,a3,a4⟩:=sX hn hb;rw[<-a2,ph k0 a3] at hi;rcases r.gJ k0 b0 a1 i hi with c|c
  ·left;have hkK:k0≠K:=fun e=>by have:=c.1;rw[e,hp] at this;cases this
   rw[<-a2,DA,if_neg hkK];exact c
  ·exact .inr c
 ·have hne:k≠K':=fun e=>by rw[e,hp'] at hk';cases hk'
  intro j hj;have ej:j=k:=by simpa using hj
  subst ej;obtain ⟨a1,a2,a3⟩:=r.pin j hk' j (by simp)
  exact ⟨(if_neg hne).trans a1,(if_neg hne).trans a2,(if_neg hne).trans a3⟩
def uM (K sz:Nat) (x:AV):AV:=match x with| .aU=>.ms K sz 0 0|x=>x
def Si (cs:bt) (k K sz:Nat):Nat->List AV->List AV
 |_,[]=> []
 |i,x::l=>sel (cs.any fun q=>Nat.beq q.1 k&&Nat.beq q.2 i) (uM K sz x) x::Si cs k K sz (i+1) l
def Gz (cs:bt) (K sz k:Nat) (b:Bx):Bx:=match b with| .flat e l=>.flat e (Si cs k K sz 0 l)| .hole e s Q i x=>.hole e s Q i (sel (cs.any fun q=>Nat.beq q.1 k) (uM K sz x) x)| .own e e' s Q o=>.own e e' s Q (DQ (fun x=>sel (cs.any fun q=>Nat.beq q.1 k) (uM K sz x) x) o)|b=>b
def LS.born (s:LS) (ts:List Nat) (cs:bt) (K:Nat) (z:Bool) (e sz:Nat):LS:=
 ⟨s.ts.map fun p=>(p.1,sel (eh p.1 ts) (uM K sz p.2) p.2),(s.set K (.rows z e sz [])).bs.map fun p=>(p.1,Gz cs K sz p.1 p.2)⟩
theorem uL {K sz:Nat} {v:SV} {x:AV} (hb:g.β K=false) (h:VA F g v x):VA F g v (uM K sz x):=by
 unfold uM;split
 ·cases h;exact .msN sz hb
 ·exact h
theorem L8 {cs:bt} {k K sz:Nat} (hb:g.β K=false):∀{xs:List AV} {vs:List SV} {i:Nat},VAs F g vs xs->VAs F g vs (Si cs k K sz i xs)
 | [],_,_,h=>h
 |x::l,_,i,.cons h t=>by
  refine .cons ?_ (L8 hb t);rw[aC];split
  ·exact uL hb h
  ·exact h
theorem Z8 {cs:bt} {K sz k:Nat} {hp:Hf} {b:Bx} {fp:List Nat} (hb:g.β K=false) (q:cD F g hp k b fp):cD F g hp k (Gz cs K sz k b) fp:=by
 unfold Gz;split
 ·cases q with|flat hh q=>exact .flat hh (L8 hb q)
 ·cases q with|hole hb0 hh hu hc q hi hv hx=>
  refine .hole hb0 hh hu hc q hi hv ?_;rw[aC];split
  ·exact uL hb hx
  ·exact hx
 ·cases q with
  |jq hb=>exact .jq hb
  |own hb0 hh hc q nd ho=>
   refine .own hb0 hh hc q nd fun i x e=> ?_
   obtain ⟨y,e1,rfl⟩:=nU e;subst e1;obtain ⟨a,v,b,c⟩:=ho i y rfl;refine ⟨a,v,b,?_⟩;rw[aC];split
   ·exact uL hb c
   ·exact c
 ·exact q
theorem df.born {ts:List Nat} {cs:bt} {K:Nat} {z:Bool} {e sz:Nat} (hk:s.free K) (hp:B.pk K=false):df B s (s.born ts cs K z e sz):=.mk fun {F g φ tm h} r=>by
 let g2:Gb:=⟨g.ρ,g.κ,fun k=>if k=K then false else g.β k⟩
 have hb:g2.β K=false:=if_pos rfl;have r2:=r.chg (K:=K) (b':=.rows z e sz []) (fo:= []) (fp:= []) (g':=g2) (h':=h) (fun i hi=>by cases hi) (fun i hi=>by cases hi) (fun _ _ _=>rfl) (Nat.le_refl _) r.bd (fun x hx=>.inl hx) (.cH hb)
  (.inr ⟨hk,hp,fun k hne j hj=>by
   have:j=k:=by simpa using hj
   subst this;exact ⟨rfl,rfl,if_neg hne⟩⟩)
 refine ⟨F,g2,_,r2.aaC (ft:=fun t x=>sel (eh t ts) (uM K sz x) x) (fb:=fun k b=>Gz cs K sz k b) (fun t=> ?_) (fun t v x hv=> ?_) fun k b fp q=>Z8 hb q⟩
 ·rw[aC];split<;>rfl
 ·rw[aC];split
  ·exact uL hb hv
  ·exact hv
theorem WB.cut {z:Bool} {e:TypeId} {sz u:Nat} {Q:List (List AV)}:WB (.rows z e sz Q) (.rows false e sz (Q.take u)):=fun F g h K fp q=>by
 cases q with
 |cH hb=>rw[List.take_nil];exact .cH hb
 | @rows _ _ _ _ svs hb hh hz hu hc q=>
  have hle:(Q.take u).length<=Q.length:=by rw[List.length_take];exact Nat.min_le_right _ _
  refine .rows hb hh (fun e=>by cases e) (fun r hr=>hu r (List.mem_of_mem_take hr)) ?_ ?_
  ·cases hκ:g.κ K with
   |k m=>rw[hκ] at hc;exact ⟨Nat.le_trans hle hc.1,hc.2⟩
   |u e'=>rw[hκ] at hc;exact ⟨hc.1,Nat.le_trans (Nat.mul_le_mul_right _ hle) hc.2⟩
  ·have:=q.take ((Q.take u).length*sz);rw[List.take_take,Nat.min_eq_left (Nat.mul_le_mul_right _ hle),<-iG hu] at this;have e1:Q.take (Q.take u).length=Q.take u:=by
    rw[List.length_take];by_cases hc:u<=Q.length
    ·rw[Nat.min_eq_left hc]
    ·rw[Nat.min_eq_right (by omega),List.take_length,List.take_of_length_le (by omega)]
   rw[e1] at this;exact this
theorem zf {vs:List SV} {i:Nat} {v:SV} (h:vs[i]? =some v):bF vs i [v]=vs:=by
 obtain ⟨hlt,he⟩:=List.getElem?_eq_some_iff.1 h;show vs.take i++ [v]++vs.drop (i+1)=vs;rw[<-he,List.append_assoc];show vs.take i++(vs[i]::vs.drop (i+1))=vs;rw[<-List.drop_eq_getElem_cons hlt,List.take_append_drop]
theorem WB.opn {z:Bool} {e:TypeId} {j:Nat} {Q:List (List AV)} {x:AV} (hj:Q[j]? =some [x]) (hk:(bV x).isEmpty=true):WB (.rows z e 1 Q) (.hole e 1 (Q.set j [.undef]) (j*1+0) x):=fun F g h K fp q=>by
 have hlt:j<Q.length:=(List.getElem?_eq_some_iff.1 hj).1;cases q with
 |cH hb=>cases hlt
 | @rows _ _ _ _ svs hb hh hz hu hc q=>
  have hfl:Q.flatten[j*1+0]? =some x:=Pm hu hj rfl;have hlen:=eA hc;obtain ⟨v,v1,v2⟩:=q.get hfl;rw[List.getElem?_take,if_pos (by omega)] at v1
  refine .hole (v:=v) hb hh (fun r hr=> ?_) (by rw[List.length_set];exact hc) ?_ (by rw[List.length_set];omega) v1 (v2.fH hk)
  ·rcases List.mem_or_eq_of_mem_set hr with hr|rfl
   ·exact hu r hr
   ·rfl
  ·have e0:Q.set j [.undef]=Q.set j (cq [x] 0 [.undef]):=rfl;rw[List.length_set,e0,nE hu hj (by simp)]
   have hv':(svs.take (Q.length*1))[j*1+0]? =some v:=by rw[List.getElem?_take,if_pos (by omega)];exact v1
   have:=jj q (VAs.one (F:=F) (g:=.no) (.undef v)) (j*1+0);rwa[zf hv'] at this
theorem WB.clo {e:TypeId} {sz j f:Nat} {Q:List (List AV)} {R:List AV} {x:AV} (hj:Q[j]? =some R) (hf:f+1<=sz) (hk:(bV x).isEmpty=true):WB (.hole e sz Q (j*sz+f) x) (.rows false e sz (Q.set j (cq R f [x]))):=fun F g h K fp q=>by
 cases q with
 | @hole _ _ _ _ _ svs v hb hh hu hc q hi hv hx=>
  have hlt:j<Q.length:=(List.getElem?_eq_some_iff.1 hj).1;have hR:R.length=sz:=hu R (List.mem_of_getElem? hj);refine .rows hb hh (fun e=>by cases e) (fun r hr=> ?_) (by rw[List.length_set];exact hc) ?_
  ·rcases List.mem_or_eq_of_mem_set hr with hr|rfl
   ·exact hu r hr
   ·rw[mQ (by simp;omega)];exact hR
  ·rw[List.length_set,nE hu hj (by simpa using hf)]
   have hv':(svs.take (Q.length*sz))[j*sz+f]? =some v:=by rw[List.getElem?_take,if_pos hi];exact hv
   have:=jj q (VAs.one (hx.fH (g':=.no) hk)) (j*sz+f);rwa[zf hv'] at this
theorem Rel.split (r:Rel B F g φ s tm h) {K K2:Nat} {b b1 b2:Bx} {f1 f2:List Nat} (hb:lk K s.bs=some b) (hk:s.free K2) (hp:B.pk K2=false) (hpK:B.pk K=false) (hn:lk K2 s.bs=none) (hg:∀k,k≠K2->fT g g' [k])
  (h1:cD F g' h.hp.get K b1 f1) (h2:cD F g' h.hp.get K2 b2 f2) (s1:∀i∈f1,i∈φ K) (s2:∀i∈f2,i∈φ K) (d:∀i∈f1,i∉f2):Rel B F g' (fun k=>if k=K2 then f2 else if k=K then f1 else φ k) ⟨s.ts,(K2,b2)::(K,b1)::bE K s.bs⟩ tm h:=by
 have hne:K≠K2:=fun e=>by rw[e,hn] at hb;cases hb
 have lks:∀{k c},lk k ((K2,b2)::(K,b1)::bE K s.bs)=some c->(k=K2/\c=b2)\/(k≠K2/\k=K/\c=b1)\/(k≠K2/\k≠K/\lk k s.bs=some c):=fun {k c} hc=>by
  rw[aW,aW,du] at hc;split at hc
  ·cases hc;exact .inl ⟨by assumption,rfl⟩
  ·split at hc
   ·cases hc;exact .inr (.inl ⟨by assumption,by assumption,rfl⟩)
   ·exact .inr (.inr ⟨by assumption,by assumption,hc⟩)
 have gs:∀ks:List Nat,K2∉ks->fT g g' ks:=fun ks hks k hk=>hg k (fun e=>hks (e ▸ hk)) k (by simp)
 have sub:∀{k c},lk k ((K2,b2)::(K,b1)::bE K s.bs)=some c->∀i∈(if k=K2 then f2 else if k=K then f1 else φ k),∃k0 c0,lk k0 s.bs=some c0/\i∈φ k0/\(k0=k\/k0=K):=fun {k c} hc i hi=>by
  rcases lks hc with ⟨e,_⟩|⟨n1,e,_⟩|⟨n1,n2,hc⟩
  ·rw[if_pos e] at hi;exact ⟨K,b,hb,s2 i hi,.inr rfl⟩
  ·rw[if_neg n1,if_pos e] at hi;exact ⟨K,b,hb,s1 i hi,.inr rfl⟩
  ·rw[if_neg n1,if_neg n2] at hi;exact ⟨k,c,hc,hi,.inl rfl⟩
 refine ⟨fun t x hx hnu=> ?_,fun k c hc=> ?_,fun k k' c c' hc hc' hkk i hi=> ?_,fun k c hc i hi=> ?_,r.sub,r.bd,r.nx,r.old,r.f0,r.fn,fun k c hc i hi=> ?_,r.lg,fun k hk'=> ?_⟩
 ·obtain ⟨v,v1,v2⟩:=r.tm t x hx hnu;exact ⟨v,v1,v2.gb (gs _ (hk.1 t x hx))⟩
 ·rcases lks hc with ⟨e,rfl⟩|⟨n1,e,rfl⟩|⟨n1,n2,hc⟩
  ·rw[if_pos e,e];exact h2
  ·rw[if_neg n1,if_pos e,e];exact h1
  ·rw[if_neg n1,if_neg n2];exact (r.bx k c hc).gb (gs _ (by simpa using Ne.symm n1)) (gs _ (hk.2 k c n1 hc))
 ·intro hi';rcases lks hc with ⟨e,_⟩|⟨n1,e,_⟩|⟨n1,n2,hc0⟩<;>rcases lks hc' with ⟨e',_⟩|⟨n1',e',_⟩|⟨n1',n2',Ea⟩
  ·exact hkk (e.trans e'.symm)
  ·rw[if_pos e] at hi;rw[if_neg n1',if_pos e'] at hi';exact d i hi' hi
  ·rw[if_pos e] at hi;rw[if_neg n1',if_neg n2'] at hi';exact r.dj k' K c' b Ea hb n2' i hi' (s2 i hi)
  ·rw[if_neg n1,if_pos e] at hi;rw[if_pos e'] at hi';exact d i hi hi'
  ·exact hkk (e.trans e'.symm)
  ·rw[if_neg n1,if_pos e] at hi;rw[if_neg n1',if_neg n2'] at hi';exact r.dj k' K c' b Ea hb n2' i hi' (s1 i hi)
  ·rw[if_neg n1,if_neg n2] at hi;rw[if_pos e'] at hi';exact r.dj k K c b hc0 hb n2 i hi (s2 i hi')
  ·rw[if_neg n1,if_neg n2] at hi;rw[if_neg n1',if_pos e'] at hi';exact r.dj k K c b hc0 hb n2 i hi (s1 i hi')
  ·rw[if_neg n1,if_neg n2] at hi;rw[if_neg n1',if_neg n2'] at hi';exact r.dj k k' c c' hc0 Ea hkk i hi hi'
 ·obtain ⟨k0,c0,a1,a2,_⟩:=sub hc i hi;exact r.nf k0 c0 a1 i a2
 ·obtain ⟨k0,c0,a1,a2,a3⟩:=sub hc i hi;rcases r.gJ k0 c0 a1 i a2 with c|c
  ·rcases a3 with e|e
   ·subst e;exact .inl c
   ·have:=c.1;rw[e,hpK] at this;cases this
  ·exact .inr c
 ·have ui:k≠K2:=fun e=>by rw[e,hp] at hk';cases hk'
  intro j hj;have ej:j=k:=by simpa using hj
  subst ej;obtain ⟨a1,a2,a3⟩:=r.pin j hk' j (by simp)
  obtain ⟨c1,c2,c3⟩:=hg j ui j (by simp)
  exact ⟨c1.trans a1,c2.trans a2,c3.trans a3⟩
theorem Rel.join (r:Rel B F g φ s tm h) {K K2:Nat} {b b1 b2:Bx} {f1:List Nat} (hb:lk K s.bs=some b) (hb2:lk K2 s.bs=some b2) (hp:B.pk K2=false) (hne:K≠K2) (h1:cD F g h.hp.get K b1 f1) (s1:∀i∈f1,i∈φ K\/i∈φ K2):Rel B F g (fun k=>if k=K then f1 else φ k) ⟨s.ts,(K,b1)::bE K (bE K2 s.bs)⟩ tm h:=by
 have lks:∀{k c},lk k ((K,b1)::bE K (bE K2 s.bs))=some c->(k=K/\c=b1)\/(k≠K/\k≠K2/\lk k s.bs=some c):=fun {k c} hc=>by
  rw[aW,du,du] at hc;split at hc
  ·cases hc;exact .inl ⟨by assumption,rfl⟩
  ·split at hc
   ·cases hc
   ·exact .inr ⟨by assumption,by assumption,hc⟩
 have dis:∀{k c},k≠K->k≠K2->lk k s.bs=some c->∀i∈φ k,i∉f1:=fun {k c} n1 n2 hc i hi hf=>by
  rcases s1 i hf with h|h
  ·exact r.dj k K c b hc hb n1 i hi h
  ·exact r.dj k K2 c b2 hc hb2 n2 i hi h
 refine {r with bx:=fun k c hc=> ?_,dj:=fun k k' c c' hc hc' hkk i hi=> ?_,nf:=fun k c hc i hi=> ?_,gJ:=fun k c hc i hi=> ?_}
 ·rcases lks hc with ⟨e,rfl⟩|⟨n1,n2,hc⟩
  ·rw[if_pos e,e];exact h1
  ·rw[if_neg n1];exact r.bx k c hc
 ·intro hi';rcases lks hc with ⟨e,_⟩|⟨n1,n2,hc0⟩<;>rcases lks hc' with ⟨e',_⟩|⟨n1',n2',Ea⟩
  ·exact hkk (e.trans e'.symm)
  ·rw[if_pos e] at hi;rw[if_neg n1'] at hi';exact dis n1' n2' Ea i hi' hi
  ·rw[if_neg n1] at hi;rw[if_pos e'] at hi';exact dis n1 n2 hc0 i hi hi'
  ·rw[if_neg n1] at hi;rw[if_neg n1'] at hi';exact r.dj k k' c c' hc0 Ea hkk i hi hi'
 ·rcases lks hc with ⟨e,rfl⟩|⟨n1,n2,hc⟩
  ·rw[if_pos e] at hi;exact (s1 i hi).elim (r.nf K b hb i) (r.nf K2 b2 hb2 i)
  ·rw[if_neg n1] at hi;exact r.nf k c hc i hi
 ·rcases lks hc with ⟨e,rfl⟩|⟨n1,n2,hc⟩
  ·rw[if_pos e] at hi;rcases s1 i hi with h|h
   ·rw[e];exact r.gJ K b hb i h
   ·rcases r.gJ K2 b2 hb2 i h with c|c
    ·have:=c.1;rw[hp] at this;cases this
    ·exact .inr c
  ·rw[if_neg n1] at hi;exact r.gJ k c hc i hi
theorem EZ {hp:Hf} {e:TypeId} {sz:Nat}:∀(n:Nat) {vs:List SV},VAs F .no vs (List.replicate n (AV.sln e sz []))->gB F hp e sz vs (List.replicate n (some [])) (List.replicate n [])
 |0,_,.nil=>.nil
 |n+1,_,.cons h t=>by
  refine .cons ?_ (EZ n t);cases h with
  |mR=>exact .nil
  |sln hF hc hn hz=>exact absurd rfl hz
theorem zq {x:AV}:∀n:Nat,(List.replicate n [x]).flatten=List.replicate n x
 |0=>rfl
 |n+1=>by rw[List.replicate_succ,List.flatten_cons,zq n,List.replicate_succ];rfl
theorem WB.aid {z:Bool} {e e':TypeId} {sz n:Nat}:WB (.rows z e 1 (List.replicate n [.sln e' sz []])) (.own e e' sz (List.replicate n (some [])) none):=fun F g h K fp q=>by
 generalize hQ:List.replicate n [AV.sln e' sz []]=Q at q;cases q with
 |cH hb=>
  have:n=0:=by have:=congrArg List.length hQ;rwa[List.length_replicate] at this
  subst this;exact .jq hb
 |rows hb hh hz hu hc q=>
  subst hQ;rw[List.length_replicate] at hc q;rw[zq,Nat.mul_one] at q;have key:=cD.own (F:=F) (g:=g) (h:=h) (K:=K) (Q:=List.replicate n (some [])) (o:=none) hb hh (by rw[List.length_replicate];exact hc) (by rw[List.length_replicate];exact EZ n q) (by simp) (fun i x e=>by cases e)
  rw[show g.ρ K::(List.replicate n ([]:List Nat)).flatten= [g.ρ K] by simp] at key
  exact key
theorem gB.at {hp:Hf} {e:TypeId} {sz:Nat}:∀{vs:List SV} {Q:List (Option (List (List AV)))} {fs:List (List Nat)} {j:Nat} {R:Option (List (List AV))},gB F hp e sz vs Q fs->Q[j]? =some R->fs.flatten.Nodup->∃v f,vs[j]? =some v/\su F hp e sz v R f/\(∀i∈f,i∈fs.flatten)/\gB F hp e sz vs (Q.set j none) (fs.set j [])/\(∀i∈(fs.set j []).flatten,i∈fs.flatten/\i∉f)/\(fs.set j []).flatten.Nodup/\f.Nodup
 |_,_,_,j,R,.nil,h,_=>by cases h
 |_,_,_,0,R,@gB.cons _ _ _ _ v q f vs Qs fs hq t,h,nd=>by
  simp only[List.getElem?_cons_zero,Option.some.injEq] at h;subst h;rw[List.flatten_cons] at nd;obtain ⟨n1,n2,n3⟩:=List.nodup_append.1 nd;refine ⟨v,f,rfl,hq,fun i hi=>by rw[List.flatten_cons];exact List.mem_append_left _ hi,.cons (.any v) t,fun i hi=> ?_,?_,n1⟩
  ·have hi:i∈fs.flatten:=by simpa using hi
   exact ⟨by rw[List.flatten_cons];exact List.mem_append_right _ hi,fun hf=>n3 i hf i hi rfl⟩
  ·simpa using n2
 |_,_,_,j+1,R,@gB.cons _ _ _ _ v0 q0 f0 vs Qs fs hq t,h,nd=>by
  rw[List.flatten_cons] at nd;obtain ⟨n1,n2,n3⟩:=List.nodup_append.1 nd;obtain ⟨v,f,a1,a2,a3,a4,a5,a6,a7⟩:=t.at (by simpa using h) n2
  refine ⟨v,f,by simpa using a1,a2,fun i hi=>by rw[List.flatten_cons];exact List.mem_append_right _ (a3 i hi),.cons hq a4,fun i hi=> ?_,?_,a7⟩
  ·rw[List.set_cons_succ,List.flatten_cons] at hi;rcases List.mem_append.1 hi with hi|hi
   ·exact ⟨by rw[List.flatten_cons];exact List.mem_append_left _ hi,fun hf=>n3 i hi i (a3 i hf) rfl⟩
   ·exact ⟨by rw[List.flatten_cons];exact List.mem_append_right _ (a5 i hi).1,(a5 i hi).2⟩
  ·rw[List.set_cons_succ,List.flatten_cons];exact List.nodup_append.2 ⟨n1,a6,fun i hi i' hi' e=>n3 i hi i' (a5 i' hi').1 e⟩
theorem gB.put {hp:Hf} {e:TypeId} {sz:Nat}:∀{vs:List SV} {Q:List (Option (List (List AV)))} {fs:List (List Nat)} {j:Nat} {v:SV} {R:Option (List (List AV))} {f:List Nat},gB F hp e sz vs Q fs->Q[j]? =some none->vs[j]? =some v->su F hp e sz v R f->fs.flatten.Nodup->f.Nodup->(∀i∈f,i∉fs.flatten)->∃fs',gB F hp e sz vs (Q.set j R) fs'/\(∀i∈fs'.flatten,i∈fs.flatten\/i∈f)/\fs'.flatten.Nodup
 |_,_,_,j,_,_,_,.nil,h,_,_,_,_,_=>by cases h
 |_,_,_,0,v,R,f,@gB.cons _ _ _ _ v0 q0 f0 vs Qs fs hq t,h,hv,hc,nd,nf,hd=>by
  simp only[List.getElem?_cons_zero,Option.some.injEq] at h hv;subst h;subst hv;cases hq;have hd:∀i∈f,i∉fs.flatten:=fun i hi=>by simpa using hd i hi
  refine ⟨f::fs,.cons hc t,fun i hi=> ?_,?_⟩
  ·rw[List.flatten_cons] at hi;rcases List.mem_append.1 hi with hi|hi
   ·exact .inr hi
   ·exact .inl (by simpa using hi)
  ·rw[List.flatten_cons];exact List.nodup_append.2 ⟨nf,by simpa using nd,fun i hi i' hi' e=>hd i hi (e ▸ hi')⟩
 |_,_,_,j+1,v,R,f,@gB.cons _ _ _ _ v0 q0 f0 vs Qs fs hq t,h,hv,hc,nd,nf,hd=>by
  rw[List.flatten_cons] at nd;obtain ⟨n1,n2,n3⟩:=List.nodup_append.1 nd;obtain ⟨fs',a1,a2,a3⟩:=t.put (by simpa using h) (by simpa using hv) hc n2 nf (fun i hi=>fun hf=>hd i hi (by rw[List.flatten_cons];exact List.mem_append_right _ hf))
  refine ⟨f0::fs',.cons hq a1,fun i hi=> ?_,?_⟩
  ·rw[List.flatten_cons] at hi ⊢;rcases List.mem_append.1 hi with hi|hi
   ·exact .inl (List.mem_append_left _ hi)
   ·exact (a2 i hi).imp (List.mem_append_right _) fun x=>x
  ·rw[List.flatten_cons];refine List.nodup_append.2 ⟨n1,a3,fun i hi i' hi' e=> ?_⟩
   subst e;rcases a2 i hi' with h|h
   ·exact n3 i hi i h rfl
   ·exact hd i h (by rw[List.flatten_cons];exact List.mem_append_left _ hi)
theorem afG {K sz n:Nat} {c:Cp} (h1:g.β K=true) (h2:g.κ K=c):VA F g (.sl (g.ρ K) 0 n c) (.ms K sz 0 n):=aaA h1 h2
theorem df.r7 {K K2 j:Nat} {e e':TypeId} {sz:Nat} {Q:List (Option (List (List AV)))} {R:List (List AV)} (hb:lk K s.bs=some (.own e e' sz Q none)) (hj:Q[j]? =some (some R)) (hk:s.free K2) (hp:B.pk K2=false) (hpK:B.pk K=false) (hn:lk K2 s.bs=none):
  df B s ⟨s.ts,(K2,.rows false e' sz R)::(K,.own e e' sz (Q.set j none) (some (j*1+0,.ms K2 sz 0 R.length)))::bE K s.bs⟩:=.mk fun {F g φ tm h} r=>by
 have hne:K≠K2:=fun e=>by rw[e,hn] at hb;cases hb
 have q:=r.bx K _ hb;generalize hfp:φ K=fp at q;have hjl:j<Q.length:=(List.getElem?_eq_some_iff.1 hj).1;cases q with
 |jq=>cases hj
 | @own _ _ _ _ _ svs fs hb0 hh hc q nd ho=>
  obtain ⟨nd1,nd2⟩:=List.nodup_cons.1 nd;obtain ⟨v,f,a1,a2,a3,a4,a5,a6,a7⟩:=q.at hj nd2;rw[List.getElem?_take,if_pos hjl] at a1;let id:=f.headD 0;let c:Cp:=Ak v;let g2:Gb:=⟨fun k=>if k=K2 then id else g.ρ k,fun k=>if k=K2 then c else g.κ k,fun k=>if k=K2 then !f.isEmpty else g.β k⟩
  have g2o:∀k,k≠K2->fT g g2 [k]:=fun k hk j hj=>by
   have:j≠K2:=by rw[show j=k by simpa using hj];exact hk
   exact ⟨if_neg this,if_neg this,if_neg this⟩
  obtain ⟨k1,k2,k3⟩:=g2o K hne K (by simp)
  have e2:g2.β K2= !f.isEmpty:=if_pos rfl;have e3:g2.ρ K2=id:=if_pos rfl;have e4:g2.κ K2=c:=if_pos rfl;have hx:cD F g2 h.hp.get K2 (.rows false e' sz R) f/\VA F g2 v (.ms K2 sz 0 R.length):=by
   cases a2 with
   |nil=>exact ⟨.cH e2,.msN sz e2⟩
   | @sl i0 c0 svs _ hh hu hc q=>
    have e3:g2.ρ K2=i0:=e3;have e4:g2.κ K2=c0:=e4;have key:=cD.rows (F:=F) (g:=g2) (h:=h.hp.get) (K:=K2) (z:=false) e2 (by rw[e3];exact hh) (fun e=>by cases e) hu (by rw[e4];exact hc) q
    have bO:=afG (F:=F) (g:=g2) (K:=K2) (sz:=sz) (n:=R.length) e2 e4;rw[e3] at key bO;exact ⟨key,bO⟩
  refine ⟨F,g2,_,r.split (b1:=.own e e' sz (Q.set j none) (some (j*1+0,.ms K2 sz 0 R.length))) (b2:=.rows false e' sz R) (f1:=g.ρ K::(fs.set j []).flatten) (f2:=f) hb hk hp hpK hn g2o ?_ hx.1 (fun i hi=> ?_) (fun i hi=> ?_) fun i hi=> ?_⟩
  ·rw[<-k1];refine .own (k3.trans hb0) (by rw[k1];exact hh) (by rw[List.length_set,k2];exact hc) (by rw[List.length_set];exact a4) ?_ fun i x e=> ?_
   ·rw[k1];exact List.nodup_cons.2 ⟨fun hi=>nd1 (a5 _ hi).1,a6⟩
   ·cases e;exact ⟨by rw[Nat.mul_one,Nat.add_zero,List.getElem?_set_self hjl],v,by rw[Nat.mul_one,Nat.add_zero];exact a1,hx.2⟩
  ·rw[hfp];rcases List.mem_cons.1 hi with e|hi
   ·rw[e];exact List.mem_cons_self
   ·exact List.mem_cons_of_mem _ (a5 i hi).1
  ·rw[hfp];exact List.mem_cons_of_mem _ (a3 i hi)
  ·rcases List.mem_cons.1 hi with e|hi
   ·rw[e];exact fun hf=>nd1 (a3 _ hf)
   ·exact (a5 i hi).2
theorem Z7 {hp:Hf} {K:Nat} {z:Bool} {e:TypeId} {sz:Nat} {R:List (List AV)} {f:List Nat} (q:cD F g hp K (.rows z e sz R) f):f.Nodup:=by
 cases q<;>simp
theorem df.tX {K K2 j:Nat} {z:Bool} {e e':TypeId} {sz:Nat} {Q:List (Option (List (List AV)))} {R:List (List AV)} (hb:lk K s.bs=some (.own e e' sz Q (some (j*1+0,.ms K2 sz 0 R.length)))) (hb2:lk K2 s.bs=some (.rows z e' sz R)) (hp:B.pk K2=false) (hne:K≠K2):
  df B s ⟨(s.cZ K2).ts,(K,.own e e' sz (Q.set j (some R)) none)::bE K (bE K2 (s.cZ K2).bs)⟩:=.mk fun {F g φ tm h} r=>by
 have q:=r.bx K _ hb;have q2:=r.bx K2 _ hb2;have hdj:=r.dj K K2 _ _ hb hb2 hne;have r':=Ab r K2;generalize hfp:φ K=fp at q;cases q with
 | @own _ _ _ _ _ svs fs hb0 hh hc q nd ho=>
  obtain ⟨nd1,nd2⟩:=List.nodup_cons.1 nd;obtain ⟨hQ,v,hv,hx⟩:=ho _ _ rfl;rw[Nat.mul_one,Nat.add_zero] at hQ hv;have hjl:j<Q.length:=(List.getElem?_eq_some_iff.1 hQ).1;have mv:su F h.hp.get e' sz v (some R) (φ K2):=by
   generalize φ K2=f2 at q2;cases q2 with
   |cH hb1=>cases hx with|msN=>exact .nil|ms _ _ _ hb3=>rw[hb1] at hb3;cases hb3|msE _ _ hl=>cases hl
   |rows hb1 hh1 hz hu hc1 q1=>
    generalize hm:R.length=m at hx;cases hx with
    |msN _ hb3=>rw[hb1] at hb3;cases hb3
    |msE _ _ hl=>cases hl
    |ms _ _ _ hb3=>
     subst hm;rw[Nat.zero_mul];refine .sl hh1 hu ?_ q1;cases hκ:g.κ K2<;>rw[hκ] at hc1<;>exact hc1
  have hd:∀i∈φ K2,i∉g.ρ K::fs.flatten:=fun i hi hf=>hdj i (by rw[hfp];exact hf) hi
  obtain ⟨fs',a1,a2,a3⟩:=q.put hQ (by rw[List.getElem?_take,if_pos hjl];exact hv) mv nd2 (Z7 q2) fun i hi hf=>hd i hi (List.mem_cons_of_mem _ hf)
  have lf:∀{k b},lk k s.bs=some b->lk k (s.cZ K2).bs=some (b.cZ K2):=fun {k b} hb=>by
   rw[show (s.cZ K2).bs=s.bs.map fun p=>(p.1,p.2.cZ K2) from rfl,gT,hb];rfl
  refine ⟨F,g,_,r'.join (b1:=.own e e' sz (Q.set j (some R)) none) (f1:=g.ρ K::fs'.flatten) (lf hb) (lf hb2) hp hne ?_ fun i hi=> ?_⟩
  ·refine .own hb0 hh (by rw[List.length_set];exact hc) (by rw[List.length_set];exact a1) (List.nodup_cons.2 ⟨fun hi=> ?_,a3⟩) fun i x e=>by cases e
   rcases a2 _ hi with h|h
   ·exact nd1 h
   ·exact hd _ h List.mem_cons_self
  ·rw[hfp];rcases List.mem_cons.1 hi with e|hi
   ·rw[e];exact .inl List.mem_cons_self
   ·rcases a2 i hi with h|h
    ·exact .inl (List.mem_cons_of_mem _ h)
    ·exact .inr h
def aax {α:Type} (l:List (Nat×α)):List (Nat×α):=match l with| []=> []|p::l=>p::bE p.1 l
theorem KJ {α:Type} (k:Nat) (l:List (Nat×α)):lk k (aax l)=lk k l:=by
 cases l with
 |nil=>rfl
 |cons p l=>
  show lk k ((p.1,p.2)::bE p.1 l)=lk k ((p.1,p.2)::l);rw[aW,aW,du];split
  ·rfl
  ·rfl
def QO {α:Type}:List (Nat×α)->List (Nat×α)
 | []=> []
 |p::l=>p::bE p.1 (QO l)
theorem DU {α:Type} (k:Nat):∀l:List (Nat×α),lk k (QO l)=lk k l
 | []=>rfl
 |p::l=>by
  show lk k ((p.1,p.2)::bE p.1 (QO l))=lk k ((p.1,p.2)::l);rw[aW,aW,du,DU k l];split
  ·rfl
  ·rfl
def LS.tidy (s:LS):LS:=⟨aax s.ts,QO s.bs⟩
theorem kQ.F3 (h1:∀t,lk t s'.ts=lk t s.ts) (h2:∀k,lk k s'.bs=lk k s.bs):kQ s s':=⟨fun t y hy=>.inr ⟨y,by rw[<-h1];exact hy,WV.refl y⟩,fun k b hb=>⟨b,by rw[<-h2];exact hb,WB.refl b⟩⟩
theorem LS.qS:kQ s s.tidy:=kQ.F3 (fun t=>KJ t _) fun k=>DU k _
def zQ (N:Nat×Nat):List (Nat×Nat)->Option (List Ob)
 | []=>some []
 |q::l=>sel (Nat.beq q.1 N.1) (aj (zQ N l) fun o=>some (obN q.2 N.2::o)) none
theorem DJ {N:Nat×Nat}:∀{l:List (Nat×Nat)} {o:List Ob},zQ N l=some o->cz o->∀q∈l,q=N
 | [],_,_,_,q,hq=>by cases hq
 |p::l,o,h,ho,q,hq=>by
  obtain ⟨h1,h⟩:=ar (show sel (Nat.beq p.1 N.1) (aj (zQ N l) fun o=>some (obN p.2 N.2::o)) none=some o from h)
  obtain ⟨o',h2,h⟩:=af h;cases h;rcases List.mem_cons.1 hq with e|hq
  ·subst e;have e1:q.1=N.1:=(beq_iff _ _).1 h1;have e2:=ee ho.1;exact Prod.ext e1 e2
  ·exact DJ h2 ho.2 q hq
def getM {α:Type} (d:α) (t:Nat) (l:List (Nat×α)):α:= @Option.rec α (fun _=>α) d (fun x=>x) (lk t l)
def LS.norm (s:LS) (ts:List (Nat×PM)) (bs:List (Nat×PB)):LS:=⟨s.ts.map fun p=>(p.1,(getM (.one .same) p.1 ts).app p.2),s.bs.map fun p=>(p.1,(getM .same p.1 bs).app p.2)⟩
theorem PM.FB (m:PM):m.app .undef= .undef:=by
 cases m with
 |one m=>cases m<;>rfl
 |agg ms=>rfl
theorem df.norm {ts:List (Nat×PM)} {bs:List (Nat×PB)}:df B s (s.norm ts bs):=.mk fun {F g φ tm h} r=>⟨F,g,φ,r.aaC (ft:=fun t x=>(getM (PM.one P1.same) t ts).app x) (fb:=fun k b=>(getM PB.same k bs).app b) (fun t=>PM.FB _) (fun t v x hv=>PM.va _ hv) fun k b fp q=>PB.wb _ b _ _ _ _ _ q⟩
def Gg (E:Env) (pks:List Nat) (s:LS) (it:It E):Option (LS×List Ob):=
 match it with
 | @It.frz _ Q n K _=>aj (lk K s.bs) fun b=>(match b with
  | .rows z e sz Q'=>sel (!eh K pks) (aj (zQ (sz,n) (zP K s.ts++r8 K s.bs)) fun o=>some (s.frz K (sel z (.sln e sz Q) (.slice e sz Q)) (fun _=>.undef),obR Q' Q::o)) none
  |_=>none)
 | .ren K K'=>sel (iF pks s K'&&((lk K' s.bs).isNone && !eh K pks)) (some (s.ren K K',[])) none
 | @It.shr _ Q P u K _=>aj (lk K s.bs) fun b=>(match b with
  | .rows _ e sz Q'=>some (⟨s.ts,(K,.rows false e sz P)::bE K s.bs⟩,[obR Q' Q])
  |_=>none)
 | @It.opn _ Q j x Q' K _ _=>aj (lk K s.bs) fun b=>(match b with
  | .rows _ e sz Q0=>sel (bV x).isEmpty (some (⟨s.ts,(K,.hole e 1 Q' (Nat.add (Nat.mul j 1) 0) x)::bE K s.bs⟩,[obR Q0 Q,obN sz 1])) none
  |_=>none)
 | @It.clo _ Q j R f x Q' K _ _=>aj (lk K s.bs) fun b=>(match b with
  | .hole e sz Q0 i0 x0=>sel ((bV x0).isEmpty&&Nat.ble (Nat.add f 1) sz) (some (⟨s.ts,(K,.rows false e sz Q')::bE K s.bs⟩,[obR Q0 Q,(.loc 0 i0,.loc 0 (Nat.add (Nat.mul j sz) f)),(x0,x)])) none
  |_=>none)
 | @It.DE _ Q P K e' s' _=>aj (lk K s.bs) fun b=>(match b with
  | .rows _ e sz Q0=>some (⟨s.ts,(K,.own e e' s' P none)::bE K s.bs⟩,[obR Q0 Q,obN sz 1])
  |_=>none)
 | @It.r7 _ Q j R n Q' K K2 _ _ _=>aj (lk K s.bs) fun b=>(match b with
  | .own e e' sz Q0 none=>sel (iF pks s K2&&((lk K2 s.bs).isNone && !eh K pks)) (some (⟨s.ts,(K2,.rows false e' sz R)::(K,.own e e' sz Q' (some (Nat.add (Nat.mul j 1) 0,.ms K2 sz 0 n)))::bE K s.bs⟩,[obO Q0 Q])) none
  |_=>none)
 | @It.tX _ Q j R n Q' K K2 _ _=>aG (lk K s.bs) (lk K2 s.bs) fun b b2=>(match b,b2 with
  | .own e e' sz Q0 (some p),.rows _ e2 s2 R0=>sel (Nat.beq e2 e'&&(Nat.beq s2 sz&&(!Nat.beq K K2 && !eh K2 pks))) (some (⟨(s.cZ K2).ts,(K,.own e e' sz Q' none)::bE K (bE K2 (s.cZ K2).bs)⟩,[obO Q0 Q,obR R0 R,(p.2,.ms K2 sz 0 n),(.loc 0 p.1,.loc 0 (Nat.add (Nat.mul j 1) 0))])) none
  |_,_=>none)
 | @It.DI _ Q P n x K e' s' _ _=>aj (lk K s.bs) fun b=>(match b with
  | .own e e2 s2 Q0 none=>sel (!eh K pks&&(Nat.beq e2 e'&&Nat.beq s2 s')) (aj (zQ (1,n) (zP K s.ts++r8 K s.bs)) fun o=>some (s.frz K (.slice e 1 P) (fun _=>.undef),obO Q0 Q::o)) none
  |_=>none)
 | .born ts cs K z e sz=>sel (iF pks s K) (some (s.born ts cs K z e sz,[])) none
 | .norm ts bs=>some (s.norm ts bs,[])
 | @It.seq _ x y t _=>aj (lk t s.ts) fun x'=>some (⟨(t,y)::bE t s.ts,s.bs⟩,[(x',x)])
 | @It.beq _ x y K _=>aj (lk K s.bs) fun x'=>some (⟨s.ts,(K,y)::bE K s.bs⟩,[(bxA x',bxA x)])
 |_=>none
theorem Zw {pks:List Nat} {it:It E} {p:LS×List Ob} (hB:BOK pks B) (h:Gg E pks s it=some p) (ho:cz p.2):df B s p.1:=by
 cases it with
 | @frz Q n K hQ=>
  subst hQ;obtain ⟨b,h1,h⟩:=af (show aj (lk K s.bs) (fun b=>(match b with
   | .rows z e sz Q'=>sel (!eh K pks) (aj (zQ (sz,Q.length) (zP K s.ts++r8 K s.bs)) fun o=>some (s.frz K (sel z (.sln e sz Q) (.slice e sz Q)) (fun _=>.undef),obR Q' Q::o)) none
   |_=>none))=some p from h)
  split at h
  ·rename_i z e sz Q';obtain ⟨h2,h⟩:=ar h;obtain ⟨o,h3,h⟩:=af h;cases h;obtain ⟨o1,o2⟩:=ho;have e1:=eF o1;subst e1;refine .mk fun {F g φ tm h} r=> ?_
   have ed:(sel z (.sln e sz Q') (.slice e sz Q'):AV)=uv (.rows z e sz Q'):=by cases z<;>rfl
   obtain ⟨F',_,r'⟩:=r.frz (K:=K) (b:=.rows z e sz Q') (D:=uv (.rows z e sz Q')) (L:=frzL (.rows z e sz Q')) (sz:=sz) (m:=Q'.length) h1 (hB K (by simpa using h2)) (DJ h3 o2) fun F' hF hi q=>td hF rfl hi q
   refine ⟨F',g,φ,?_⟩;rw[ed];exact r'
  ·cases h
 |ren K K'=>
  obtain ⟨h1,h⟩:=ar (show sel (iF pks s K'&&((lk K' s.bs).isNone && !eh K pks)) (some (s.ren K K',[])) none=some p from h);cases h;simp only[Bool.and_eq_true] at h1;obtain ⟨k1,k2,k3⟩:=h1;obtain ⟨f1,f2⟩:=kh hB k1;exact df.ren f1 (hB K (by simpa using k3)) f2 (by simpa using k2)
 | @shr Q P u K hP=>
  subst hP;obtain ⟨b,h1,h⟩:=af (show aj (lk K s.bs) (fun b=>(match b with
   | .rows _ e sz Q'=>some (⟨s.ts,(K,.rows false e sz (Q.take u))::bE K s.bs⟩,[obR Q' Q])
   |_=>none))=some p from h)
  split at h
  ·rename_i z e sz Q';cases h;have e1:=eF ho.1;subst e1;refine df.less ⟨fun t y hy=>.inr ⟨y,hy,WV.refl y⟩,fun k c hc=> ?_⟩
   have hc:lk k ((K,Bx.rows false e sz (Q'.take u))::bE K s.bs)=some c:=hc;rw[aW,du] at hc;split at hc
   ·rename_i e;cases hc;exact ⟨_,e ▸ h1,WB.cut⟩
   ·exact ⟨c,hc,WB.refl c⟩
  ·cases h
 | @opn Q j x Q' K hj hQ=>
  subst hQ;obtain ⟨b,h1,h⟩:=af (show aj (lk K s.bs) (fun b=>(match b with
   | .rows _ e sz Q0=>sel (bV x).isEmpty (some (⟨s.ts,(K,.hole e 1 (Q.set j [.undef]) (Nat.add (Nat.mul j 1) 0) x)::bE K s.bs⟩,[obR Q0 Q,obN sz 1])) none
   |_=>none))=some p from h)
  split at h
  ·rename_i z e sz Q0;obtain ⟨h2,h⟩:=ar h;cases h;obtain ⟨o1,o2,_⟩:=ho;have e1:=eF o1;have e2:=ee o2;subst e1;subst e2;refine df.less ⟨fun t y hy=>.inr ⟨y,hy,WV.refl y⟩,fun k c hc=> ?_⟩
   have hc:lk k ((K,Bx.hole e 1 (Q0.set j [.undef]) (Nat.add (Nat.mul j 1) 0) x)::bE K s.bs)=some c:=hc;rw[aW,du] at hc;split at hc
   ·rename_i e;cases hc;exact ⟨_,e ▸ h1,WB.opn hj h2⟩
   ·exact ⟨c,hc,WB.refl c⟩
  ·cases h
 | @clo Q j R f x Q' K hj hQ=>
  subst hQ;obtain ⟨b,h1,h⟩:=af (show aj (lk K s.bs) (fun b=>(match b with
   | .hole e sz Q0 i0 x0=>sel ((bV x0).isEmpty&&Nat.ble (Nat.add f 1) sz) (some (⟨s.ts,(K,.rows false e sz (Q.set j (cq R f [x])))::bE K s.bs⟩,[obR Q0 Q,(.loc 0 i0,.loc 0 (Nat.add (Nat.mul j sz) f)),(x0,x)])) none
   |_=>none))=some p from h)
  split at h
  ·rename_i e sz Q0 i0 x0;obtain ⟨h2,h⟩:=ar h;cases h;obtain ⟨o1,o2,o3,_⟩:=ho;have e1:=eF o1;injection o2 with _ o2
   have o3:x0=x:=o3;rw[Bool.and_eq_true] at h2;subst e1;subst o2;subst o3;refine df.less ⟨fun t y hy=>.inr ⟨y,hy,WV.refl y⟩,fun k c hc=> ?_⟩
   have hc:lk k ((K,Bx.rows false e sz (Q0.set j (cq R f [x0])))::bE K s.bs)=some c:=hc;rw[aW,du] at hc;split at hc
   ·rename_i e;cases hc;exact ⟨_,e ▸ h1,WB.clo hj (Nat.le_of_ble_eq_true h2.2) h2.1⟩
   ·exact ⟨c,hc,WB.refl c⟩
  ·cases h
 | @DE Q P K e' s' hQ=>
  obtain ⟨b,h1,h⟩:=af (show aj (lk K s.bs) (fun b=>(match b with
   | .rows _ e sz Q0=>some (⟨s.ts,(K,.own e e' s' P none)::bE K s.bs⟩,[obR Q0 Q,obN sz 1])
   |_=>none))=some p from h)
  split at h
  ·rename_i z e sz Q0;cases h;obtain ⟨o1,o2,_⟩:=ho;have e1:=eF o1;have e2:=ee o2;subst e1;subst e2;obtain ⟨n,rfl,rfl⟩:=hQ;refine df.less ⟨fun t y hy=>.inr ⟨y,hy,WV.refl y⟩,fun k c hc=> ?_⟩
   have hc:lk k ((K,Bx.own e e' s' (List.replicate n (some [])) none)::bE K s.bs)=some c:=hc;rw[aW,du] at hc;split at hc
   ·rename_i e;cases hc;exact ⟨_,e ▸ h1,WB.aid⟩
   ·exact ⟨c,hc,WB.refl c⟩
  ·cases h
 | @r7 Q j R n Q' K K2 hj hn hQ=>
  subst hn;subst hQ;obtain ⟨b,h1,h⟩:=af (show aj (lk K s.bs) (fun b=>(match b with
   | .own e e' sz Q0 none=>sel (iF pks s K2&&((lk K2 s.bs).isNone && !eh K pks)) (some (⟨s.ts,(K2,.rows false e' sz R)::(K,.own e e' sz (Q.set j none) (some (Nat.add (Nat.mul j 1) 0,.ms K2 sz 0 R.length)))::bE K s.bs⟩,[obO Q0 Q])) none
   |_=>none))=some p from h)
  split at h
  ·rename_i e e' sz Q0;obtain ⟨h2,h⟩:=ar h;cases h;have e1:=KB ho.1;subst e1;rw[Bool.and_eq_true,Bool.and_eq_true] at h2;obtain ⟨f1,f2⟩:=kh hB h2.1;exact df.r7 h1 hj f1 f2 (hB K (by simpa using h2.2.2)) (by simpa using h2.2.1)
  ·cases h
 | @tX Q j R n Q' K K2 hn hQ=>
  subst hn;subst hQ;obtain ⟨b,b2,h1,h2,h⟩:=az (show aG (lk K s.bs) (lk K2 s.bs) (fun b b2=>(match b,b2 with
   | .own e e' sz Q0 (some p),.rows _ e2 s2 R0=>sel (Nat.beq e2 e'&&(Nat.beq s2 sz&&(!Nat.beq K K2 && !eh K2 pks))) (some (⟨(s.cZ K2).ts,(K,.own e e' sz (Q.set j (some R)) none)::bE K (bE K2 (s.cZ K2).bs)⟩,[obO Q0 Q,obR R0 R,(p.2,.ms K2 sz 0 R.length),(.loc 0 p.1,.loc 0 (Nat.add (Nat.mul j 1) 0))])) none
   |_,_=>none))=some p from h)
  split at h
  ·rename_i e e' sz Q0 q z e2 s2 R0;obtain ⟨h3,h⟩:=ar h;cases h;obtain ⟨o1,o2,o3,o4,_⟩:=ho;have e1:=KB o1;have e3:=eF o2;obtain ⟨q1,q2⟩:=q;have o3:q2= .ms K2 sz 0 R.length:=o3;injection o4 with _ o4
   have o4:q1=Nat.add (Nat.mul j 1) 0:=o4;simp only[Bool.and_eq_true] at h3;obtain ⟨k1,k2,k3,k4⟩:=h3;have k1:=(beq_iff _ _).1 k1;have k2:=(beq_iff _ _).1 k2;subst e1;subst e3;subst o3;subst o4;subst k1;subst k2;exact df.tX h1 h2 (hB K2 (by simpa using k4)) (fun e=>by rw[(beq_iff _ _).2 e] at k3;cases k3)
  ·cases h
 | @DI Q P n x K e' s' hP hn=>
  subst hP;subst hn;obtain ⟨b,h1,h⟩:=af (show aj (lk K s.bs) (fun b=>(match b with
   | .own e e2 s2 Q0 none=>sel (!eh K pks&&(Nat.beq e2 e'&&Nat.beq s2 s')) (aj (zQ (1,Q.length) (zP K s.ts++r8 K s.bs)) fun o=>some (s.frz K (.slice e 1 (Q.map (zM x e' s'))) (fun _=>.undef),obO Q0 Q::o)) none
   |_=>none))=some p from h)
  split at h
  ·rename_i e e2 s2 Q0;obtain ⟨h2,h⟩:=ar h;obtain ⟨o,h3,h⟩:=af h;cases h;obtain ⟨o1,o2⟩:=ho;have e1:=KB o1;rw[Bool.and_eq_true,Bool.and_eq_true] at h2;have k1:=(beq_iff _ _).1 h2.2.1;have k2:=(beq_iff _ _).1 h2.2.2;subst e1;subst k1;subst k2;refine .mk fun {F g φ tm h} r=> ?_
   obtain ⟨F',_,r'⟩:=r.frz (K:=K) (b:=.own e e2 s2 Q0 none) (D:=Ed x (.own e e2 s2 Q0 none)) (L:=fun _=>.undef) (sz:=1) (m:=Q0.length) h1 (hB K (by simpa using h2.1)) (DJ h3 o2) fun F' hF hi q=>⟨hF,(td hF rfl hi q).ms,fun v off _=>.undef v⟩
   exact ⟨F',g,φ,r'⟩
  ·cases h
 |born ts cs K z e sz=>
  obtain ⟨h1,h⟩:=ar (show sel (iF pks s K) (some (s.born ts cs K z e sz,[])) none=some p from h);cases h;obtain ⟨f1,f2⟩:=kh hB h1;exact df.born f1 f2
 |norm ts bs=>cases h;exact df.norm
 | @seq x y t he=>
  obtain ⟨x',h1,h⟩:=af (show aj (lk t s.ts) (fun x'=>some (⟨(t,y)::bE t s.ts,s.bs⟩,[(x',x)]))=some p from h)
  cases h;have e1:x'=x:=ho.1;subst he;subst e1;refine df.less (kQ.F3 (fun k=> ?_) fun _=>rfl)
  show lk k ((t,x')::bE t s.ts)=_;rw[aW,du];split
  ·rename_i e;rw[e,h1]
  ·rfl
 | @beq x y K he=>
  obtain ⟨x',h1,h⟩:=af (show aj (lk K s.bs) (fun x'=>some (⟨s.ts,(K,y)::bE K s.bs⟩,[(bxA x',bxA x)]))=some p from h)
  cases h;have e1:x'=x:=B6 ho.1;subst he;subst e1;refine df.less (kQ.F3 (fun _=>rfl) fun k=> ?_)
  show lk k ((K,x')::bE K s.bs)=_;rw[aW,du];split
  ·rename_i e;rw[e,h1]
  ·rfl
 |_=>cases h
abbrev Sc (E:Env):=List (Nat×It E)
def gho (E:Env) (pks:List Nat):Sc E->LS->List Ob->LS×List Ob×Sc E
 | [],s,o=>(s,o,[])
 |p::l,s,o=>match p.1 with
  |0=>(match Gg E pks s p.2 with
   |some q=>gho E pks l q.1 (q.2++o)
   |none=>(s,o,p::l))
  |_+1=>(s,o,p::l)
theorem wu {pks:List Nat} (hB:BOK pks B):∀(sc:Sc E) (s:LS) (o:List Ob),cz (gho E pks sc s o).2.1->cz o/\df B s (gho E pks sc s o).1
 | [],s,o,ho=>⟨ho,df.refl⟩
 |(0,it)::l,s,o,ho=>by
  have e:gho E pks ((0,it)::l) s o=(match Gg E pks s it with
   |some q=>gho E pks l q.1 (q.2++o)
   |none=>(s,o,(0,it)::l)):=rfl
  rw[e] at ho ⊢;cases hq:Gg E pks s it with
  |some q=>
   rw[hq] at ho;obtain ⟨h1,h2⟩:=wu hB l q.1 (q.2++o) ho;obtain ⟨h3,h4⟩:=jk h1;exact ⟨h4,(Zw hB hq h3).trans h2⟩
  |none=>
   rw[hq] at ho;exact ⟨ho,df.refl⟩
 |(k+1,it)::l,s,o,ho=>⟨ho,df.refl⟩
def QN:List (Nat×Bx)->List (Nat×Bx)->Option (List Ob)
 | [],[]=>some []
 |p::l,q::m=>sel (Nat.beq p.1 q.1) (aj (QN l m) fun o=>some ((bxA p.2,bxA q.2)::o)) none
 |_,_=>none
theorem Pe:∀{l m:List (Nat×Bx)} {o:List Ob},QN l m=some o->cz o->l=m
 | [],[],_,_,_=>rfl
 | [],_::_,_,h,_=>by cases h
 |_::_,[],_,h,_=>by cases h
 |p::l,q::m,o,h,ho=>by
  obtain ⟨h1,h⟩:=ar (show sel (Nat.beq p.1 q.1) (aj (QN l m) fun o=>some ((bxA p.2,bxA q.2)::o)) none=some o from h)
  obtain ⟨o',h2,h⟩:=af h;cases h;have e1:p.1=q.1:=(beq_iff _ _).1 h1;have e2:p.2=q.2:=B6 ho.1;rw[Pe h2 ho.2,Prod.ext e1 e2]
def Qr (pks:List Nat) (s:LS):bt->Bool
 | []=>true
 |q::l=>iF pks s q.1&&((lk q.1 s.bs).isNone&&Qr pks s l)
theorem OC {pks:List Nat} (hB:BOK pks B):∀{rs:bt},Qr pks s rs=true->∀q∈rs,s.free q.1/\B.pk q.1=false/\lk q.1 s.bs=none
 | [],_,q,hq=>by cases hq
 |p::l,h,q,hq=>by
  have h:(iF pks s p.1&&((lk p.1 s.bs).isNone&&Qr pks s l))=true:=h;rw[Bool.and_eq_true,Bool.and_eq_true] at h;rcases List.mem_cons.1 hq with e|hq
  ·subst e;obtain ⟨f1,f2⟩:=kh hB h.1;exact ⟨f1,f2,by simpa using h.2.1⟩
  ·exact OC hB h.2.2 q hq
def Gy (pks:List Nat) (s:LS) (op:Op) (f:Nat) (bs bs':List (Nat×Bx)) (xs:List AV) (y:AV) (ms:List PM) (ps rs:bt):Option (List (Nat×Bx)×AV×List Ob):=
 aj (dB op) fun c=>(match c.callee with
  | .value o=>(match aL s.ts o with
   | .fn f' fi ca=>sel (Nat.beq f' f&&(eQ (fO s.ts c.args.toList)&&(oW (ps++rs)&&(oS s.bs ps ps&&(eT ps (cQ (fi++fO s.ts c.args.toList++ca))&&(Qr pks s rs&&(oQ bs' (ps++rs) (ps++rs)&&eT (jR (ps++rs)) (bV y))))))))
    (aG (oN s.bs (ps++rs) ps) (tW bs' (ps++rs) (ps++rs)) fun b ob=>aj (QN b bs) fun o=>some (ob,jP (foP (ps++rs)) y,(.agg (GC ms (g7 (fiP (ps++rs)) (fi++fO s.ts c.args.toList++ca))),.agg xs)::o)) none
   |_=>none)
  |_=>none)
theorem B4 {pks:List Nat} {op:Op} {f:Nat} {bs bs':List (Nat×Bx)} {xs:List AV} {y:AV} {ms:List PM} {ps rs:bt} {q:List (Nat×Bx)×AV×List Ob} (hB:BOK pks B) (h:Gy pks s op f bs bs' xs y ms ps rs=some q) (ho:cz q.2.2) (hC:aZ E f bs xs y bs'):
  ∃c o fi ca,dB op=some c/\c.callee= .value o/\aL s.ts o= .fn f fi ca/\eQ (fO s.ts c.args.toList)=true/\oW (ps++rs)=true/\oN s.bs (ps++rs) ps=some bs/\oS s.bs ps ps=true/\eT ps (cQ (fi++fO s.ts c.args.toList++ca))=true/\(∀q∈rs,s.free q.1/\B.pk q.1=false/\lk q.1 s.bs=none)/\
   aZ E f bs (g7 (fiP (ps++rs)) (fi++fO s.ts c.args.toList++ca)) y bs'/\tW bs' (ps++rs) (ps++rs)=some q.1/\oQ bs' (ps++rs) (ps++rs)=true/\eT (jR (ps++rs)) (bV y)=true/\q.2.1=jP (foP (ps++rs)) y:=by
 unfold Gy at h;obtain ⟨c,h1,h⟩:=af h;split at h
 ·rename_i o hc;split at h
  ·rename_i f' fi ca hf;obtain ⟨h2,h⟩:=ar h;obtain ⟨b,ob,h3,h4,h⟩:=az h;obtain ⟨o',h5,h⟩:=af h;cases h;simp only[Bool.and_eq_true] at h2;obtain ⟨k1,k2,k3,k4,k5,k6,k7,k8⟩:=h2;have e1:f'=f:=(beq_iff _ _).1 k1;subst e1;obtain ⟨o1,o2⟩:=ho;have e2:=Pe h5 o2;subst e2;have e3:GC ms (g7 (fiP (ps++rs)) (fi++fO s.ts c.args.toList++ca))=xs:=by
    have:=o1;simpa using this
   exact ⟨c,o,fi,ca,h1,hc,hf,k2,k3,h3,k4,k5,OC hB k6,.mk fun ent has=>hC.go ent (e3 ▸ Mk has),h4,k7,k8,rfl⟩
  ·cases h
 ·cases h
abbrev nj (E:Env):=Option (LS×List Ob×Sc E)
def zH (E:Env) (pks:List Nat) (p:Oper) (s:LS) (sc:Sc E) (o:List Ob) (ih:LS->Sc E->List Ob->nj E):nj E:=
 sel (sT p.op) (aj (nR E pks s p.op p.dst) fun r=>ih (r.1.bB p.dst r.2.1).tidy sc (r.2.2.2++o)) none
def Dx (E:Env) (pks:List Nat) (p:Oper) (s:LS) (it:It E) (sc:Sc E) (o:List Ob) (ih:LS->Sc E->List Ob->nj E):nj E:=
 match it with
 | @It.call _ f bs bs' xs y _ ms ps rs=>aj (Gy pks s p.op f bs bs' xs y ms ps rs) fun q=>ih (LS.bB ⟨s.ts,q.1++s.bs⟩ p.dst q.2.1).tidy sc (q.2.2++o)
 |it=>sel (sT p.op) (aj (Qi E pks s p.op p.dst it) fun r=>ih (r.1.bB p.dst r.2.1).tidy sc (r.2.2.2++o)) none
def OB (E:Env) (pks:List Nat) (p:Oper) (s:LS) (sc:Sc E) (o:List Ob) (ih:LS->Sc E->List Ob->nj E):nj E:=
 match sc with
 | []=>zH E pks p s [] o ih
 |q::l=>(match q.1 with
  |0=>Dx E pks p s q.2 l o ih
  |k+1=>zH E pks p s ((k,q.2)::l) o ih)
def Qp (E:Env) (nt:Nat) (pks:List Nat) (all:List Oper) (p:Oper) (ih:LS->Sc E->List Ob->nj E) (q:LS×List Ob×Sc E):nj E:=
 sel (cK nt p.dst) (aj (jo all p q.1.ts) fun w=>sel w (OB E pks p q.1 q.2.2 q.2.1 ih) (ih (q.1.bB p.dst (.tup [])).tidy q.2.2 q.2.1)) none
def JR (E:Env) (nt:Nat) (pks:List Nat) (all:List Oper):List Oper->LS->Sc E->List Ob->nj E
 | []=>fun s sc o=>some (s,o,sc)
 |p::l=>fun s sc o=>Qp E nt pks all p (JR E nt pks all l) (gho E pks sc s o)
def Cf (E:Env) (nt:Nat) (B:Bs) (all l:List Oper) (ih:LS->Sc E->List Ob->nj E):Prop:=
 ∀s sc o r,ih s sc o=some r->cz r.2.1->cz o/\gN E nt B all l s r.1
theorem zg {pks:List Nat} {p:Oper} {sc:Sc E} {o:List Ob} {ih:LS->Sc E->List Ob->nj E} {r:LS×List Ob×Sc E} (hB:BOK pks B) (hih:Cf E nt B all l ih) (hd:cK nt p.dst=true) (hw:jo all p s.ts=some true) (h:zH E pks p s sc o ih=some r) (ho:cz r.2.1):cz o/\gN E nt B all (p::l) s r.1:=by
 obtain ⟨h1,h⟩:=ar h;obtain ⟨q,h2,h⟩:=af h;obtain ⟨k1,k2⟩:=hih _ _ _ _ h ho;obtain ⟨k3,k4⟩:=jk k1;exact ⟨k4,.op hd hw h1 (qX hB h2 k3) (.ghost (df.less LS.qS) k2)⟩
theorem Qq {pks:List Nat} {p:Oper} {it:It E} {sc:Sc E} {o:List Ob} {ih:LS->Sc E->List Ob->nj E} {r:LS×List Ob×Sc E} (hB:BOK pks B) (hih:Cf E nt B all l ih) (hd:cK nt p.dst=true) (hw:jo all p s.ts=some true) (h:Dx E pks p s it sc o ih=some r) (ho:cz r.2.1):cz o/\gN E nt B all (p::l) s r.1:=by
 unfold Dx at h;split at h
 ·rename_i f bs bs' xs y hC ms ps rs;obtain ⟨q,h2,h⟩:=af h;obtain ⟨k1,k2⟩:=hih _ _ _ _ h ho;obtain ⟨k3,k4⟩:=jk k1;obtain ⟨c,w,fi,ca,c1,c2,c3,c4,c5,c6,c7,c8,c9,c10,c11,c12,c13,c14⟩:=B4 hB h2 k3 hC;exact ⟨k4,.call hd hw c1 c2 c3 rfl c4 c5 c6 c7 c8 c9 c10 c11 c12 c13 (.ghost (df.less LS.qS) (c14 ▸ k2))⟩
 ·obtain ⟨h1,h⟩:=ar h;obtain ⟨q,h2,h⟩:=af h;obtain ⟨k1,k2⟩:=hih _ _ _ _ h ho;obtain ⟨k3,k4⟩:=jk k1;exact ⟨k4,.op hd hw h1 (Iw hB h2 k3) (.ghost (df.less LS.qS) k2)⟩
theorem Yk {pks:List Nat} {p:Oper} {ih:LS->Sc E->List Ob->nj E} (hB:BOK pks B) (hih:Cf E nt B all l ih):Cf E nt B all (p::l) (fun s sc o=>Qp E nt pks all p ih (gho E pks sc s o)):=by
 intro s sc o r h ho;have key:∀q:LS×List Ob×Sc E,Qp E nt pks all p ih q=some r->cz q.2.1/\gN E nt B all (p::l) q.1 r.1:=fun q h=>by
  obtain ⟨hd,h⟩:=ar h;obtain ⟨w,hw,h⟩:=af h;rw[aC] at h;split at h
  ·rename_i e;subst e;unfold OB at h;split at h
   ·exact zg hB hih hd hw h ho
   ·split at h
    ·exact Qq hB hih hd hw h ho
    ·exact zg hB hih hd hw h ho
  ·rename_i e;have e:w=false:=by simpa using e
   subst e;obtain ⟨k1,k2⟩:=hih _ _ _ _ h ho;exact ⟨k1,.skip hd hw (.ghost (df.less LS.qS) k2)⟩
 obtain ⟨k1,k2⟩:=key _ h;obtain ⟨k3,k4⟩:=wu hB sc s o k1;exact ⟨k3,.ghost k4 k2⟩
theorem ER {pks:List Nat} (hB:BOK pks B):∀l:List Oper,Cf E nt B all l (JR E nt pks all l)
 | []=>fun s sc o r h ho=>by
  have h:some (s,o,sc)=some r:=h;cases h;exact ⟨ho,.nil⟩
 |p::l=>Yk hB (ER hB l)
end
section
variable {F F':Hf} {g g':Gb} {B:Bs} {φ:Nat->List Nat} {s s' s1:LS} {tm:Tr SV} {h:Hs} {hp:Hf} {E:Env} {nt:Nat}
variable {W cur nc M:Nat} {vs vs':List LS} {laid:bt} {pis:List PI} {all l:List Oper} {o:Oper}
theorem DR.same {base:Nat} {pp:List (Rc×PI)} {Fs:Nat->Hf} {lim:Nat->Nat} {tm:Tf} (D:DR B base W cur nc vs laid pp g φ Fs lim tm h) (hl:vs'.length=vs.length) (hs:∀(j:Nat) (s':LS),vs'[j]? =some s'->∃s,vs[j]? =some s/\(∀t,lk t s'.ts=lk t s.ts)/\∀k,lk k s'.bs=lk k s.bs):DR B base W cur nc vs' laid pp g φ Fs lim tm h:=by
 refine {D with r:=fun j s hj=> ?_,up:=fun j j' s s' hle h1 h2=> ?_,fb:=fun j s hj=> ?_,bb:=fun j s hj k b hb=> ?_,lm:=fun j s hj=> ?_,top:=hl.trans D.top,pi:=fun q hq=> ?_,pr:=fun q hq j s hj k b hb=> ?_,pf:=fun q hq i hi j s hj=> ?_}
 ·obtain ⟨s0,a,b,c⟩:=hs j s hj;exact (D.r j s0 a).less (kQ.F3 b c)
 ·obtain ⟨s0,a,b,c⟩:=hs j s h1;obtain ⟨s0',a',b',c'⟩:=hs j' s' h2;obtain ⟨u1,u2⟩:=D.up j j' s0 s0' hle a a';exact ⟨u1,fun k b0 hb=>by rw[c'];exact u2 k b0 (by rw[<-c];exact hb)⟩
 ·obtain ⟨s0,a,_,_⟩:=hs j s hj;exact D.fb j s0 a
 ·obtain ⟨s0,a,_,c⟩:=hs j s hj;exact D.bb j s0 a k b (by rw[<-c];exact hb)
 ·obtain ⟨s0,a,_,_⟩:=hs j s hj;exact D.lm j s0 a
 ·obtain ⟨p1,p2,p3,p4,p5⟩:=D.pi q hq;refine ⟨p1,p2,p3,p4,fun hn=> ?_⟩
  obtain ⟨q1,q2,q3,q4⟩:=p5 hn;refine ⟨q1,q2,q3,fun j s hj hlt=> ?_⟩
  obtain ⟨s0,a,_,_⟩:=hs j s hj;exact q4 j s0 a hlt
 ·obtain ⟨s0,a,_,c⟩:=hs j s hj;exact D.pr q hq j s0 a k b (by rw[<-c];exact hb)
 ·obtain ⟨s0,a,_,_⟩:=hs j s hj;exact D.pf q hq i hi j s0 a
theorem dC.tidy (hl:dC E nt B all W cur nc M (vs.map LS.tidy) laid pis l s'):dC E nt B all W cur nc M vs laid pis l s':=fun {base pp g φ Fs lim tm h} hp D=>hl hp (D.same (List.length_map _) fun j s' hj=>by
 rw[List.getElem?_map] at hj;obtain ⟨s0,a,b⟩:=Option.map_eq_some_iff.1 hj;subst b;exact ⟨s0,a,fun t=>KJ t _,fun k=>DU k _⟩)
structure Dsx where
 cur:Nat
 nc:Nat
 M:Nat
 vs:List LS
 laid:bt
 pis:List PI
def qn (m nc:Nat):List PI->Nat
 | []=>nc
 |p::l=>sel (eu m p.i) (qn m nc l) (match p.n with|0=>qn m nc l|n+1=>sel (Nat.ble n (qn m nc l)) n (qn m nc l))
def Bi (a b:List Nat):Bool:=a.all fun k=> !eh k b
def BF (v m:Nat) (rk wk:List Nat) (call wn:Bool) (p:PI):Bool:=
 sel (eu m p.i) true ((Nat.beq p.n 0||(Nat.ble (Nat.succ v) p.n&&(!call&&wn)))&&((!call||p.wn)&&(Bi wk p.rk&&(Bi wk p.wk&&Bi rk p.wk))))
theorem vT {a b:List Nat} (h:Bi a b=true):∀k∈a,k∉b:=fun k hk hb=>by
 have:=List.all_eq_true.1 h k hk;rw[(lI k b).2 hb] at this;cases this
theorem Fb {v m:Nat} {rk wk:List Nat} {call wn:Bool} {p:PI} (h:BF v m rk wk call wn p=true):yS v m rk wk call wn p:=by
 unfold BF at h;rw[aC] at h;split at h
 ·rename_i hb;exact .inl hb
 ·right;simp only[Bool.and_eq_true,Bool.or_eq_true,Bool.not_eq_true'] at h;obtain ⟨h1,h2,h3,h4,h5⟩:=h;refine ⟨fun hn=> ?_,fun hc=> ?_,fun k hk=>⟨vT h3 k hk,vT h4 k hk⟩,vT h5⟩
  ·rcases h1 with h1|⟨h1,h6,h7⟩
   ·exact absurd ((beq_iff _ _).1 h1) hn
   ·exact ⟨Nat.le_of_ble_eq_true h1,h6,h7⟩
  ·rcases h2 with h2|h2
   ·rw[hc] at h2;cases h2
   ·exact h2
def laidB (m:Nat) (ks:List Nat) (laid:bt):Bool:=laid.all fun q=> !eh q.1 ks||eu m q.2
theorem KN {m:Nat} {ks:List Nat} {laid:bt} (h:laidB m ks laid=true):∀k j,k∈ks->(k,j)∈laid->eu m j=true:=fun k j hk hj=>by
 have:=List.all_eq_true.1 h (k,j) hj;simp only[Bool.or_eq_true,Bool.not_eq_true'] at this;rcases this with c|c
 ·rw[(lI k ks).2 hk] at c;cases c
 ·exact c
def wkB (a b:WK):Bool:=
 match a,b with
 |none,none=>true
 |some p,some q=>Nat.beq p.1 q.1&&(p.2==q.2)
 |_,_=>false
theorem afm {a b:WK} (h:wkB a b=true):a=b:=by
 unfold wkB at h;split at h
 ·rfl
 ·rw[Bool.and_eq_true] at h;have e1:=(beq_iff _ _).1 h.1;have e2:=beq_iff_eq.1 h.2;rw[Prod.ext e1 e2]
 ·cases h
def DP (f:LS->Option Res) (x:AV) (Wk:WK) (d:Option Nat):List LS->Nat->Option (List LS×List Ob)
 | []=>fun _=>some ([],[])
 |s::l=>fun v=>(match v with
  |0=>aG (f s) (DP f x Wk d l 0) fun r q=>sel (wkB r.2.2.1 Wk) (some (r.1.bB d x::q.1,(r.2.1,x)::(r.2.2.2++q.2))) none
  |v+1=>aj (DP f x Wk d l v) fun q=>some ((s.oT Wk).bB d .undef::q.1,q.2))
theorem DO {op:Op} {f:LS->Option Res} {x:AV} {Wk:WK} {d:Option Nat} (hf:∀s r,f s=some r->eX E B op s r):∀{vs:List LS} {v:Nat} {q:List LS×List Ob},DP f x Wk d vs v=some q->cz q.2->q.1.length=vs.length/\(∀(j:Nat) (s:LS),vs[j]? =some s->v<=j->∃t,q.1[j]? =some (t.bB d x)/\aP E B op s t x Wk)/\∀(j:Nat) (s:LS),vs[j]? =some s->j<v->q.1[j]? =some ((s.oT Wk).bB d .undef)
 | [],v,q,h,_=>by
  have h:some ([],[])=some q:=h;cases h;exact ⟨rfl,fun j s hj=>by simp at hj,fun j s hj=>by simp at hj⟩
 |s::l,0,q,h,ho=>by
  obtain ⟨r,q',h1,h2,h⟩:=az (show aG (f s) (DP f x Wk d l 0) (fun r q=>sel (wkB r.2.2.1 Wk) (some (r.1.bB d x::q.1,(r.2.1,x)::(r.2.2.2++q.2))) none)=some q from h)
  obtain ⟨h3,h⟩:=ar h;cases h;obtain ⟨o1,o2⟩:=ho;obtain ⟨o3,o4⟩:=jk o2;obtain ⟨i1,i2,i3⟩:=DO hf h2 o4;refine ⟨by simp[i1],fun j s' hj hle=> ?_,fun j s' hj hlt=>by omega⟩
  cases j with
  |zero=>
   have e:s=s':=by simpa using hj
   subst e;refine ⟨r.1,rfl,?_⟩;have:=hf s r h1 o3;have e1:r.2.1=x:=o1;rw[e1,afm h3] at this;exact this
  |succ j=>exact i2 j s' (by simpa using hj) (Nat.zero_le _)
 |s::l,v+1,q,h,ho=>by
  obtain ⟨q',h2,h⟩:=af (show aj (DP f x Wk d l v) (fun q=>some ((s.oT Wk).bB d .undef::q.1,q.2))=some q from h)
  cases h;obtain ⟨i1,i2,i3⟩:=DO hf h2 ho;refine ⟨by simp[i1],fun j s' hj hle=> ?_,fun j s' hj hlt=> ?_⟩
  ·cases j with
   |zero=>omega
   |succ j=>exact i2 j s' (by simpa using hj) (by omega)
  ·cases j with
   |zero=>
    have e:s=s':=by simpa using hj
    subst e;rfl
   |succ j=>exact i3 j s' (by simpa using hj) (by omega)
abbrev kS (E:Env):=Option (LS×List Ob×Sc E)
def R6 (W:Nat) (o:Oper) (d:Dsx) (sc:Sc E) (ob:List Ob) (f:LS->Option Res) (ih:Dsx->Sc E->List Ob->kS E):kS E:=
 aj (d.vs[qn (cE W d.M o) d.nc d.pis]?) fun sl=>aG (f sl) (s9 sl.ts sl.bs o.op) fun r rk=>
  sel (laidB (cE W d.M o) (rk++la r.2.2.1) d.laid&&d.pis.all (BF (qn (cE W d.M o) d.nc d.pis) (cE W d.M o) rk (la r.2.2.1) false (vu r.2.2.1)))
   (aj (DP f r.2.1 r.2.2.1 o.dst d.vs (qn (cE W d.M o) d.nc d.pis)) fun q=>ih ⟨Nat.succ d.cur,d.nc,mi W d.M d.cur (cE W d.M o),q.1.map LS.tidy,Ga r.2.2.1 d.cur d.laid,⟨d.cur,0,rk,la r.2.2.1,vu r.2.2.1⟩::d.pis⟩ sc (q.2++ob)) none
def R4 (E:Env) (pks:List Nat) (W:Nat) (o:Oper) (d:Dsx) (st:LS) (it:It E) (sc:Sc E) (ob:List Ob) (ih:Dsx->Sc E->List Ob->kS E):kS E:=
 match it with
 | @It.call _ f bs bs' xs y _ ms ps rs=>sel (laidB (cE W d.M o) (ps.map (·.1)) d.laid&&d.pis.all (BF d.nc (cE W d.M o) [] (ps.map (·.1)) true false))
   (aj (Gy pks st o.op f bs bs' xs y ms ps rs) fun q=>ih ⟨Nat.succ d.cur,Nat.succ d.nc,mi W d.M d.cur (cE W d.M o),((d.vs.map fun s=>(s.oU ps rs).bB o.dst .undef)++ [LS.bB ⟨st.ts,q.1++st.bs⟩ o.dst q.2.1]).map LS.tidy,d.laid,⟨d.cur,Nat.succ d.nc,[],ps.map (·.1),false⟩::d.pis⟩ sc (q.2.2++ob)) none
 |it=>sel (dB o.op).isNone (R6 W o d sc ob (fun s=>Qi E pks s o.op o.dst it) ih) none
def R2 (E:Env) (pks:List Nat) (W:Nat) (o:Oper) (d:Dsx) (sc:Sc E) (ob:List Ob) (ih:Dsx->Sc E->List Ob->kS E):kS E:=sel (dB o.op).isNone (R6 W o d sc ob (fun s=>nR E pks s o.op o.dst) ih) none
def ady (E:Env) (pks:List Nat) (W:Nat) (o:Oper) (d:Dsx) (st:LS) (sc:Sc E) (ob:List Ob) (ih:Dsx->Sc E->List Ob->kS E):kS E:=
 match sc with
 | []=>R2 E pks W o d [] ob ih
 |q::l=>(match q.1 with
  |0=>R4 E pks W o d st q.2 l ob ih
  |k+1=>R2 E pks W o d ((k,q.2)::l) ob ih)
def adz (E:Env) (nt:Nat) (pks:List Nat) (all:List Oper) (W:Nat) (o:Oper) (d:Dsx) (sc:Sc E) (ob:List Ob) (ih:Dsx->Sc E->List Ob->kS E):kS E:=
 sel (Nat.ble (Nat.succ d.cur) W&&(cK nt o.dst&&gq d.cur (dN o))) (aj (d.vs[d.nc]?) fun st=>aj (jo all o st.ts) fun w=>
  sel w (ady E pks W o d st sc ob ih) (ih ⟨Nat.succ d.cur,d.nc,mi W d.M d.cur (cE W d.M o),(d.vs.map fun s=>s.bB o.dst (.tup [])).map LS.tidy,d.laid,⟨d.cur,0,[],[],true⟩::d.pis⟩ sc ob)) none
def Eo (E:Env) (nt:Nat) (pks:List Nat) (all:List Oper) (W:Nat):List Oper->Dsx->Sc E->List Ob->kS E
 | []=>fun d sc ob=>aj (d.vs[d.nc]?) fun s=>some (s,ob,sc)
 |o::l=>fun d sc ob=>adz E nt pks all W o d sc ob (Eo E nt pks all W l)
def tD (E:Env) (nt:Nat) (B:Bs) (all:List Oper) (W:Nat) (l:List Oper) (ih:Dsx->Sc E->List Ob->kS E):Prop:=
 ∀d sc o r,ih d sc o=some r->cz r.2.1->cz o/\dC E nt B all W d.cur d.nc d.M d.vs d.laid d.pis l r.1
theorem LW {f:LS->Option Res} {d:Dsx} {st:LS} {sc:Sc E} {ob:List Ob} {ih:Dsx->Sc E->List Ob->kS E} {r:LS×List Ob×Sc E} (hih:tD E nt B all W l ih) (hf:∀s r,f s=some r->eX E B o.op s r) (hc:dB o.op=none) (fB:d.cur<W) (hd:(cK nt o.dst&&gq d.cur (dN o))=true) (hst:d.vs[d.nc]? =some st) (hw:jo all o st.ts=some true)
  (h:R6 W o d sc ob f ih=some r) (ho:cz r.2.1):cz ob/\dC E nt B all W d.cur d.nc d.M d.vs d.laid d.pis (o::l) r.1:=by
 obtain ⟨sl,h1,h⟩:=af h;obtain ⟨r0,rk,h2,h3,h⟩:=az h;obtain ⟨h4,h⟩:=ar h;obtain ⟨q,h5,h⟩:=af h;obtain ⟨k1,k2⟩:=hih _ _ _ _ h ho;obtain ⟨k3,k4⟩:=jk k1;obtain ⟨m1,m2,m3⟩:=DO hf h5 k3;rw[Bool.and_eq_true] at h4;refine ⟨k4,dC.op fB hd hst hw hc h1 m1 m2 m3 h3 (fun k j hk hj=>KN h4.1 k j (List.mem_append.2 hk) hj) (fun p hp=>Fb (List.all_eq_true.1 h4.2 p hp)) (dC.tidy k2)⟩
theorem ZX {pks:List Nat} {d:Dsx} {st:LS} {it:It E} {sc:Sc E} {ob:List Ob} {ih:Dsx->Sc E->List Ob->kS E} {r:LS×List Ob×Sc E} (hB:BOK pks B) (hih:tD E nt B all W l ih) (fB:d.cur<W) (hd:(cK nt o.dst&&gq d.cur (dN o))=true) (hst:d.vs[d.nc]? =some st) (hw:jo all o st.ts=some true)
  (h:R4 E pks W o d st it sc ob ih=some r) (ho:cz r.2.1):cz ob/\dC E nt B all W d.cur d.nc d.M d.vs d.laid d.pis (o::l) r.1:=by
 unfold R4 at h;split at h
 ·rename_i f bs bs' xs y hC ms ps rs;obtain ⟨h4,h⟩:=ar h;obtain ⟨q,h2,h⟩:=af h;obtain ⟨k1,k2⟩:=hih _ _ _ _ h ho;obtain ⟨k3,k4⟩:=jk k1;obtain ⟨c,w,fi,ca,c1,c2,c3,c4,c5,c6,c7,c8,c9,c10,c11,c12,c13,c14⟩:=B4 hB h2 k3 hC;rw[Bool.and_eq_true] at h4;refine ⟨k4,dC.call fB hd hst hw c1 c2 c3 rfl c4 c5 c6 c7 c8 c9 c10 c11 c12 c13 (KN h4.1) (fun p hp=>Fb (List.all_eq_true.1 h4.2 p hp)) (dC.tidy (c14 ▸ k2))⟩
 ·obtain ⟨h1,h⟩:=ar h;exact LW hih (fun s r hr=>Iw hB hr) (by simpa using h1) fB hd hst hw h ho
theorem LV {pks:List Nat} {d:Dsx} {st:LS} {sc:Sc E} {ob:List Ob} {ih:Dsx->Sc E->List Ob->kS E} {r:LS×List Ob×Sc E} (hB:BOK pks B) (hih:tD E nt B all W l ih) (fB:d.cur<W) (hd:(cK nt o.dst&&gq d.cur (dN o))=true) (hst:d.vs[d.nc]? =some st) (hw:jo all o st.ts=some true)
  (h:R2 E pks W o d sc ob ih=some r) (ho:cz r.2.1):cz ob/\dC E nt B all W d.cur d.nc d.M d.vs d.laid d.pis (o::l) r.1:=by
 obtain ⟨h1,h⟩:=ar h;exact LW hih (fun s r hr=>qX hB hr) (by simpa using h1) fB hd hst hw h ho
theorem ZW {pks:List Nat} {ih:Dsx->Sc E->List Ob->kS E} (hB:BOK pks B) (hih:tD E nt B all W l ih):tD E nt B all W (o::l) (fun d sc ob=>adz E nt pks all W o d sc ob ih):=by
 intro d sc ob r h ho;obtain ⟨h1,h⟩:=ar h;obtain ⟨st,hst,h⟩:=af h;obtain ⟨w,hw,h⟩:=af h;rw[Bool.and_eq_true] at h1;have fB:d.cur<W:=Nat.le_of_ble_eq_true h1.1;rw[aC] at h;split at h
 ·rename_i e;subst e;unfold ady at h;split at h
  ·exact LV hB hih fB h1.2 hst hw h ho
  ·split at h
   ·exact ZX hB hih fB h1.2 hst hw h ho
   ·exact LV hB hih fB h1.2 hst hw h ho
 ·rename_i e;have e:w=false:=by simpa using e
  subst e;obtain ⟨k1,k2⟩:=hih _ _ _ _ h ho;exact ⟨k1,dC.skip fB h1.2 hst hw (dC.tidy k2)⟩
theorem BX {pks:List Nat} (hB:BOK pks B):∀l:List Oper,tD E nt B all W l (Eo E nt pks all W l)
 | []=>fun d sc o r h ho=>by
  obtain ⟨s,h1,h⟩:=af (show aj (d.vs[d.nc]?) (fun s=>some (s,o,sc))=some r from h)
  cases h;exact ⟨ho,dC.nil h1⟩
 |o::l=>ZW hB (BX hB l)
end
section
variable {F F':Hf} {g g':Gb} {B:Bs} {φ:Nat->List Nat} {s s' s1:LS} {E:Env} {nt:Nat}
def qY:Code->Nat->Code
 | .seq a _,0=>a
 | .seq _ b,_=>b
 | .cond _ a _,0=>a
 | .cond _ _ b,_=>b
 | .block _ c,_=>c
 | .loop c,_=>c
 |_,_=>.skip
def lD (c:Code):List Nat->Code
 | []=>c
 |i::p=>qY (lD c p) i
inductive KP where
 |code (p:List Nat) (c:Code)|block (id:Nat)|loop (p:List Nat) (c:Code)
def KP.ki:KP->KI
 | .code _ c=>.code c
 | .block id=>.block id
 | .loop _ c=>.loop c
def eS (c:Code):List Nat->List KP
 | []=> []
 |i::p=>
  match lD c p with
  | .seq _ b=>(match i with|0=>.code (1::p) b::eS c p|_=>eS c p)
  | .block id _=>.block id::eS c p
  | .loop b=>.loop p b::eS c p
  |_=>eS c p
structure Fx (E:Env) where
 fn:Func
 code:Code
 pks:List Nat
 outs:List Nat
inductive Md where
 |ent (c:Code) (p:List Nat) (chk:Bool)|out (e:Ex)
inductive Stop where
 |at (p:List Nat) (s:LS)|ret (y:AV) (bs:List (Nat×Bx))
abbrev rN:=List (List Nat×List (Nat×PM)×List (Nat×PB))
def eqP:List Nat->List Nat->Bool
 | []=>fun q=>(match q with| []=>true|_=>false)
 |a::p=>fun q=>(match q with| []=>false|b::q=>sel (Nat.beq a b) (eqP p q) false)
def LA (p:List Nat):rN->Option (List (Nat×PM)×List (Nat×PB))
 | []=>none
 |x::l=>sel (eqP x.1 p) (some x.2) (LA p l)
def xz (s:LS):List (Nat×PM)->List (Nat×AV)
 | []=> []
 |q::l=>(q.1,q.2.app (qZ (lk q.1 s.ts)))::xz s l
def Be (s:LS):List (Nat×PB)->Option (List (Nat×Bx))
 | []=>some []
 |q::l=>aG (lk q.1 s.bs) (Be s l) fun b r=>some ((q.1,q.2.app b)::r)
theorem Ba {t:Nat} {y:AV}:∀{l:List (Nat×PM)},lk t (xz s l)=some y->y= .undef\/∃x,lk t s.ts=some x/\WV x y
 | [],h=>by cases h
 |(u,m)::l,h=>by
  rw[show xz s ((u,m)::l)=(u,m.app (qZ (lk u s.ts)))::xz s l from rfl,aW] at h;split at h
  ·rename_i e;cases h;subst e;cases hx:lk t s.ts with
   |none=>left;exact PM.FB m
   |some x=>exact .inr ⟨x,rfl,m.wv x⟩
  ·exact Ba h
theorem Bc {k:Nat} {b':Bx}:∀{l:List (Nat×PB)} {r:List (Nat×Bx)},Be s l=some r->lk k r=some b'->∃b,lk k s.bs=some b/\WB b b'
 | [],r,h,hk=>by
  have h:some []=some r:=h;cases h;cases hk
 |(u,m)::l,r,h,hk=>by
  obtain ⟨b,r',h1,h2,h⟩:=az (show aG (lk u s.bs) (Be s l) (fun b r=>some ((u,m.app b)::r))=some r from h)
  cases h;rw[aW] at hk;split at hk
  ·rename_i e;cases hk;subst e;exact ⟨b,h1,m.wb b⟩
  ·exact Bc h2 hk
theorem Vf {lt:List (Nat×PM)} {lb:List (Nat×PB)} {r:List (Nat×Bx)} (h:Be s lb=some r):kQ s ⟨xz s lt,r⟩:=⟨fun t y hy=>Ba hy,fun k b' hk=>Bc h hk⟩
def Bb (s:LS):List Nat->Option (List (Nat×Bx))
 | []=>some []
 |k::l=>aG (lk k s.bs) (Bb s l) fun b r=>some ((k,b)::r)
theorem Ke {k:Nat} {b:Bx}:∀{l:List Nat} {r:List (Nat×Bx)},Bb s l=some r->lk k r=some b->lk k s.bs=some b
 | [],r,h,hk=>by
  have h:some []=some r:=h;cases h;cases hk
 |u::l,r,h,hk=>by
  obtain ⟨b,r',h1,h2,h⟩:=az (show aG (lk u s.bs) (Bb s l) (fun b r=>some ((u,b)::r))=some r from h)
  cases h;rw[aW] at hk;split at hk
  ·rename_i e;cases hk;subst e;exact h1
  ·exact Ke h2 hk
abbrev oC:=Option (Stop×List Ob)
def retX (X:Fx E) (s:LS) (o:List Ob):oC:=
 aG (J3 E s X.fn.results.toList) (Bb s X.outs) fun ys bs=>sel (eQ ys) (some (.ret (kI ys) bs,o)) none
def Yl (X:Fx E) (s:LS) (sc:Sc E) (o:List Ob):oC:=(fun q:LS×List Ob×Sc E=>retX X q.1 q.2.1) (gho E X.pks sc s o)
abbrev uW (E:Env):=Md->List KP->LS->Sc E->List Ob->oC
def Yo (X:Fx E) (ih:uW E) (ops:List Oper) (n:Nat) (draw:Bool) (ks:List KP) (s:LS) (sc:Sc E) (o:List Ob):oC:=
 sel draw ((fun q:LS×List Ob×Sc E=>aj (Eo E X.fn.ntmps X.pks ops n ops ⟨0,0,0,[q.1],[],[]⟩ q.2.2 q.2.1) fun r=>ih (.out .normal) ks r.1 r.2.2 r.2.1) (gho E X.pks sc s o))
  (aj (JR E X.fn.ntmps X.pks ops ops s sc o) fun r=>ih (.out .normal) ks r.1 r.2.2 r.2.1)
def BT (X:Fx E) (ih:uW E) (c:Code) (p:List Nat) (ks:List KP) (s:LS) (sc:Sc E) (o:List Ob):oC:=
 match c with
 | .skip=>ih (.out .normal) ks s sc o
 | .seq a b=>ih (.ent a (0::p) true) (.code (1::p) b::ks) s sc o
 | .region _ ops draw=>Yo X ih ops.toList ops.size draw ks s sc o
 | .cond x a b=>(match aL s.ts x with
  | .bool true=>ih (.ent a (0::p) true) ks s sc o
  | .bool false=>ih (.ent b (1::p) true) ks s sc o
  |_=>none)
 | .block id c=>ih (.ent c (0::p) true) (.block id::ks) s sc o
 | .loop c=>ih (.ent c (0::p) true) (.loop p c::ks) s sc o
 | .exit id=>ih (.out (.exit id)) ks s sc o
 | .ret=>Yl X s sc o
 |_=>none
def KL (X:Fx E) (ih:uW E) (e:Ex) (ks:List KP) (s:LS) (sc:Sc E) (o:List Ob):oC:=
 match ks with
 | []=>sel (BA e) (Yl X s sc o) none
 | .code p c::ks=>sel (eL e) (ih (.ent c p true) ks s sc o) (ih (.out e) ks s sc o)
 | .block id::ks=>ih (.out (leave id e)) ks s sc o
 | .loop p c::ks=>sel (eL e) (ih (.ent (.loop c) p true) ks s sc o) (ih (.out e) ks s sc o)
def aie (X:Fx E) (p:List Nat) (lt:List (Nat×PM)) (lb:List (Nat×PB)) (q:LS×List Ob×Sc E):oC:=aj (Be q.1 lb) fun bs=>some (.at p ⟨xz q.1 lt,bs⟩,q.2.1)
def Dv (X:Fx E) (S:rN) (ih:uW E) (m:Md) (ks:List KP) (s:LS) (sc:Sc E) (o:List Ob):oC:=
 match m with
 | .ent c p chk=>sel chk (match LA p S with
  |some l=>aie X p l.1 l.2 (gho E X.pks sc s o)
  |none=>BT X ih c p ks s sc o) (BT X ih c p ks s sc o)
 | .out e=>KL X ih e ks s sc o
def runK (X:Fx E) (S:rN) (n:Nat):uW E:=Nat.rec (fun _ _ _ _ _=>none) (fun _ ih=>Dv X S ih) n
def qT (X:Fx E) (S:rN) (p:List Nat) (s:LS) (sc:Sc E):oC:=runK X S 100000 (.ent (lD X.code p) p false) (eS X.code p) s sc []
def AtQ (X:Fx E) (B:Bs) (p:List Nat) (s:LS) (Q:Ex->LS->Prop):Prop:=Wk E X.fn.ntmps B (lD X.code p) ((eS X.code p).map KP.ki) s Q
def At (X:Fx E) (p:List Nat) (s:LS) (y:AV) (bs':List (Nat×Bx)):Prop:=∀B,BOK X.pks B->AtQ X B p s (aaj E X.fn y bs')
def KOK (X:Fx E):List KP->Prop
 | []=>True
 | .code p c::ks=>c=lD X.code p/\ks=eS X.code p/\KOK X ks
 | .loop p c::ks=>Code.loop c=lD X.code p/\ks=eS X.code p/\KOK X ks
 | .block _::ks=>KOK X ks
theorem v7 (X:Fx E):∀p,KOK X (eS X.code p)
 | []=>trivial
 |i::p=>by
  have ih:=v7 X p;unfold eS;split
  ·rename_i a b hc;split
   ·exact ⟨by simp[lD,hc,qY],by simp[eS,hc],ih⟩
   ·exact ih
  ·exact ih
  ·rename_i b hc;exact ⟨hc.symm,rfl,ih⟩
  ·exact ih
def qK (X:Fx E) (ks:List KP):Md->Prop
 | .ent c p _=>c=lD X.code p/\ks=eS X.code p
 | .out _=>True
def amm (X:Fx E) (B:Bs) (ks:List KP) (s:LS) (Q:Ex->LS->Prop):Md->Prop
 | .ent c _ _=>Wk E X.fn.ntmps B c (ks.map KP.ki) s Q
 | .out e=>WkO E X.fn.ntmps B e (ks.map KP.ki) s Q
def Cd (X:Fx E) (B:Bs) (Q:Ex->LS->Prop):Stop->Prop
 | .at p s=>AtQ X B p s Q
 | .ret y bs=>∀e s,aaj E X.fn y bs e s->Q e s
theorem WkO.ret {Q:Ex->LS->Prop} (h:Q .ret s):∀ks:List KI,WkO E nt B .ret ks s Q
 | []=>WkO.nil h
 | .code _::ks=>WkO.adB rfl (WkO.ret h ks)
 | .block id::ks=>WkO.block (WkO.ret h ks)
 | .loop _::ks=>WkO.abU rfl (WkO.ret h ks)
def GD (X:Fx E) (B:Bs) (Q:Ex->LS->Prop) (ih:uW E):Prop:=
 ∀m ks s sc o r,ih m ks s sc o=some r->cz r.2->KOK X ks->qK X ks m->Cd X B Q r.1->cz o/\amm X B ks s Q m
theorem OG {X:Fx E} {Q:Ex->LS->Prop} {sc:Sc E} {o:List Ob} {r:Stop×List Ob} (hB:BOK X.pks B) (h:Yl X s sc o=some r) (ho:cz r.2) (hp:Cd X B Q r.1):cz o/\∃s1,df B s s1/\∀e,BA e=true->Q e s1:=by
 obtain ⟨ys,bs,h1,h2,h⟩:=az (show aG (J3 E (gho E X.pks sc s o).1 X.fn.results.toList) (Bb (gho E X.pks sc s o).1 X.outs) (fun ys bs=>sel (eQ ys) (some (.ret (kI ys) bs,(gho E X.pks sc s o).2.1)) none)=some r from h)
 obtain ⟨h3,h⟩:=ar h;cases h;obtain ⟨k1,k2⟩:=wu hB sc s o ho;exact ⟨k1,_,k2,fun e he=>hp e _ ⟨he,⟨ys,h1,h3,rfl⟩,fun k b hk=>Ke h2 hk⟩⟩
theorem aeq {X:Fx E} {Q:Ex->LS->Prop} {ih:uW E} {id:Nat} {ops:Array Oper} {draw:Bool} {ks:List KP} {sc:Sc E} {o:List Ob} {r:Stop×List Ob} (hB:BOK X.pks B) (hih:GD X B Q ih) (h:Yo X ih ops.toList ops.size draw ks s sc o=some r) (ho:cz r.2) (hk:KOK X ks) (hp:Cd X B Q r.1):
  cz o/\Wk E X.fn.ntmps B (.region id ops draw) (ks.map KP.ki) s Q:=by
 unfold Yo at h;cases draw with
 |true=>
  obtain ⟨q,h1,h⟩:=af h;obtain ⟨q1,q2⟩:=hih _ _ _ _ _ _ h ho hk trivial hp;obtain ⟨q3,q4⟩:=BX hB _ _ _ _ _ h1 q1;obtain ⟨q5,q6⟩:=wu hB sc s o q3;exact ⟨q5,Wk.JQ q6 (Wk.drawn q4 q2)⟩
 |false=>
  obtain ⟨q,h1,h⟩:=af h;obtain ⟨q1,q2⟩:=hih _ _ _ _ _ _ h ho hk trivial hp;obtain ⟨q3,q4⟩:=ER hB _ _ _ _ _ h1 q1;exact ⟨q3,Wk.region q4 q2⟩
theorem Ft {X:Fx E} {Q:Ex->LS->Prop} {ih:uW E} {c:Code} {p:List Nat} {ks:List KP} {sc:Sc E} {o:List Ob} {r:Stop×List Ob} (hB:BOK X.pks B) (hih:GD X B Q ih) (h:BT X ih c p ks s sc o=some r) (ho:cz r.2) (hk:KOK X ks) (h1:c=lD X.code p) (h2:ks=eS X.code p) (hp:Cd X B Q r.1):
  cz o/\Wk E X.fn.ntmps B c (ks.map KP.ki) s Q:=by
 unfold BT at h;split at h
 ·obtain ⟨q1,q2⟩:=hih _ _ _ _ _ _ h ho hk trivial hp;exact ⟨q1,Wk.skip q2⟩
 ·rename_i a b;obtain ⟨q1,q2⟩:=hih _ _ _ _ _ _ h ho ⟨by simp[lD,<-h1,qY],by simp[eS,<-h1,h2],hk⟩ ⟨by simp[lD,<-h1,qY],by simp[eS,<-h1,h2]⟩ hp
  exact ⟨q1,Wk.seq q2⟩
 ·exact aeq hB hih h ho hk hp
 ·rename_i x a b;split at h
  ·rename_i hv;obtain ⟨q1,q2⟩:=hih _ _ _ _ _ _ h ho hk ⟨by simp[lD,<-h1,qY],by simp[eS,<-h1,h2]⟩ hp
   exact ⟨q1,Wk.Sb hv q2⟩
  ·rename_i hv;obtain ⟨q1,q2⟩:=hih _ _ _ _ _ _ h ho hk ⟨by simp[lD,<-h1,qY],by simp[eS,<-h1,h2]⟩ hp
   exact ⟨q1,Wk.Sd hv q2⟩
  ·cases h
 ·rename_i id c;obtain ⟨q1,q2⟩:=hih _ _ _ _ _ _ h ho hk ⟨by simp[lD,<-h1,qY],by simp[eS,<-h1,h2]⟩ hp
  exact ⟨q1,Wk.block q2⟩
 ·rename_i c;obtain ⟨q1,q2⟩:=hih _ _ _ _ _ _ h ho ⟨h1,h2,hk⟩ ⟨by simp[lD,<-h1,qY],by simp[eS,<-h1,h2]⟩ hp
  exact ⟨q1,Wk.loop q2⟩
 ·obtain ⟨q1,q2⟩:=hih _ _ _ _ _ _ h ho hk trivial hp;exact ⟨q1,Wk.exit q2⟩
 ·obtain ⟨q1,s1,q2,q3⟩:=OG hB h ho hp;exact ⟨q1,Wk.ret (WkO.JQ q2 (WkO.ret (q3 _ rfl) _))⟩
 ·cases h
theorem WC {X:Fx E} {Q:Ex->LS->Prop} {ih:uW E} {e:Ex} {ks:List KP} {sc:Sc E} {o:List Ob} {r:Stop×List Ob} (hB:BOK X.pks B) (hih:GD X B Q ih) (h:KL X ih e ks s sc o=some r) (ho:cz r.2) (hk:KOK X ks) (hp:Cd X B Q r.1):cz o/\WkO E X.fn.ntmps B e (ks.map KP.ki) s Q:=by
 unfold KL at h;split at h
 ·obtain ⟨he,h⟩:=ar h;obtain ⟨q1,s1,q2,q3⟩:=OG hB h ho hp;exact ⟨q1,WkO.JQ q2 (WkO.nil (q3 e he))⟩
 ·rename_i p c ks;obtain ⟨k1,k2,k3⟩:=hk;rw[aC] at h;split at h
  ·rename_i he;obtain ⟨q1,q2⟩:=hih _ _ _ _ _ _ h ho k3 ⟨k1,k2⟩ hp;rw[rf he];exact ⟨q1,WkO.code q2⟩
  ·rename_i he;obtain ⟨q1,q2⟩:=hih _ _ _ _ _ _ h ho k3 trivial hp;exact ⟨q1,WkO.adB (by simpa using he) q2⟩
 ·rename_i id ks;obtain ⟨q1,q2⟩:=hih _ _ _ _ _ _ h ho hk trivial hp;exact ⟨q1,WkO.block q2⟩
 ·rename_i p c ks;obtain ⟨k1,k2,k3⟩:=hk;rw[aC] at h;split at h
  ·rename_i he;obtain ⟨q1,q2⟩:=hih _ _ _ _ _ _ h ho k3 ⟨k1,k2⟩ hp;rw[rf he];exact ⟨q1,WkO.loop q2⟩
  ·rename_i he;obtain ⟨q1,q2⟩:=hih _ _ _ _ _ _ h ho k3 trivial hp;exact ⟨q1,WkO.abU (by simpa using he) q2⟩
theorem Dw (X:Fx E) (S:rN) (Q:Ex->LS->Prop) (hB:BOK X.pks B):∀n,GD X B Q (runK X S n)
 |0=>fun m ks s sc o r h=>by
  have h:none=some r:=h;cases h
 |n+1=>fun m ks s sc o r h ho hk hm hp=>by
  have ih:=Dw X S Q hB n;have h:Dv X S (runK X S n) m ks s sc o=some r:=h;cases m with
  |out e=>exact WC hB ih h ho hk hp
  |ent c p chk=>
   obtain ⟨m1,m2⟩:=hm;unfold Dv at h;dsimp only at h;rw[aC] at h;split at h
   ·split at h
    ·rename_i l hl;obtain ⟨bs,h1,h⟩:=af h;cases h;obtain ⟨k1,k2⟩:=wu hB sc s o ho;subst m1;subst m2;exact ⟨k1,Wk.JQ (k2.trans (df.less (Vf (lt:=l.1) h1))) hp⟩
    ·exact Ft hB ih h ho hk m1 m2 hp
   ·exact Ft hB ih h ho hk m1 m2 hp
def lsA (s:LS):List AV:=.agg (s.ts.map fun p=>.ifc p.1 p.2)::s.bs.map fun p=>.ifc p.1 (bxA p.2)
theorem aaw:∀{a b:List (Nat×AV)},(a.map fun p=>AV.ifc p.1 p.2)=(b.map fun p=>AV.ifc p.1 p.2)->a=b
 | [],[],_=>rfl
 | [],_::_,h=>by cases h
 |_::_,[],h=>by cases h
 |p::a,q::b,h=>by
  rw[List.map_cons,List.map_cons,List.cons.injEq] at h;obtain ⟨h1,h2⟩:=h;injection h1 with h3 h4
  rw[aaw h2,Prod.ext h3 h4]
theorem Sh:∀{a b:List (Nat×Bx)},(a.map fun p=>AV.ifc p.1 (bxA p.2))=(b.map fun p=>AV.ifc p.1 (bxA p.2))->a=b
 | [],[],_=>rfl
 | [],_::_,h=>by cases h
 |_::_,[],h=>by cases h
 |p::a,q::b,h=>by
  rw[List.map_cons,List.map_cons,List.cons.injEq] at h;obtain ⟨h1,h2⟩:=h;injection h1 with h3 h4
  rw[Sh h2,Prod.ext h3 (B6 h4)]
theorem agh {a b:LS} (h:lsA a=lsA b):a=b:=by
 unfold lsA at h;injection h with h1 h2
 injection h1 with h1
 cases a with|mk t1 b1=>
 cases b with|mk t2 b2=>
 have e1:t1=t2:=aaw h1;have e2:b1=b2:=Sh h2;rw[e1,e2]
def ptA:List Nat->List AV
 | []=> []
 |i::p=>.loc i 0::ptA p
theorem Va:∀{a b:List Nat},ptA a=ptA b->a=b
 | [],[],_=>rfl
 | [],_::_,h=>by cases h
 |_::_,[],h=>by cases h
 |p::a,q::b,h=>by
  have h:AV.loc p 0::ptA a= .loc q 0::ptA b:=h;injection h with h1 h2
  injection h1 with h1
  rw[Va h2,h1]
def xp:Stop->AV
 | .at p s=>.fn 0 (ptA p) (lsA s)
 | .ret y bs=>.fn 1 [y] (bs.map fun p=>.ifc p.1 (bxA p.2))
theorem Ye {a b:Stop} (h:xp a=xp b):a=b:=by
 cases a with
 | «at» p s=>
  cases b with
  | «at» p' s'=>
   have h:AV.fn 0 (ptA p) (lsA s)= .fn 0 (ptA p') (lsA s'):=h;injection h with _ h1 h2
   rw[Va h1,agh h2]
  |ret y bs=>
   have h:AV.fn 0 _ _= .fn 1 _ _:=h;injection h with h0
   cases h0
 |ret y bs=>
  cases b with
  | «at» p' s'=>
   have h:AV.fn 1 _ _= .fn 0 _ _:=h;injection h with h0
   cases h0
  |ret y' bs'=>
   have h:AV.fn 1 [y] _= .fn 1 [y'] _:=h;injection h with _ h1 h2
   injection h1 with h1
   rw[h1,Sh h2]
def JS (r:oC):List AV:= @Option.rec (Stop×List Ob) (fun _=>List AV) [.undef] (fun q=>xp q.1::Lw q.2) r
def JT (st:Stop) (r:oC):List AV:= @Option.rec (Stop×List Ob) (fun _=>List AV) [] (fun q=>xp st::JN q.2) r
theorem UE {st:Stop} {r:oC} (h:JS r=JT st r):∃o,r=some (st,o)/\cz o:=by
 cases r with
 |none=>cases h
 |some q=>
  have h:xp q.1::Lw q.2=xp st::JN q.2:=h;injection h with h1 h2
  exact ⟨q.2,by rw[<-Ye h1],KA h2⟩
theorem afJ {X:Fx E} {S:rN} {p p':List Nat} {s s':LS} {sc:Sc E} {y:AV} {bs':List (Nat×Bx)} (h:JS (qT X S p s sc)=JT (.at p' s') (qT X S p s sc)) (k:At X p' s' y bs'):At X p s y bs':=fun B hB=>by
 obtain ⟨o,h1,h2⟩:=UE h;exact (Dw X S _ hB _ _ _ _ _ _ _ h1 h2 (v7 X p) ⟨rfl,rfl⟩ (k B hB)).2
theorem aem {X:Fx E} {S:rN} {p:List Nat} {s:LS} {sc:Sc E} {y:AV} {bs':List (Nat×Bx)} (h:JS (qT X S p s sc)=JT (.ret y bs') (qT X S p s sc)):At X p s y bs':=fun B hB=>by
 obtain ⟨o,h1,h2⟩:=UE h;exact (Dw X S _ hB _ _ _ _ _ _ _ h1 h2 (v7 X p) ⟨rfl,rfl⟩ fun e s h=>h).2
theorem Sf {X:Fx E} {f:Nat} {bs bs':List (Nat×Bx)} {xs:List AV} {y:AV} (hk:ye E f X.fn X.code) (hn:Nat.ble xs.length X.fn.ntmps=true) (hp:qp bs=X.pks) (h:At X [] ⟨pd 0 xs,bs⟩ y bs'):aZ E f bs xs y bs':=
 aeV hk hn fun B hB=>h B (hp ▸ hB)
theorem YZ {α:Type} {b:Bool} {x y:Option α} {r:α} {G:Prop} (h:(if b=true then x else y)=some r) (k1:b=true->x=some r->G) (k2:b=false->y=some r->G):G:=by
 cases b with
 |true=>exact k1 rfl (by simpa using h)
 |false=>exact k2 rfl (by simpa using h)
theorem Xo {α β:Type} {x:Option β} {f:β->Option α} {r:α} {G:Prop} (h:x.bind f=some r) (k:∀y,x=some y->f y=some r->G):G:=by
 cases x with
 |none=>simp at h
 |some y=>exact k y rfl h
end
section
def idx {α:Type} (xs:List α) (i:Int):Option α:=if 0<=i then xs[i.toNat]? else none
def app {α:Type} (xs ys:List α):Option (List α):=if xs.length<=1000000/\ys.length<=1000000 then some (xs++ys) else none
def oB {α:Type} (xs:List α) (n:Nat) (ys:List α):Option (List α):=if n<=xs.length/\n<=1000000/\ys.length<=1000000 then some (xs.take n++ys) else none
def cut {α:Type} (xs:List α) (lo hi:Option Int):Option (List α):=
 if 0<=lo.getD 0/\0<=hi.getD 0/\(lo.getD 0).toNat<=(hi.map Int.toNat).getD xs.length/\(hi.map Int.toNat).getD xs.length<=xs.length then
  some ((xs.take ((hi.map Int.toNat).getD xs.length)).drop (lo.getD 0).toNat) else none
def Z0 (n:Nat) (lo hi:Option Int):Option (Nat×Nat):=
 if 0<=lo.getD 0/\0<=hi.getD 0/\(lo.getD 0).toNat<=(hi.map Int.toNat).getD n/\(hi.map Int.toNat).getD n<=n then
  some ((lo.getD 0).toNat,(hi.map Int.toNat).getD n) else none
def wM {α:Type} (xs:List α) (hi mx:Int):Option (List α):=if hi=mx/\0<=hi/\hi.toNat<=xs.length then some (xs.take hi.toNat) else none
def cat (a b:ByteArray):Option ByteArray:=if a.size+b.size<=1000000 then some (a++b) else none
def wc (s:ByteArray) (i:Int):Option UInt8:=if 0<=i then s.data.toList[i.toNat]? else none
def quo (k:IntKind) (a b:Int):Option Int:=if b=0 then none else some (k.wrap (a.tdiv b))
def rem (a b:Int):Option Int:=if b=0 then none else some (a.tmod b)
def bnd (n:Nat) (i:Int):Option Nat:=if 0<=i/\i.toNat<n then some i.toNat else none
def setAt {α:Type} (xs:List α) (i:Nat) (x:α):Option (List α):=if i<xs.length then some (xs.set i x) else none
def lE {α:Type} (n:Int) (x:α):Option (List α):=if 0<=n/\n<=1000000 then some (List.replicate n.toNat x) else none
def cpy {α:Type} (xs ys:List α):Option (List α):=if xs= [] then none else some (ys.take (min ys.length xs.length)++xs.drop (min ys.length xs.length))
def fJ {β:Type} (m:List (ByteArray×β)) (k:ByteArray) (d:β):β:=match m with| []=>d|p::m=>if k=p.1 then p.2 else fJ m k d
def fY {β:Type} (m:List (ByteArray×β)) (k:ByteArray) (v:β):List (ByteArray×β):=match m with| []=> [(k,v)]|p::m=>if k=p.1 then (k,v)::m else p::fY m k v
abbrev w64 (x:Int):Int:=IntKind.i64.wrap x
def nilAt {α:Type} (xs:List (List α)) (j:Nat):Option Unit:=match xs[j]? with|some []=>some ()|_=>none
def nr (a b:Nat):Option Unit:=if a=b then some () else none
theorem zF {a b:Nat} {u:Unit} (h:nr a b=some u):a=b:=by
 unfold nr at h;split at h
 ·assumption
 ·cases h
structure RowsK {α:Type} (enc:α->List AV) (rows:List α->List (List AV)):Prop where
 map:∀xs,rows xs=xs.map enc
section
variable {α:Type} {enc:α->List AV} {rows:List α->List (List AV)} {E:Env}
theorem RowsK.len (R:RowsK enc rows) (xs:List α):(rows xs).length=xs.length:=by rw[R.map,List.length_map]
theorem RowsK.ax (R:RowsK enc rows) (xs:List α):AV.int .i64 ((rows xs).length:Int)= .int .i64 (xs.length:Int):=by rw[R.len]
theorem RowsK.get (R:RowsK enc rows) {xs:List α} {j:Nat} {x:α} (h:xs[j]? =some x):(rows xs)[j]? =some (enc x):=by rw[R.map,List.getElem?_map,h];rfl
theorem RowsK.isE (R:RowsK enc rows) (xs:List α):(rows xs).isEmpty=xs.isEmpty:=by rw[R.map];cases xs<;>rfl
theorem RowsK.mU (R:RowsK enc rows) (xs:List α):AV.bool (rows xs).isEmpty= .bool xs.isEmpty:=by rw[R.isE]
theorem RowsK.idx' (R:RowsK enc rows) {xs:List α} {n:Int} {x:α} (h:idx xs n=some x):ke (rows xs) n=some (enc x):=by
 unfold Go.Sim.idx at h;unfold ke;split at h
 ·rename_i h0;rw[if_pos h0];exact R.get h
 ·cases h
def RowsK.idx (R:RowsK enc rows) {xs:List α} {n:Int} {x:α} (h:idx xs n=some x):It E:=.idx (R.idx' h)
def RowsK.row (R:RowsK enc rows) {xs:List α} {j:Nat} {x:α} (h:xs[j]? =some x):It E:=.row (R.get h)
theorem uN {n:Nat} {i:Int} {k:Nat} (h:bnd n i=some k):i=(k:Int)/\k<n:=by
 unfold bnd at h;split at h
 ·rename_i h0;cases h;exact ⟨by omega,h0.2⟩
 ·cases h
def v9 {n:Nat} {i:Int} {k:Nat} (h:bnd n i=some k):It E:=.idb (n:=n) (m:=i) (k:=i.toNat) (by have:=uN h;omega) (by have:=uN h;omega)
def cJ {n:Nat} {i:Int} {k:Nat} (h:bnd n i=some k):It E:=.idb (uN h).1 (uN h).2
theorem oH {xs zs:List α} {i:Nat} {y:α} (h:setAt xs i y=some zs):zs=xs.set i y/\i<xs.length:=by
 unfold setAt at h;split at h
 ·cases h;exact ⟨rfl,by assumption⟩
 ·cases h
theorem bY {xs zs:List α} {i:Nat} {y:α} (h:setAt xs i y=some zs):zs.length=xs.length:=by rw[(oH h).1,List.length_set]
theorem RowsK.set' (R:RowsK enc rows) {xs zs:List α} {j f:Nat} {x y:α} {vs:List AV} (h1:setAt xs j y=some zs) (he:cq (enc x) f vs=enc y):(rows xs).set j (cq (enc x) f vs)=rows zs:=by
 rw[(oH h1).1,he,R.map,R.map,List.map_set]
def RowsK.sto (R:RowsK enc rows) {xs zs:List α} {j:Nat} {x y:α} (f:Nat) (vs:List AV) (h0:xs[j]? =some x) (h1:setAt xs j y=some zs) (he:cq (enc x) f vs=enc y):It E:=.sto (f:=f) (xs:=vs) (R.get h0) (R.set' h1 he)
theorem Am {xs ys zs:List α} (h:app xs ys=some zs):xs.length<=1000000/\ys.length<=1000000/\zs=xs++ys:=by
 unfold app at h;split at h
 ·rename_i h0;cases h;exact ⟨h0.1,h0.2,rfl⟩
 ·cases h
def RowsK.app (R:RowsK enc rows) {xs ys zs:List α} (h:app xs ys=some zs) (sr:Sr (rows ys)):It E:=
 .app (Q:=rows xs) (R:=rows ys) (Q':=rows zs) (n:=xs.length) (n':=zs.length) (R.len xs).symm (by rw[R.len];exact (Am h).1) (by rw[R.len];exact (Am h).2.1) (by rw[(Am h).2.2,R.map,R.map,R.map,List.map_append]) (R.len zs) sr
theorem rL {xs ys zs:List α} {n:Nat} (h:oB xs n ys=some zs):n<=xs.length/\n<=1000000/\ys.length<=1000000/\zs=xs.take n++ys:=by
 unfold oB at h;split at h
 ·rename_i h0;cases h;exact ⟨h0.1,h0.2.1,h0.2.2,rfl⟩
 ·cases h
def RowsK.oB (R:RowsK enc rows) {xs ys zs:List α} {n:Nat} (h:oB xs n ys=some zs) (sr:Sr (rows ys)):It E:=
 .aad (Q:=rows xs) (P:=rows (xs.take n)) (R:=rows ys) (Q':=rows zs) (n:=n) (n':=zs.length) (by rw[R.map,R.map,List.map_take]) (by rw[R.len];exact (rL h).1) (rL h).2.1 (by rw[R.len];exact (rL h).2.2.1) (by rw[(rL h).2.2.2,R.map,R.map,R.map,List.map_append]) (R.len zs) sr
def RowsK.sr (R:RowsK enc rows) {xs:List α} {lo n:Nat} (hn:lo+n<=xs.length):Sr (rows ((xs.drop lo).take n)):=.box (Q:=rows xs) (lo:=lo) (n:=n) (by rw[R.map,R.map,List.map_take,List.map_drop]) (by rw[R.len];exact hn)
def RowsK.srW (R:RowsK enc rows) (xs:List α):Sr (rows xs):=.box (Q:=rows xs) (lo:=0) (n:=xs.length) (by rw[List.drop_zero,<-R.len,List.take_length]) (by rw[R.len];omega)
theorem LX {xs zs:List α} {lo hi:Option Int} (h:cut xs lo hi=some zs):∃l u:Nat,lo.getD 0=(l:Int)/\hi.getD (xs.length:Nat)=(u:Int)/\l<=u/\u<=xs.length/\zs=(xs.drop l).take (u-l):=by
 unfold cut at h;split at h
 ·rename_i h0;cases h;obtain ⟨a,b,c,d⟩:=h0;refine ⟨(lo.getD 0).toNat,(hi.map Int.toNat).getD xs.length,by omega,?_,c,d,by rw[List.drop_take]⟩
  cases hi with
  |none=>rfl
  |some v=>have:0<=v:=b;show v=((v.toNat:Nat):Int);omega
 ·cases h
def RowsK.cut (R : RowsK enc rows) {xs zs : List α} {lo hi : Option Int} (h : cut xs lo hi = some zs) : It E :=
  .cut (rows := rows xs) (R := rows zs) (lo := lo.getD 0) (hi := hi.getD ((rows xs).length : Nat)) (l := (lo.getD 0).toNat) (u := (hi.map Int.toNat).getD xs.length)
    (by obtain ⟨l, u, a, b, c, d, e⟩ := LX h; omega)
    (by
      obtain ⟨l, u, a, b, c, d, e⟩ := LX h
      cases hi with
      | none => show (((rows xs).length : Nat) : Int) = _; rw [R.len]; rfl
      | some v => have b : v = (u : Int) := b; show v = ((v.toNat : Nat) : Int); omega)
    (by unfold Go.Sim.cut at h; split at h; · rename_i h0; exact h0.2.2.1
        · cases h)
    (by unfold Go.Sim.cut at h; split at h; · rename_i h0; rw [R.len]; exact h0.2.2.2
        · cases h)
    (by unfold Go.Sim.cut at h; split at h; · cases h; rw [R.map, R.map, <- List.drop_take, List.map_drop, List.map_take]
        · cases h)
theorem rE {xs zs:List α} {hi mx:Int} (h:wM xs hi mx=some zs):hi=(hi.toNat:Int)/\mx=(hi.toNat:Int)/\hi.toNat<=xs.length/\zs=xs.take hi.toNat:=by
 unfold wM at h;split at h
 ·rename_i h0;cases h;obtain ⟨a,b,c⟩:=h0;exact ⟨by omega,by omega,c,rfl⟩
 ·cases h
def RowsK.wM (R:RowsK enc rows) {xs zs:List α} {hi mx:Int} (h:Go.Sim.wM xs hi mx=some zs):It E:=
 .wM (rows:=rows xs) (R:=rows zs) (hi:=hi) (mx:=mx) (u:=hi.toNat) (rE h).1 (rE h).2.1 (by rw[R.len];exact (rE h).2.2.1) (by rw[(rE h).2.2.2,R.map,R.map,List.map_take])
theorem rD {n:Nat} {lo hi:Option Int} {p:Nat×Nat} (h:Z0 n lo hi=some p):lo.getD 0=(p.1:Int)/\hi.getD (n:Nat)=(p.2:Int)/\p.1<=p.2/\p.2<=n:=by
 unfold Z0 at h;split at h
 ·rename_i h0;cases h;obtain ⟨a,b,c,d⟩:=h0;refine ⟨by show _=(((lo.getD 0).toNat:Nat):Int);omega,?_,c,d⟩
  cases hi with
  |none=>rfl
  |some v=>have:0<=v:=b;show v=((v.toNat:Nat):Int);omega
 ·cases h
def RowsK.Ep (R:RowsK enc rows) {xs:List α} {lo0 n:Nat} {lo hi:Option Int} {p:Nat×Nat} (h:Z0 n lo hi=some p) (hn:lo0+n<=xs.length):It E:=
 .Ep (Q:=rows xs) (lo0:=lo0) (n:=n) (lo:=lo.getD 0) (hi:=hi.getD (n:Nat)) (l:=p.1) (u:=p.2) (rD h).1 (rD h).2.1 (rD h).2.2.1 (rD h).2.2.2 (by rw[R.len];exact hn)
theorem iA {n:Int} {x:α} {zs:List α} (h:lE n x=some zs):n=(n.toNat:Int)/\n.toNat<=1000000/\zs=List.replicate n.toNat x:=by
 unfold lE at h;split at h
 ·rename_i h0;cases h;exact ⟨by omega,by omega,rfl⟩
 ·cases h
def RowsK.made (R:RowsK enc rows) {n:Int} {x:α} {zs:List α} (z:List AV) (ms:List P1) (h:lE n x=some zs) (he:apps ms z=enc x):It E:=
 .mk (n1:=n) (n2:=n) (l:=n.toNat) (m:=n.toNat) (x:=z) (Q':=rows zs) (iA h).1 (iA h).1 (Nat.le_refl _) (iA h).2.1 ms (by rw[(iA h).2.2,R.map,List.map_replicate,List.map_replicate,he])
def RowsK.aio (R:RowsK enc rows) {n:Int} {x:α} {zs:List α} (z:List AV) (h:lE n x=some zs):It E:=
 .mk (n1:=0) (n2:=n) (l:=0) (m:=n.toNat) (x:=z) (Q':=rows []) rfl (iA h).1 (Nat.zero_le _) (iA h).2.1 [] (by rw[R.map];rfl)
theorem Aj {xs ys zs:List α} (h:cpy xs ys=some zs):xs≠ []/\zs=ys.take (min ys.length xs.length)++xs.drop (min ys.length xs.length):=by
 unfold cpy at h;split at h
 ·cases h
 ·rename_i h0;cases h;exact ⟨h0,rfl⟩
def RowsK.cpy (R:RowsK enc rows) {xs ys zs:List α} (h:cpy xs ys=some zs) (sr:Sr (rows ys)):It E:=
 .cpy (Q:=rows xs) (R:=rows ys) (Q':=rows zs) (lo:=0) (n:=xs.length) (m:=min ys.length xs.length) (by rw[R.len];omega) (by rw[R.len]) (by rw[(Aj h).2,R.map,R.map,R.map];simp) (by intro hc;have:=R.len xs;rw[hc] at this;exact (Aj h).1 (List.length_eq_zero_iff.1 this.symm)) sr
def sj {α:Type} (xs:List α) (lo n:Nat) (ys:List α):Option (List α):=if xs≠ []/\lo+n<=xs.length then some (xs.take lo++ys.take (min ys.length n)++xs.drop (lo+min ys.length n)) else none
theorem rF {xs ys zs:List α} {lo n:Nat} (h:sj xs lo n ys=some zs):(xs≠ []/\lo+n<=xs.length)/\zs=xs.take lo++ys.take (min ys.length n)++xs.drop (lo+min ys.length n):=by
 unfold sj at h;split at h
 ·rename_i h0;cases h;exact ⟨h0,rfl⟩
 ·cases h
theorem Z2 {xs ys zs:List α} {lo n:Nat} (h:sj xs lo n ys=some zs):zs.length=xs.length:=by
 obtain ⟨⟨_,h1⟩,h2⟩:=rF h;rw[h2,List.length_append,List.length_append,List.length_take,List.length_take,List.length_drop];omega
def RowsK.sj (R:RowsK enc rows) {xs ys zs:List α} {lo n:Nat} (h:sj xs lo n ys=some zs) (sr:Sr (rows ys)):It E:=
 .cpy (Q:=rows xs) (R:=rows ys) (Q':=rows zs) (lo:=lo) (n:=n) (m:=min ys.length n) (by rw[R.len];exact (rF h).1.2) (by rw[R.len]) (by rw[(rF h).2,R.map,R.map,R.map];simp) (by intro hc;have:=R.len xs;rw[hc] at this;exact (rF h).1.1 (List.length_eq_zero_iff.1 this.symm)) sr
def RowsK.clo (R:RowsK enc rows) {xs zs:List α} {j:Nat} {x y:α} (K:Nat) (f:Nat) (q:AV) (u:AV) (h0:xs[j]? =some x) (h1:setAt xs j y=some zs) (he:cq (cq (enc x) f [u]) f [q]=enc y):It E:=
 .clo (Q:=(rows xs).set j (cq (enc x) f [u])) (R:=cq (enc x) f [u]) (f:=f) (x:=q) (Q':=rows zs) K (by
  have hj:=R.get h0;have hlt:=(List.getElem?_eq_some_iff.1 hj).1;rw[List.getElem?_set_self hlt]) (by rw[List.set_set,he,(oH h1).1,R.map,R.map,List.map_set])
def gH {β:Type} (rows:List β->List (List AV)) (x:List (List β)):List (Option (List (List AV))):=x.map fun y=>some (rows y)
def RowsK.DE {encN:List α->List AV} {cH:List (List α)->List (List AV)} (R:RowsK enc rows) (N:RowsK encN cH) {n:Int} {x:List (List α)} (K e' s:Nat) (h:lE n ([]:List α)=some x) (he:encN []= [.sln e' s []]):It E:=
 .DE (Q:=cH x) (P:=gH rows x) K e' s ⟨n.toNat,by rw[N.map,(iA h).2.2,List.map_replicate,he],by
  unfold gH;rw[(iA h).2.2,List.map_replicate,R.map];rfl⟩
def RowsK.r7 (R:RowsK enc rows) {x:List (List α)} {j:Nat} {y:List α} (K K2:Nat) (h:x[j]? =some y):It E:=
 .r7 (Q:=gH rows x) (j:=j) (R:=rows y) (n:=y.length) (Q':=(gH rows x).set j none) K K2 (by unfold gH;rw[List.getElem?_map,h];rfl) (R.len y) rfl
def RowsK.tX (R:RowsK enc rows) {x z:List (List α)} {j:Nat} {y:List α} (K K2:Nat) (h:setAt x j y=some z):It E:=
 .tX (Q:=(gH rows x).set j none) (j:=j) (R:=rows y) (n:=y.length) (Q':=gH rows z) K K2 (R.len y) (by
  rw[List.set_set,(oH h).1];unfold gH;rw[List.map_set])
theorem RowsK.own {LP:List α->List AV} {A0:List (List α)->List (List AV)} (R:RowsK enc rows) (N:RowsK LP A0) {b:Bool} {e' s:Nat} (he:∀y,LP y= [sel b (.slx e' s (rows y)) (.slice e' s (rows y))]) (x:List (List α)):(gH rows x).map (zM b e' s)=A0 x:=by
 unfold gH;rw[N.map,List.map_map];exact List.map_congr_left fun y _=>(he y).symm
theorem Kg {β:Type} {rows:List β->List (List AV)} (x:List (List β)):(gH rows x).length=x.length:=List.length_map _
def RowsK.DI {LP:List α->List AV} {A0:List (List α)->List (List AV)} (R:RowsK enc rows) (N:RowsK LP A0) (b:Bool) (K e' s:Nat) (he:∀y,LP y= [sel b (.slx e' s (rows y)) (.slice e' s (rows y))]) (x:List (List α)):It E:=
 .DI (Q:=gH rows x) (P:=A0 x) (n:=x.length) b K e' s (R.own N he x) (Kg x)
def RowsK.hol (R:RowsK enc rows) {xs:List α} {j:Nat} {x:α} (f:Nat) (h0:xs[j]? =some x):It E:=.hol (f:=f) (R.get h0) rfl
def RowsK.frz (R:RowsK enc rows) (K:Nat) (xs:List α):It E:=.frz (Q:=rows xs) (n:=xs.length) K (R.len xs)
theorem RowsK.rws {enc':α->List AV} {rows':List α->List (List AV)} (R:RowsK enc rows) (R':RowsK enc' rows') {ms:List P1} (h:∀x,apps ms (enc x)=enc' x) (xs:List α):(rows xs).map (apps ms)=rows' xs:=by
 rw[R.map,R'.map,List.map_map];exact List.map_congr_left fun x _=>h x
end
def gd (n:Nat) (hi:Int):Option Nat:=if 0<=hi/\hi.toNat<=n then some hi.toNat else none
def iQ (n:Nat) (lo:Int):Option Nat:=if 0<=lo/\lo.toNat<=n then some lo.toNat else none
theorem km {n u:Nat} {hi:Int} (h:gd n hi=some u):hi=(u:Int)/\u<=n:=by
 unfold gd at h;split at h
 ·rename_i h0;cases h;exact ⟨by omega,h0.2⟩
 ·cases h
theorem wL {n u:Nat} {lo:Int} (h:iQ n lo=some u):lo=(u:Int)/\u<=n:=by
 unfold iQ at h;split at h
 ·rename_i h0;cases h;exact ⟨by omega,h0.2⟩
 ·cases h
theorem Er {n u m:Nat} {lo:Int} (h:iQ n lo=some u) (le:n<=m):0+u+(n-u)<=m:=by
 have:=(wL h).2;omega
section
variable {α:Type} {enc:α->List AV} {rows:List α->List (List AV)} {E:Env}
def RowsK.gd (R:RowsK enc rows) {xs:List α} {n u:Nat} {hi:Int} (h:gd n hi=some u) (le:n<=xs.length):It E:=
 .Ep (Q:=rows xs) (lo0:=0) (n:=n) (lo:=0) (hi:=hi) (l:=0) (u:=u) rfl (km h).1 (Nat.zero_le _) (km h).2 (by rw[R.len];omega)
def RowsK.iQ (R:RowsK enc rows) {xs:List α} {n u:Nat} {lo:Int} (h:iQ n lo=some u) (le:n<=xs.length):It E:=
 .Ep (Q:=rows xs) (lo0:=0) (n:=n) (lo:=lo) (hi:=(n:Int)) (l:=u) (u:=n) (wL h).1 rfl (wL h).2 (Nat.le_refl _) (by rw[R.len];omega)
theorem RowsK.take (R:RowsK enc rows) (xs:List α) (u:Nat):(rows xs).take u=rows (xs.take u):=by rw[R.map,R.map,List.map_take]
theorem vw {xs:List α} {u:Nat} (h:u<=xs.length):(xs.take u).length=u:=by rw[List.length_take];omega
theorem J6 {n:Int} {x:α} {zs:List α} (h:lE n x=some zs):n.toNat=zs.length:=by rw[(iA h).2.2,List.length_replicate]
theorem aeU {xs ys zs:List α} (h:cpy xs ys=some zs):zs.length=xs.length:=by
 rw[(Aj h).2,List.length_append,List.length_take,List.length_drop];omega
end
theorem int_eq {k:IntKind} {a b:Int} (h:(a==b)=true):AV.int k a= .int k b:=by rw[eq_of_beq h]
theorem L2 {a b c:ByteArray} (h:cat a b=some c):a.size+b.size<=1000000/\a++b=c:=by
 unfold cat at h;split at h
 ·rename_i h0;cases h;exact ⟨h0,rfl⟩
 ·cases h
theorem fw {s:ByteArray} {i:Int} {c:UInt8} (h:wc s i=some c):ke s.data.toList i=some c:=h
theorem J8 {a b c:Int} (h:rem a b=some c):b≠0/\a.tmod b=c:=by
 unfold rem at h;split at h
 ·cases h
 ·rename_i h0;cases h;exact ⟨h0,rfl⟩
def j8 {β:Type} (f:β->AV) (m:List (ByteArray×β)):List (AV×AV):=m.map fun p=>(.str p.1,f p.2)
theorem Fm {β:Type} {f:β->AV} {k:ByteArray} {d:β}:∀m:List (ByteArray×β),∃r,hJ (.str k) (j8 f m)=some r/\wA false (some (f d)) r=some (f (fJ m k d))
 | []=>⟨none,rfl,rfl⟩
 |p::m=>by
  obtain ⟨r,h1,h2⟩:=Fm (f:=f) (k:=k) (d:=d) m;have step:hJ (.str k) (j8 f (p::m))=(match some (decide (k=p.1)) with
   |some true=>some (some (0,f p.2))
   |some false=>(match hJ (.str k) (j8 f m) with|some (some q)=>some (some (q.1+1,q.2))|r=>r)
   |none=>none):=rfl
  by_cases hk:k=p.1
  ·refine ⟨some (0,f p.2),by rw[step];simp[hk],?_⟩
   show some (f p.2)=some (f (fJ (p::m) k d));unfold fJ;rw[if_pos hk]
  ·have hg:fJ (p::m) k d=fJ m k d:=by rw[fJ,if_neg hk]
   rw[hg];cases r with
   |none=>exact ⟨none,by rw[step];simp[hk,h1],h2⟩
   |some q=>exact ⟨some (q.1+1,q.2),by rw[step];simp[hk,h1],h2⟩
theorem l8 {β:Type} {f:β->AV} {k:ByteArray} {v:β}:∀m:List (ByteArray×β),∃r,hJ (.str k) (j8 f m)=some r/\CX (j8 f m) (.str k) (f v) r=j8 f (fY m k v)
 | []=>⟨none,rfl,rfl⟩
 |p::m=>by
  obtain ⟨r,h1,h2⟩:=l8 (f:=f) (k:=k) (v:=v) m;have step:hJ (.str k) (j8 f (p::m))=(match some (decide (k=p.1)) with
   |some true=>some (some (0,f p.2))
   |some false=>(match hJ (.str k) (j8 f m) with|some (some q)=>some (some (q.1+1,q.2))|r=>r)
   |none=>none):=rfl
  by_cases hk:k=p.1
  ·refine ⟨some (0,f p.2),by rw[step];simp[hk],?_⟩
   unfold fY;rw[if_pos hk];rfl
  ·have hg:fY (p::m) k v=p::fY m k v:=by rw[fY,if_neg hk]
   rw[hg];have hc:j8 f (p::fY m k v)=(.str p.1,f p.2)::j8 f (fY m k v):=rfl;have hc2:j8 f (p::m)=(.str p.1,f p.2)::j8 f m:=rfl;cases r with
   |none=>exact ⟨none,by rw[step];simp[hk,h1],by rw[hc,<-h2,hc2];rfl⟩
   |some q=>exact ⟨some (q.1+1,q.2),by rw[step];simp[hk,h1],by rw[hc,<-h2,hc2];rfl⟩
theorem gL {k:ByteArray} {d b:Bool} {m:List (ByteArray×Bool)} (h:fJ m k d=b):∃r,hJ (.str k) (j8 AV.bool m)=some r/\wA false (some (.bool d)) r=some (.bool b):=h ▸ Fm m
theorem aZ.cast {E:Env} {f:Nat} {bs bs':List (Nat×Bx)} {xs:List AV} {y y':AV} (h:aZ E f bs xs y bs') (e:y=y'):aZ E f bs xs y' bs':=e ▸ h
theorem Og {E:Env} {f:Nat} {bs bs':List (Nat×Bx)} {xs:List AV} {a b:Bool} (h:aZ E f bs xs (.bool a) bs') (e:a=b):aZ E f bs xs (.bool b) bs':=e ▸ h
theorem aZ.dat {E:Env} {f K s n:Nat} {z:Bool} {e:TypeId} {Q:List (List AV)} {bs bs':List (Nat×Bx)} {xs:List AV} (h:aZ E f bs xs (.ms K s 0 n) bs') (hl:lk K bs'=some (.rows z e s Q)) (hn:lk K bs=none) (hq:Q.length=n) (hb:r8 K bs'= []):
  aZ E f bs xs (sel z (.sln e s Q) (.slice e s Q)) ((bE K bs').map fun p=>(p.1,Bx.frz K (sel z (.sln e s Q) (.slice e s Q)) (fun _=>.undef) p.2)):=.mk fun {F g φ hh aa} ent has=>by
 subst hq;obtain ⟨F',g',φ',h1,v,go,hv,r⟩:=h.go ent has;have hp:(LO F g φ bs hh).pk K=false:=by show (lk K bs).isSome=false;rw[hn];rfl
 have ed:(sel z (.sln e s Q) (.slice e s Q):AV)=uv (.rows z e s Q):=by cases z<;>rfl
 have r0:=r.put (d:=0) (v:=v) (x:=.ms K s 0 Q.length) (tm':=fun t=>if t=0 then some v else none) (fun t=>rfl) fun _=>hv
 obtain ⟨F2,hF,r2⟩:=r0.frz (K:=K) (b:=.rows z e s Q) (D:=uv (.rows z e s Q)) (L:=fun _=>.undef) (sz:=s) (m:=Q.length) hl hp (fun q hq=>by
  rcases List.mem_append.1 hq with hq|hq
  ·have hq:q∈sel (Nat.beq K K) (sel (Nat.beq 0 0) [(s,Q.length)] []) []++ []:=hq;rw[show Nat.beq K K=true from (beq_iff _ _).2 rfl] at hq;have hq:q∈ [(s,Q.length)]:=by simpa using hq
   simpa using hq
  ·have hq:q∈r8 K bs':=hq;rw[hb] at hq;cases hq) fun F' hF hi q=>⟨hF,(td hF rfl hi q).ms,fun v off _=>.undef v⟩
 have hne:uv (.rows z e s Q)≠ .undef:=by cases z<;>(intro hc;cases hc)
 have e0:uw K (uv (.rows z e s Q)) (fun _=>.undef) (.ms K s 0 Q.length)=uv (.rows z e s Q):=by
  show sel (Nat.beq K K) (sel (Nat.beq 0 0) _ _) _=_;rw[show Nat.beq K K=true from (beq_iff _ _).2 rfl];rfl
 obtain ⟨v',v1,v2⟩:=r2.tm 0 _ (show lk 0 [((0:Nat),uw K (uv (.rows z e s Q)) (fun _=>.undef) (.ms K s 0 Q.length))]=some _ from by rw[aW,if_pos rfl]) (by rw[e0];exact hne)
 have ev:v=v':=by simpa using v1
 subst ev;rw[e0] at v2;refine ⟨F2,g',φ',h1,v,go,by rw[ed];exact v2,?_⟩
 rw[ed];exact {r2 with tm:=fun t x hx _=>(by cases hx)}
theorem aZ.done {E:Env} {k:Nat} {v:SV} {y:AV} (hd:rB k E.done=some v) (hv:∀F g,VA F g v y):aZ E k [] [] y []:=.mk fun {F g φ h aa} ent has=>by
 cases has;exact ⟨F,g,φ,⟨h.hp,h.nx,[]⟩,v,bw.done hd,hv F g,ent⟩
theorem aZ.cmp {E:Env} {k:Nat} {fn:Func} {a b:ByteArray} (hg:E.fn.get k=some fn) (hb:fn.body=none) (hn:(fn.name== "internal/bytealg.abigen_runtime_cmpstring")=true):aZ E k [] [.str a,.str b] (.int .i64 (qF a b)) []:=.mk fun {F g φ h aa} ent has=>by
 cases has with|cons h1 t1=>
 cases t1 with|cons h2 t2=>
 cases t2;cases h1;cases h2;refine ⟨F,g,φ,⟨h.hp,h.nx,[]⟩,.int .i64 (.lit (qF a b)),?_,.int _ _,ent⟩;refine .step ⟨0,fun n _=> ?_⟩
 show wy E (run E n) k (E.fn.get k) [.str a,.str b] h=_;rw[hg];show @Option.rec Code (fun _=>Out) (LD fn [.str a,.str b] h) _ fn.body=_
 rw[hb];show sel (fn.name== "internal/bytealg.abigen_runtime_cmpstring") (Out.res (.int .i64 (.lit (qF a b))) h) (Out.fail fn.name)=_;rw[hn];rfl
theorem Of {E:Env} {X:Fx E} {f:Nat} {bs bs':List (Nat×Bx)} {xs:List AV} {y:AV} {s:LS} (hk:ye E f X.fn X.code) (hn:Nat.ble xs.length X.fn.ntmps=true) (hp:qp bs=X.pks) (hs:(⟨pd 0 xs,bs⟩:LS)=s) (h:At X [] s y bs'):aZ E f bs xs y bs':=Sf hk hn hp (hs ▸ h)
end
section
variable {F F':Hf} {g g':Gb} {E:Env}
mutual
def gI:AV->Bool
 | .slice _ _ _=>false
 | .sln _ _ _=>false
 | .slf _ _ _=>false
 | .slx _ _ _=>false
 | .imm _=>false
 | .agg cs=>eR cs
 | .tup vs=>eR vs
 | .fn _ a c=>eR a&&eR c
 | .ifc _ x=>gI x
 |_=>true
def eR:List AV->Bool
 | []=>true
 |x::l=>gI x&&eR l
end
mutual
theorem VA.qI:∀{x:AV} {v:SV},VA F g v x->gI x=true->VA F' g v x
 | .slice _ _ _,_,_,h=>by cases h
 | .sln _ _ _,_,_,h=>by cases h
 | .slf _ _ _,_,_,h=>by cases h
 | .slx _ _ _,_,_,h=>by cases h
 | .imm _,_,_,h=>by cases h
 | .agg cs,_,hv,h=>by cases hv with|agg q=>exact .agg (VAs.qI q h)
 | .tup cs,_,hv,h=>by cases hv with|tup q=>exact .tup (VAs.qI q h)
 | .fn i a c,_,hv,h=>by
  have h:(eR a&&eR c)=true:=h;rw[Bool.and_eq_true] at h;cases hv with|fn _ h1 h2=>exact .fn i (VAs.qI h1 h.1) (VAs.qI h2 h.2)
 | .ifc t x,_,hv,h=>by cases hv with|ifc _ q=>exact .ifc t (VA.qI q h)
 | .bool _,_,hv,_=>by cases hv;exact .bool _
 | .int _ _,_,hv,_=>by cases hv;exact .int _ _
 | .str _,_,hv,_=>by cases hv;exact .str _
 | .aU,_,hv,_=>by cases hv;exact .aU
 | .cU,_,hv,_=>by cases hv;exact .cU
 | .cV,_,hv,_=>by cases hv;exact .cV
 | .dt,_,hv,_=>by cases hv;exact .dt
 | .cW,_,hv,_=>by cases hv;exact .cW
 | .loc _ _,_,hv,_=>by cases hv;exact .loc _ _
 | .el _ _ _ _,_,hv,_=>by cases hv with|el _ _ _ hb=>exact .el _ _ _ hb
 | .ms _ _ _ _,_,hv,_=>by
  cases hv with
  |msN _ hb=>exact .msN _ hb
  |ms _ _ _ hb=>exact .ms _ _ _ hb
  |msE _ _ hl=>exact .msE _ _ hl
 | .mp _,_,hv,_=>by cases hv;exact .mp _
 | .it _,_,hv,_=>by cases hv;exact .it _
 | .undef,v,_,_=>.undef v
theorem VAs.qI:∀{xs:List AV} {vs:List SV},VAs F g vs xs->eR xs=true->VAs F' g vs xs
 | [],_,hv,_=>by cases hv;exact .nil
 |x::l,_,hv,h=>by
  have h:(gI x&&eR l)=true:=h;rw[Bool.and_eq_true] at h;cases hv with|cons a b=>exact .cons (VA.qI a h.1) (VAs.qI b h.2)
end
theorem zj:∀{Q:List (List AV)},(∀r∈Q,eR r=true)->eR Q.flatten=true
 | [],_=>rfl
 |r::Q,h=>by
  have ap:∀{a b:List AV},eR a=true->eR b=true->eR (a++b)=true:=fun {a}=>by
   induction a with
   |nil=>exact fun _ h=>h
   |cons x l ih=>
    intro b h1 h2;have h1:(gI x&&eR l)=true:=h1;rw[Bool.and_eq_true] at h1;show (gI x&&eR (l++b))=true;rw[Bool.and_eq_true];exact ⟨h1.1,ih h1.2 h2⟩
  exact ap (h r (by simp)) (zj fun r hr=>h r (by simp[hr]))
theorem RowsK.gI {α:Type} {enc:α->List AV} {rows:List α->List (List AV)} (R:RowsK enc rows) (h:∀x,eR (enc x)=true) (xs:List α):∀r∈rows xs,eR r=true:=by
 rw[R.map];intro r hr;obtain ⟨x,_,e⟩:=List.mem_map.1 hr;rw[<-e];exact h x
theorem aZ.rn {m:P1} {f k s n RK s':Nat} {z z':Bool} {e e':TypeId} {Q Q':List (List AV)} {xs xs0:List AV} {y:AV} (h:aZ E f [] xs0 y [(RK,.rows z' e' s' Q')]) (hy:gI y=true) (hky:((bV y).all fun j=>Nat.beq j RK)=true) (hx:jU k (m.app (sel z (.sln e s Q) (.slice e s Q))) (fun _=>.undef) xs=xs0) (hq:Q.length=n) (ho:lh k xs= [(s,n)]) (hne:Nat.beq RK k=false) (hd:∀r∈Q',eR r=true):
  aZ E f [(k,.rows z e s Q)] xs y [(k,.rows z e s Q),(RK,.rows z' e' s' Q')]:=.mk fun {F g φ hh aa} ent has=>by
 subst hq;subst hx;have hne:RK≠k:=fun e=>by rw[(beq_iff _ _).2 e] at hne;cases hne
 have hb:lk k [(k,Bx.rows z e s Q)]=some (.rows z e s Q):=by rw[aW,if_pos rfl]
 have zY:=ent.bx k _ hb;let F1:Hf:=fun i=>if i∈φ k then hh.hp.get i else F i
 have nf:∀i∈φ k,F i=none:=ent.nf k _ hb;have hF:Hle F F1:=fun id o hi=>by
  show (if id∈φ k then hh.hp.get id else F id)=some o
  split
  ·exact ent.sub id o hi
  ·exact hi
 have qu:Hle F1 hh.hp.get:=fun id o hi=>by
  have hi:(if id∈φ k then hh.hp.get id else F id)=some o:=hi
  split at hi
  ·exact hi
  ·exact ent.sub id o hi
 have ed:(sel z (.sln e s Q) (.slice e s Q):AV)=uv (.rows z e s Q):=by cases z<;>rfl
 have zv:EC F F1 g k (m.app (sel z (.sln e s Q) (.slice e s Q))) (fun _=>.undef) s Q.length:=by
  rw[ed];have:=td (x:=false) (F:=F) (F':=F1) (g:=g) (hp:=hh.hp.get) (K:=k) (b:=.rows z e s Q) (fp:=φ k) hF rfl (fun i hi=>if_pos hi) zY
  exact ⟨hF,fun v hv=>m.va (this.ms v hv),fun v off _=>.undef v⟩
 have ZQ:Ent F1 g φ [] hh:=by
  refine ⟨fun t x hx=>(by cases hx),fun k b hb=>(by cases hb),fun k k' b b' hb=>(by cases hb),fun k b hb=>(by cases hb),qu,ent.bd,Nat.le_refl _,fun x _ _=>rfl,Hle.refl _,fun id o hi=>.inl hi,fun k b hb=>(by cases hb),fun x hx=>(by cases hx),fun k hk=> ?_⟩
  have:(lk k ([]:List (Nat×Bx))).isSome=true:=hk;cases this
 have Zv:VAs F1 g aa (jU k (m.app (sel z (.sln e s Q) (.slice e s Q))) (fun _=>.undef) xs):=VAs.frz zv has fun q hq=>by
  rw[ho] at hq;simpa using hq
 obtain ⟨F2,g2,φ2,h1,v,go,hv,r⟩:=h.go ZQ Zv;have hRK:lk RK [(RK,Bx.rows z' e' s' Q')]=some (.rows z' e' s' Q'):=by rw[aW,if_pos rfl]
 have q2:=r.bx RK _ hRK;have QR:∀i∈φ2 RK,hh.nx<=i:=fun i hi=>(r.gJ RK _ hRK i hi).elim (fun c=>by
  have:(lk RK ([]:List (Nat×Bx))).isSome=true:=c.1;cases this) fun c=>c
 have Kt:∀i∈φ k,i<hh.nx:=fun i hi=>by
  by_cases hlt:i<hh.nx
  ·exact hlt
  ·exact absurd (ent.bd i (show hh.nx<=i by omega)) (zY.there i hi)
 have fL:∀x,x<hh.nx->h1.hp.get x=hh.hp.get x:=fun x hx=>r.old x hx fun k' hp=>by
  have:(lk k' ([]:List (Nat×Bx))).isSome=true:=hp.1;cases this
 let g3:Gb:=⟨fun j=>if j=k then g.ρ j else g2.ρ j,fun j=>if j=k then g.κ j else g2.κ j,fun j=>if j=k then g.β j else g2.β j⟩
 have g3k:fT g g3 [k]:=fun j hj=>by
  have e:j=k:=by simpa using hj
  exact ⟨if_pos e,if_pos e,if_pos e⟩
 have g3o:fT g2 g3 [RK]:=fun j hj=>by
  have e:j≠k:=by rw[show j=RK by simpa using hj];exact hne
  exact ⟨if_neg e,if_neg e,if_neg e⟩
 have lks:∀{j b},lk j [(k,Bx.rows z e s Q),(RK,Bx.rows z' e' s' Q')]=some b->(j=k/\b= .rows z e s Q)\/(j=RK/\j≠k/\b= .rows z' e' s' Q'):=fun {j b} hj=>by
  rw[aW,aW] at hj;split at hj
  ·cases hj;exact .inl ⟨by assumption,rfl⟩
  ·split at hj
   ·cases hj;exact .inr ⟨by assumption,by assumption,rfl⟩
   ·cases hj
 have Yd:Hle F h1.hp.get:=fun id o hi=>r.sub id o (r.f0 id o (hF id o hi))
 have flt:∀i o,F i=some o->i<hh.nx:=fun i o hi=>by
  by_cases hlt:i<hh.nx
  ·exact hlt
  ·have:=ent.sub i o hi;rw[ent.bd i (show hh.nx<=i by omega)] at this;cases this
 refine ⟨F,g3,fun j=>if j=k then φ k else φ2 j,h1,v,go,?_,?_⟩
 ·exact (hv.qI hy).gb (fun j hj=>g3o j (List.mem_singleton.2 ((beq_iff _ _).1 (List.all_eq_true.1 hky j hj))))
 ·refine ⟨fun t x hx=>(by cases hx),fun j b hj=> ?_,fun j j' b b' hj hj' hjj i hi=> ?_,fun j b hj i hi=> ?_,Yd,r.bd,r.nx,fun x hx _=>fL x hx,Hle.refl _,fun id o hi=>.inl hi,fun j b hj i hi=> ?_,fun x hx=> ?_,fun j hj=> ?_⟩
  ·rcases lks hj with ⟨rfl,rfl⟩|⟨rfl,hjk,rfl⟩
   ·rw[if_pos rfl];exact cD.fL (Hle.refl F) (zY.gb g3k (fun _ hc=>by cases hc)) fun i hi=>fL i (Kt i hi)
   ·rw[if_neg hjk];have:cD F g2 h1.hp.get j (.rows z' e' s' Q') (φ2 j):=by
     generalize φ2 j=fp at q2 ⊢;cases q2 with
     |cH hb0=>exact .cH hb0
     |rows hb0 hh0 hz hu hc q=>exact .rows hb0 hh0 hz hu hc (VAs.qI q (zj hd))
    exact this.gb g3o (fun _ hc=>by cases hc)
  ·rcases lks hj with ⟨rfl,rfl⟩|⟨rfl,hjk,rfl⟩<;>rcases lks hj' with ⟨rfl,rfl⟩|⟨rfl,hjk',rfl⟩
   ·exact absurd rfl hjj
   ·rw[if_pos rfl] at hi;rw[if_neg hjk'];exact fun hc=>by have:=QR i hc;have:=Kt i hi;omega
   ·rw[if_neg hjk] at hi;rw[if_pos rfl];exact fun hc=>by have:=QR i hi;have:=Kt i hc;omega
   ·exact absurd rfl hjj
  ·rcases lks hj with ⟨rfl,rfl⟩|⟨rfl,hjk,rfl⟩
   ·rw[if_pos rfl] at hi;exact nf i hi
   ·rw[if_neg hjk] at hi;cases hf:F i with
    |none=>rfl
    |some o=>have:=flt i o hf;have:=QR i hi;omega
  ·rcases lks hj with ⟨rfl,rfl⟩|⟨rfl,hjk,rfl⟩
   ·rw[if_pos rfl] at hi;exact .inl ⟨by show (lk j [(j,Bx.rows z e s Q)]).isSome=true;rw[hb];rfl,hi⟩
   ·rw[if_neg hjk] at hi;exact .inr (QR i hi)
  ·rcases r.lg x hx with ⟨k',hp⟩|hp
   ·have:(lk k' ([]:List (Nat×Bx))).isSome=true:=hp.1;cases this
   ·exact .inr hp
  ·have hj:(lk j [(k,Bx.rows z e s Q)]).isSome=true:=hj;rw[aW] at hj;split at hj
   ·rename_i e;rw[e];exact g3k
   ·cases hj
theorem aZ.lend {m:P1} {f k s n RK s' n':Nat} {z z':Bool} {e e':TypeId} {Q Q':List (List AV)} {xs xs0:List AV} (h:aZ E f [] xs0 (.ms RK s' 0 n') [(RK,.rows z' e' s' Q')]) (hx:jU k (m.app (sel z (.sln e s Q) (.slice e s Q))) (fun _=>.undef) xs=xs0) (hq:Q.length=n) (ho:lh k xs= [(s,n)]) (hne:Nat.beq RK k=false) (hd:∀r∈Q',eR r=true):
  aZ E f [(k,.rows z e s Q)] xs (.ms RK s' 0 n') [(k,.rows z e s Q),(RK,.rows z' e' s' Q')]:=h.rn rfl (by rw[List.all_eq_true];intro j hj;rw[beq_iff];simpa[bV] using hj) hx hq ho hne hd
theorem aZ.abW {m:P1} {x:Bool} {f k:Nat} {b:Bx} {xs xs0:List AV} {y:AV} (h:aZ E f [] xs0 y []) (hb0:fH b=true) (hx:jU k (m.app (Ed x b)) (fun _=>.undef) xs=xs0) (ho:lh k xs= [Lx b]) (hd:gI y=true) (hk:(bV y).isEmpty=true):
  aZ E f [(k,b)] xs y [(k,b)]:=.mk fun {F g φ hh aa} ent has=>by
 subst hx;have hb:lk k [(k,b)]=some b:=by rw[aW,if_pos rfl]
 have zY:=ent.bx k _ hb;let F1:Hf:=fun i=>if i∈φ k then hh.hp.get i else F i
 have nf:∀i∈φ k,F i=none:=ent.nf k _ hb;have hF:Hle F F1:=fun id o hi=>by
  show (if id∈φ k then hh.hp.get id else F id)=some o
  split
  ·exact ent.sub id o hi
  ·exact hi
 have qu:Hle F1 hh.hp.get:=fun id o hi=>by
  have hi:(if id∈φ k then hh.hp.get id else F id)=some o:=hi
  split at hi
  ·exact hi
  ·exact ent.sub id o hi
 have zv:EC F F1 g k (m.app (Ed x b)) (fun _=>.undef) (Lx b).1 (Lx b).2:=by
  have:=td (x:=x) (F:=F) (F':=F1) (g:=g) (hp:=hh.hp.get) (K:=k) (b:=b) (fp:=φ k) hF hb0 (fun i hi=>if_pos hi) zY
  exact ⟨hF,fun v hv=>m.va (this.ms v hv),fun v off _=>.undef v⟩
 have ZQ:Ent F1 g φ [] hh:=by
  refine ⟨fun t x hx=>(by cases hx),fun k b hb=>(by cases hb),fun k k' b b' hb=>(by cases hb),fun k b hb=>(by cases hb),qu,ent.bd,Nat.le_refl _,fun x _ _=>rfl,Hle.refl _,fun id o hi=>.inl hi,fun k b hb=>(by cases hb),fun x hx=>(by cases hx),fun k hk=> ?_⟩
  have:(lk k ([]:List (Nat×Bx))).isSome=true:=hk;cases this
 have Zv:VAs F1 g aa (jU k (m.app (Ed x b)) (fun _=>.undef) xs):=VAs.frz zv has fun q hq=>by
  rw[ho] at hq;simpa using hq
 obtain ⟨F2,g2,φ2,h1,v,go,hv,r⟩:=h.go ZQ Zv;have Kt:∀i∈φ k,i<hh.nx:=fun i hi=>by
  by_cases hlt:i<hh.nx
  ·exact hlt
  ·exact absurd (ent.bd i (show hh.nx<=i by omega)) (zY.there i hi)
 have fL:∀x,x<hh.nx->h1.hp.get x=hh.hp.get x:=fun x hx=>r.old x hx fun k' hp=>by
  have:(lk k' ([]:List (Nat×Bx))).isSome=true:=hp.1;cases this
 have lks:∀{j c},lk j [(k,b)]=some c->j=k/\b=c:=fun {j c} hj=>by
  rw[aW] at hj;split at hj
  ·cases hj;exact ⟨by assumption,rfl⟩
  ·cases hj
 have Yd:Hle F h1.hp.get:=fun id o hi=>r.sub id o (r.f0 id o (hF id o hi))
 refine ⟨F,g,φ,h1,v,go,(hv.qI hd).fH hk,?_⟩;refine ⟨fun t x hx=>(by cases hx),fun j b hj=> ?_,fun j j' b b' hj hj' hjj i hi=> ?_,fun j b hj i hi=> ?_,Yd,r.bd,r.nx,fun x hx _=>fL x hx,Hle.refl _,fun id o hi=>.inl hi,fun j b hj i hi=> ?_,fun x hx=> ?_,fun j hj=> ?_⟩
 ·obtain ⟨rfl,rfl⟩:=lks hj;exact cD.fL (Hle.refl F) zY fun i hi=>fL i (Kt i hi)
 ·obtain ⟨rfl,rfl⟩:=lks hj;obtain ⟨rfl,rfl⟩:=lks hj';exact absurd rfl hjj
 ·obtain ⟨rfl,rfl⟩:=lks hj;exact nf i hi
 ·obtain ⟨rfl,rfl⟩:=lks hj;exact .inl ⟨by show (lk j [(j,b)]).isSome=true;rw[hb];rfl,hi⟩
 ·rcases r.lg x hx with ⟨k',hp⟩|hp
  ·have:(lk k' ([]:List (Nat×Bx))).isSome=true:=hp.1;cases this
  ·exact .inr hp
 ·exact fun _ _=>⟨rfl,rfl,rfl⟩
theorem aZ.QT {m:P1} {f k s n:Nat} {z:Bool} {e:TypeId} {Q:List (List AV)} {xs xs0:List AV} {y:AV} (h:aZ E f [] xs0 y []) (hx:jU k (m.app (sel z (.sln e s Q) (.slice e s Q))) (fun _=>.undef) xs=xs0) (hq:Q.length=n) (ho:lh k xs= [(s,n)]) (hd:gI y=true) (hk:(bV y).isEmpty=true):
  aZ E f [(k,.rows z e s Q)] xs y [(k,.rows z e s Q)]:=by
 subst hq;exact h.abW (m:=m) (x:=false) rfl (by cases z<;>exact hx) ho hd hk
theorem aZ.air {m:P1} {x:Bool} {f k s n:Nat} {e e':TypeId} {Q:List (Option (List (List AV)))} {P:List (List AV)} {xs xs0:List AV} {y:AV} (h:aZ E f [] xs0 y []) (hP:Q.map (zM x e' s)=P) (hx:jU k (m.app (.slice e 1 P)) (fun _=>.undef) xs=xs0) (hq:Q.length=n) (ho:lh k xs= [(1,n)]) (hd:gI y=true) (hk:(bV y).isEmpty=true):
  aZ E f [(k,.own e e' s Q none)] xs y [(k,.own e e' s Q none)]:=by
 subst hq;subst hP;exact h.abW (m:=m) (x:=x) rfl hx ho hd hk
theorem aZ.pm {f:Nat} {bs bs':List (Nat×Bx)} {xs:List AV} {y:AV} (m:P1) (h:aZ E f bs xs y bs'):aZ E f bs xs (m.app y) bs':=.mk fun ent has=>by
 obtain ⟨F',g',φ',h1,v,a,b,c⟩:=h.go ent has;exact ⟨F',g',φ',h1,v,a,m.va b,c⟩
end
end Go.Sim
namespace Go.Sim
open Go.RowKit
section
def img (nb:Nat):Value->SV
 | .bool b=>.bool b
 | .int k n=>.int k (.lit n)
 | .string s=>.str s
 | .slice a n c=>
  if n=0 then (if a=none/\c=0 then .aU else .sle)
  else (match a with
   |some ⟨b,o,none⟩=>if b<nb/\n<=c then .sl b o n (.k c) else .undef
   |_=>.undef)
 |_=>.undef
def Lb (nb:Nat):Value->SV
 | .agg cs=>.agg (cs.toList.map (img nb))
 |v=>img nb v
def Rm (nb:Nat):Obj->Option SO
 | .cells cur _ _=>some (.ro (cur.toList.map (img nb)))
 |_=>none
def mir (nb:Nat):List Obj->Nat->Hp
 | [],_=>.nil
 |o::l,i=>(mir nb l (i+1)).set i (Rm nb o)
def j5 (W:World):Hp:=mir W.heap.size W.heap.toList 0
def gW (P:Program) (W:World):Gh:=⟨fun _=>0,P.cellsOf,fun id=>if id<W.heap.size then some (id,0) else none,fun _=>0,fun _=>0,fun b=>W.heap[b]?⟩
theorem Ph (nb:Nat):∀(l:List Obj) (i x:Nat),(mir nb l i).get x=if x<i then none else (l[x-i]?).bind (Rm nb)
 | [],i,x=>by show (Tr.nil:Hp).get x=_;simp;rfl
 |o::l,i,x=>by
  show ((mir nb l (i+1)).set i (Rm nb o)).get x=_;rw[Tr.dv];by_cases hx:x=i
  ·subst hx;simp
  ·rw[if_neg hx,Ph nb l (i+1) x];by_cases hlt:x<i
   ·rw[if_pos hlt,if_pos (by omega)]
   ·rw[if_neg hlt,if_neg (by omega),show x-i=(x-(i+1))+1 by omega,List.getElem?_cons_succ]
theorem ua (W:World) (x:Nat):(j5 W).get x=(W.heap[x]?).bind (Rm W.heap.size):=by
 unfold j5;rw[Ph];simp
variable {P:Program} {W:World}
theorem La (v:Value):VR (gW P W) v (img W.heap.size v):=by
 unfold img;split
 ·exact .bool _
 ·exact .int _ _ rfl
 ·exact .str _
 ·rename_i a n c;split
  ·rename_i hn;subst hn;split
   ·rename_i h;obtain ⟨rfl,rfl⟩:=h;exact .aU
   ·exact .sle
  ·split
   ·rename_i b o;split
    ·rename_i h;have:=VR.sl (g:=gW P W) (id:=b) (off:=o) (n:=n) (b:=b) (o:=0) (c:=c) (cap:=.k c) (by show (if b<W.heap.size then some (b,0) else none)=_;rw[if_pos h.1]) h.2 (fun m hm=>by cases hm;rfl) (fun e he=>by cases he)
     rwa[Nat.zero_add] at this
    ·exact .undef _
   ·exact .undef _
 ·exact .undef _
theorem Pl {nb:Nat} {v:Value} (h:isU (img nb v)=false):v.oneCell'=true:=by
 cases v<;>first|rfl|(cases h;done)
theorem agf:HR (gW P W) (j5 W).get W:=by
 refine ⟨fun id o ho=> ?_,fun i j x y b c d hx hy h1 h2=> ?_⟩
 ·rw[ua] at ho;cases hb:W.heap[id]? with
  |none=>rw[hb] at ho;cases ho
  |some ob=>
   have hlt:id<W.heap.size:=(Array.getElem?_eq_some_iff.1 hb).1;refine ⟨id,0,if_pos hlt,hlt,?_⟩;rw[hb] at ho;cases ob with
   |cells cur e fz=>
    cases ho;refine ⟨cur,e,fz,hb,hb,fun j x hx=> ?_⟩
    rw[List.getElem?_map] at hx;cases hv:cur.toList[j]? with
    |none=>rw[hv] at hx;cases hx
    |some v=>
     rw[hv] at hx;cases hx;exact ⟨v,by rw[Nat.zero_add];simpa using hv,fun hu=>⟨Pl hu,La v⟩⟩
   |_=>cases ho
 ·have k1:(if i<W.heap.size then some (i,0) else none)=some (b,c):=h1
  have k2:(if j<W.heap.size then some (j,0) else none)=some (b,d):=h2
  split at k1
  ·split at k2
   ·cases k1;cases k2;rfl
   ·cases k2
  ·cases k1
variable {E:Env} {g:Gh} {w:World}
theorem Qo (hS:kR E) {n:Nat} {k:FuncId} {aa:List SV} {v:SV} {h h':Hs} (hb:Bd h) (fj:run E n (.call (.fn (.func k) [] []) aa h)= .cI [⟨false,v,h'⟩]) (hgo:ur E (.fn (.func k) [] [])=true) (hE:bC E g) (hr:HR g h.hp.get w) (hfr:∀x,h.nx<=x->g.ρ x=none)
  {us:List Value} (hus:VRs g us aa) (m:Nat):CallsIn Fence.wide m E.P k us.toArray w fun e w'=>∃r g',e= .returned r/\VR g' r v/\HR g' h'.hp.get w'/\Fr g h.hp.get w g' h'.hp.get w':=by
 have hs:=vD hS n (.call (.fn (.func k) [] []) aa h);rw[fj] at hs;obtain ⟨_,_,sem⟩:=(show Bd h->_ from hs) hb;obtain ⟨k',fi,ca,fn,e1,hfn,iD⟩:=rA hgo;cases e1;obtain ⟨d,hd1,hd2⟩:=sem.one m g w (.func (.func k) #[] #[]) us hE hr hfr (.fn .nil .nil) hus;have hd:d={target:=.fn (.func k) #[],args:= #[]++us.toArray}:=by
  rw[qj] at hd1;cases hd1;rfl
 subst hd;have oV:∀(args:Array Value) (w:World),(invoke (.fn (.func k) #[]) args).run E.P w=(callFunc k (args++ #[])).run E.P w:=fun _ _=>rfl
 rcases iy (hS.fn k fn hfn).1 iD (#[]++us.toArray++ #[]) w with ⟨hc,_⟩|hc
 ·rcases hd2 with ⟨k',as',q1,q2⟩|⟨l,k',t',as',b',q1,_⟩|⟨r,w',q1,_⟩<;>(rw[oV,hc] at q1;cases q1)
 ·rcases hd2 with ⟨k',as',q1,q2⟩|⟨l,k',t',as',b',q1,_⟩|⟨r,w',q1,_⟩
  ·rw[oV,hc] at q1;cases q1;have e: #[]++us.toArray++ #[]=us.toArray:=by simp
   rw[e] at q2;refine CallsIn.mono q2 ?_;rintro e w' ⟨r,rfl,g',h1,h2,h3,_,_⟩;exact ⟨r,g',rfl,h1,h2,h3⟩
  ·rw[oV,hc] at q1;cases q1
  ·rw[oV,hc] at q1;cases q1
theorem Se {E:Env} (hS:kR E) (hE:bC E (gW E.P W)) {f:FuncId} {xs:List AV} {b:Bool} (hc:aZ E f [] xs (.bool b) []) (hgo:ur E (.fn (.func f) [] [])=true)
  {us:List Value} {aa:List SV} (hx:VAs (j5 W).get .no aa xs) (hus:VRs (gW E.P W) us aa):Calls E.P f us.toArray W fun e W'=>e= .returned (.bool b)/\Below W.heap.size W W':=by
 let h:Hs:=⟨j5 W,W.heap.size,[]⟩;have hbd:Bd h:=fun x hx=>by
  show (j5 W).get x=none;rw[ua,Array.getElem?_eq_none hx];rfl
 have hent:Ent (j5 W).get .no (fun _=> []) [] h:=by
  refine ⟨fun t x hx=>(by cases hx),fun k b hb=>(by cases hb),fun k k' b b' hb=>(by cases hb),fun k b hb=>(by cases hb),Hle.refl _,hbd,Nat.le_refl _,fun _ _ _=>rfl,Hle.refl _,fun _ _ h=>.inl h,fun k b hb=>(by cases hb),fun x hx=>(by cases hx),fun k hk=>(by cases hk)⟩
 obtain ⟨F',g',φ',h1,v,⟨n0,aiB⟩,hv,hrel⟩:=hc.go hent hx;have:=callsIn_wide.1 (Qo hS hbd (aiB n0 (Nat.le_refl _)) hgo hE agf (fun x hx=>if_neg (Nat.not_lt.2 hx)) hus 0)
 refine this.mono ?_;rintro e W' ⟨r,g2,rfl,k1,k2,k3⟩;cases hv;cases k1;refine ⟨rfl,k3.os,k3.tape,k3.output,k3.size,fun x hx=> ?_⟩
 have hold:h1.hp.get x=(j5 W).get x:=hrel.old x hx fun k hk=>by cases hk.1
 cases hm:(j5 W).get x with
 |none=>
  refine k3.old x hx fun ⟨id,o,c,z1,z2⟩=> ?_
  have z2:(if id<W.heap.size then some (id,0) else none)=some (x,c):=z2
  split at z2
  ·cases z2;have z1:(j5 W).get x=some o:=z1;rw[hm] at z1;cases z1
  ·cases z2
 |some o=>
  rw[hm] at hold;obtain ⟨b',c',y1,y2,y3⟩:=k2.ob x o hold;have y0:g2.ρ x=some (x,0):=k3.le.ρ x (x,0) (if_pos hx);rw[y0] at y1;cases y1;rw[ua] at hm;cases hb:W.heap[x]? with
  |none=>rw[hb] at hm;cases hm
  |some ob=>
   rw[hb] at hm;cases ob with
   |cells cur e fz=>
    cases hm;obtain ⟨cur',e',fz',w1,w2,_⟩:=y3;have w3:g2.wb x=W.heap[x]? :=congrFun k3.le.wb x;rw[w1,<-w2,w3,hb]
   |_=>cases hm
end
end Go.Sim
namespace Go.Sim
section
def m1A (x:AV):P1:=match x with
 | .slice e s _=>.sl e s
 | .sln e s _=>.sn e s
 | .slx e s _=>.sx e s
 | .undef=>.un
 |_=>.same
def pmA (x:AV):PM:=match x with
 | .agg l=>.agg (l.map m1A)
 |x=>.one (m1A x)
def pbA (b:Bx):PB:=match b with
 | .flat _ l=>.flat (l.map m1A)
 | .rows z _ _ _=>sel z .same .any
 |_=>.same
def TV (p:List Nat) (s:LS):rN:= [(p,s.ts.map fun q=>(q.1,pmA q.2),s.bs.map fun q=>(q.1,pbA q.2))]
variable {E:Env} {X:Fx E} {p p':List Nat} {s s':LS} {y:AV} {bs':List (Nat×Bx)} {α β R:Type}
theorem ra (k:At X p' s' y bs') (sc:Sc E) (h:JS (qT X (TV p' s') p s sc)=JT (.at p' s') (qT X (TV p' s') p s sc):=by kernel_rfl):At X p s y bs':=afJ h k
theorem rr {f:α->AV} {g:α->List (Nat×Bx)} {v r:α} (h:some v=some r) (sc:Sc E) (e:JS (qT X [] p s sc)=JT (.ret (f v) (g v)) (qT X [] p s sc):=by kernel_rfl):At X p s (f r) (g r):=by
 cases h;exact aem e
theorem be {x:Option β} {f:β->Option α} {r:α} {G:Prop} (h:x.bind f=some r) (k:∀y,x=some y->f y=some r->G):G:=Xo h k
theorem ie {b:Bool} {x y:Option α} {r:α} {G:Prop} (h:(if b=true then x else y)=some r) (k1:b=true->x=some r->G) (k2:b=false->y=some r->G):G:=YZ h k1 k2
theorem nz {r:α} {G:Prop} (h:none=some r):G:=by cases h
def fx (E:Env) (fn:Func) (pks outs:List Nat):Fx E:=⟨fn,fn.body.getD .skip,pks,outs⟩
def Cx (E:Env) (k:Nat) (f:R->AV) (g:R->List (Nat×Bx)) (s:LS) (r:R):Prop:=aZ E k s.bs (s.ts.map (·.2)) (f r) (g r)
theorem ca {k:Nat} {r:R} {f:R->AV} {g:R->List (Nat×Bx)} (h:At X [] s (f r) (g r)) (h1:E.fn.get k=some X.fn:=by kernel_rfl) (h2:X.fn.body=some X.code:=by kernel_rfl) (h3:qs X.fn.name=false:=by kernel_rfl) (h4:rB k E.done=none:=by kernel_rfl)
  (h9:Nat.ble (s.ts.map (·.2)).length X.fn.ntmps=true:=by kernel_rfl) (h10:qp s.bs=X.pks:=by kernel_rfl) (h11:(⟨pd 0 (s.ts.map (·.2)),s.bs⟩:LS)=s:=by kernel_rfl):Cx E k f g s r:=
 Of ⟨h1,h2,h3,h4⟩ h9 h10 h11 h
abbrev eb {a b:Bool} (h:a=b):It E:=.eqv (congrArg AV.bool h)
abbrev en {k:IntKind} {a b:Int} (h:(a==b)=true):It E:=.eqv (int_eq (k:=k) h)
theorem cb {f:Nat} {bs bs':List (Nat×Bx)} {xs:List AV} {a b:Bool} (h:aZ E f bs xs (.bool a) bs') (e:a=b):aZ E f bs xs (.bool b) bs':=Og h e
theorem ci {f:Nat} {k:IntKind} {bs bs':List (Nat×Bx)} {xs:List AV} {a b:Int} (h:aZ E f bs xs (.int k a) bs') (e:(a==b)=true):aZ E f bs xs (.int k b) bs':=h.cast (int_eq e)
def Ax (X:Fx E) (f:R->AV) (g:R->List (Nat×Bx)) (p:List Nat) (s:LS) (r:R):Prop:=At X p s (f r) (g r)
theorem cd {f K s n:Nat} {z:Bool} {e:TypeId} {Q:List (List AV)} {bs bs':List (Nat×Bx)} {xs:List AV} (h:aZ E f bs xs (.ms K s 0 n) bs') (hq:Q.length=n) (hl:lk K bs'=some (.rows z e s Q):=by kernel_rfl) (hn:lk K bs=none:=by kernel_rfl) (hb:r8 K bs'= []:=by kernel_rfl):
  aZ E f bs xs (sel z (.sln e s Q) (.slice e s Q)) ((bE K bs').map fun p=>(p.1,Bx.frz K (sel z (.sln e s Q) (.slice e s Q)) (fun _=>.undef) p.2)):=h.dat hl hn hq hb
def K0 (A:LS->R->Prop) (s:LS) (k:Option R):Prop:=∀ ⦃r:R⦄,k=some r->A (s) r
def K1 {T0:Type} (A:LS->R->Prop) (s:T0->LS) (k:T0->Option R):Prop:=∀ ⦃a0:T0⦄ ⦃r:R⦄,k a0=some r->A (s a0) r
def K2 {T0 T1:Type} (A:LS->R->Prop) (s:T0->T1->LS) (k:T0->T1->Option R):Prop:=∀ ⦃a0:T0⦄ ⦃a1:T1⦄ ⦃r:R⦄,k a0 a1=some r->A (s a0 a1) r
def K3 {T0 T1 T2:Type} (A:LS->R->Prop) (s:T0->T1->T2->LS) (k:T0->T1->T2->Option R):Prop:=∀ ⦃a0:T0⦄ ⦃a1:T1⦄ ⦃a2:T2⦄ ⦃r:R⦄,k a0 a1 a2=some r->A (s a0 a1 a2) r
def K4 {T0 T1 T2 T3:Type} (A:LS->R->Prop) (s:T0->T1->T2->T3->LS) (k:T0->T1->T2->T3->Option R):Prop:=∀ ⦃a0:T0⦄ ⦃a1:T1⦄ ⦃a2:T2⦄ ⦃a3:T3⦄ ⦃r:R⦄,k a0 a1 a2 a3=some r->A (s a0 a1 a2 a3) r
def K5 {T0 T1 T2 T3 T4:Type} (A:LS->R->Prop) (s:T0->T1->T2->T3->T4->LS) (k:T0->T1->T2->T3->T4->Option R):Prop:=∀ ⦃a0:T0⦄ ⦃a1:T1⦄ ⦃a2:T2⦄ ⦃a3:T3⦄ ⦃a4:T4⦄ ⦃r:R⦄,k a0 a1 a2 a3 a4=some r->A (s a0 a1 a2 a3 a4) r
def K6 {T0 T1 T2 T3 T4 T5:Type} (A:LS->R->Prop) (s:T0->T1->T2->T3->T4->T5->LS) (k:T0->T1->T2->T3->T4->T5->Option R):Prop:=∀ ⦃a0:T0⦄ ⦃a1:T1⦄ ⦃a2:T2⦄ ⦃a3:T3⦄ ⦃a4:T4⦄ ⦃a5:T5⦄ ⦃r:R⦄,k a0 a1 a2 a3 a4 a5=some r->A (s a0 a1 a2 a3 a4 a5) r
def K7 {T0 T1 T2 T3 T4 T5 T6:Type} (A:LS->R->Prop) (s:T0->T1->T2->T3->T4->T5->T6->LS) (k:T0->T1->T2->T3->T4->T5->T6->Option R):Prop:=∀ ⦃a0:T0⦄ ⦃a1:T1⦄ ⦃a2:T2⦄ ⦃a3:T3⦄ ⦃a4:T4⦄ ⦃a5:T5⦄ ⦃a6:T6⦄ ⦃r:R⦄,k a0 a1 a2 a3 a4 a5 a6=some r->A (s a0 a1 a2 a3 a4 a5 a6) r
def K8 {T0 T1 T2 T3 T4 T5 T6 T7:Type} (A:LS->R->Prop) (s:T0->T1->T2->T3->T4->T5->T6->T7->LS) (k:T0->T1->T2->T3->T4->T5->T6->T7->Option R):Prop:=∀ ⦃a0:T0⦄ ⦃a1:T1⦄ ⦃a2:T2⦄ ⦃a3:T3⦄ ⦃a4:T4⦄ ⦃a5:T5⦄ ⦃a6:T6⦄ ⦃a7:T7⦄ ⦃r:R⦄,k a0 a1 a2 a3 a4 a5 a6 a7=some r->A (s a0 a1 a2 a3 a4 a5 a6 a7) r
def K9 {T0 T1 T2 T3 T4 T5 T6 T7 T8:Type} (A:LS->R->Prop) (s:T0->T1->T2->T3->T4->T5->T6->T7->T8->LS) (k:T0->T1->T2->T3->T4->T5->T6->T7->T8->Option R):Prop:=∀ ⦃a0:T0⦄ ⦃a1:T1⦄ ⦃a2:T2⦄ ⦃a3:T3⦄ ⦃a4:T4⦄ ⦃a5:T5⦄ ⦃a6:T6⦄ ⦃a7:T7⦄ ⦃a8:T8⦄ ⦃r:R⦄,k a0 a1 a2 a3 a4 a5 a6 a7 a8=some r->A (s a0 a1 a2 a3 a4 a5 a6 a7 a8) r
def K10 {T0 T1 T2 T3 T4 T5 T6 T7 T8 T9:Type} (A:LS->R->Prop) (s:T0->T1->T2->T3->T4->T5->T6->T7->T8->T9->LS) (k:T0->T1->T2->T3->T4->T5->T6->T7->T8->T9->Option R):Prop:=∀ ⦃a0:T0⦄ ⦃a1:T1⦄ ⦃a2:T2⦄ ⦃a3:T3⦄ ⦃a4:T4⦄ ⦃a5:T5⦄ ⦃a6:T6⦄ ⦃a7:T7⦄ ⦃a8:T8⦄ ⦃a9:T9⦄ ⦃r:R⦄,k a0 a1 a2 a3 a4 a5 a6 a7 a8 a9=some r->A (s a0 a1 a2 a3 a4 a5 a6 a7 a8 a9) r
def K11 {T0 T1 T2 T3 T4 T5 T6 T7 T8 T9 T10:Type} (A:LS->R->Prop) (s:T0->T1->T2->T3->T4->T5->T6->T7->T8->T9->T10->LS) (k:T0->T1->T2->T3->T4->T5->T6->T7->T8->T9->T10->Option R):Prop:=∀ ⦃a0:T0⦄ ⦃a1:T1⦄ ⦃a2:T2⦄ ⦃a3:T3⦄ ⦃a4:T4⦄ ⦃a5:T5⦄ ⦃a6:T6⦄ ⦃a7:T7⦄ ⦃a8:T8⦄ ⦃a9:T9⦄ ⦃a10:T10⦄ ⦃r:R⦄,k a0 a1 a2 a3 a4 a5 a6 a7 a8 a9 a10=some r->A (s a0 a1 a2 a3 a4 a5 a6 a7 a8 a9 a10) r
def K12 {T0 T1 T2 T3 T4 T5 T6 T7 T8 T9 T10 T11:Type} (A:LS->R->Prop) (s:T0->T1->T2->T3->T4->T5->T6->T7->T8->T9->T10->T11->LS) (k:T0->T1->T2->T3->T4->T5->T6->T7->T8->T9->T10->T11->Option R):Prop:=∀ ⦃a0:T0⦄ ⦃a1:T1⦄ ⦃a2:T2⦄ ⦃a3:T3⦄ ⦃a4:T4⦄ ⦃a5:T5⦄ ⦃a6:T6⦄ ⦃a7:T7⦄ ⦃a8:T8⦄ ⦃a9:T9⦄ ⦃a10:T10⦄ ⦃a11:T11⦄ ⦃r:R⦄,k a0 a1 a2 a3 a4 a5 a6 a7 a8 a9 a10 a11=some r->A (s a0 a1 a2 a3 a4 a5 a6 a7 a8 a9 a10 a11) r
def K13 {T0 T1 T2 T3 T4 T5 T6 T7 T8 T9 T10 T11 T12:Type} (A:LS->R->Prop) (s:T0->T1->T2->T3->T4->T5->T6->T7->T8->T9->T10->T11->T12->LS) (k:T0->T1->T2->T3->T4->T5->T6->T7->T8->T9->T10->T11->T12->Option R):Prop:=∀ ⦃a0:T0⦄ ⦃a1:T1⦄ ⦃a2:T2⦄ ⦃a3:T3⦄ ⦃a4:T4⦄ ⦃a5:T5⦄ ⦃a6:T6⦄ ⦃a7:T7⦄ ⦃a8:T8⦄ ⦃a9:T9⦄ ⦃a10:T10⦄ ⦃a11:T11⦄ ⦃a12:T12⦄ ⦃r:R⦄,k a0 a1 a2 a3 a4 a5 a6 a7 a8 a9 a10 a11 a12=some r->A (s a0 a1 a2 a3 a4 a5 a6 a7 a8 a9 a10 a11 a12) r
def K14 {T0 T1 T2 T3 T4 T5 T6 T7 T8 T9 T10 T11 T12 T13:Type} (A:LS->R->Prop) (s:T0->T1->T2->T3->T4->T5->T6->T7->T8->T9->T10->T11->T12->T13->LS) (k:T0->T1->T2->T3->T4->T5->T6->T7->T8->T9->T10->T11->T12->T13->Option R):Prop:=∀ ⦃a0:T0⦄ ⦃a1:T1⦄ ⦃a2:T2⦄ ⦃a3:T3⦄ ⦃a4:T4⦄ ⦃a5:T5⦄ ⦃a6:T6⦄ ⦃a7:T7⦄ ⦃a8:T8⦄ ⦃a9:T9⦄ ⦃a10:T10⦄ ⦃a11:T11⦄ ⦃a12:T12⦄ ⦃a13:T13⦄ ⦃r:R⦄,k a0 a1 a2 a3 a4 a5 a6 a7 a8 a9 a10 a11 a12 a13=some r->A (s a0 a1 a2 a3 a4 a5 a6 a7 a8 a9 a10 a11 a12 a13) r
def K16 {T0 T1 T2 T3 T4 T5 T6 T7 T8 T9 T10 T11 T12 T13 T14 T15:Type} (A:LS->R->Prop) (s:T0->T1->T2->T3->T4->T5->T6->T7->T8->T9->T10->T11->T12->T13->T14->T15->LS) (k:T0->T1->T2->T3->T4->T5->T6->T7->T8->T9->T10->T11->T12->T13->T14->T15->Option R):Prop:=∀ ⦃a0:T0⦄ ⦃a1:T1⦄ ⦃a2:T2⦄ ⦃a3:T3⦄ ⦃a4:T4⦄ ⦃a5:T5⦄ ⦃a6:T6⦄ ⦃a7:T7⦄ ⦃a8:T8⦄ ⦃a9:T9⦄ ⦃a10:T10⦄ ⦃a11:T11⦄ ⦃a12:T12⦄ ⦃a13:T13⦄ ⦃a14:T14⦄ ⦃a15:T15⦄ ⦃r:R⦄,k a0 a1 a2 a3 a4 a5 a6 a7 a8 a9 a10 a11 a12 a13 a14 a15=some r->A (s a0 a1 a2 a3 a4 a5 a6 a7 a8 a9 a10 a11 a12 a13 a14 a15) r
def K19 {T0 T1 T2 T3 T4 T5 T6 T7 T8 T9 T10 T11 T12 T13 T14 T15 T16 T17 T18:Type} (A:LS->R->Prop) (s:T0->T1->T2->T3->T4->T5->T6->T7->T8->T9->T10->T11->T12->T13->T14->T15->T16->T17->T18->LS) (k:T0->T1->T2->T3->T4->T5->T6->T7->T8->T9->T10->T11->T12->T13->T14->T15->T16->T17->T18->Option R):Prop:=∀ ⦃a0:T0⦄ ⦃a1:T1⦄ ⦃a2:T2⦄ ⦃a3:T3⦄ ⦃a4:T4⦄ ⦃a5:T5⦄ ⦃a6:T6⦄ ⦃a7:T7⦄ ⦃a8:T8⦄ ⦃a9:T9⦄ ⦃a10:T10⦄ ⦃a11:T11⦄ ⦃a12:T12⦄ ⦃a13:T13⦄ ⦃a14:T14⦄ ⦃a15:T15⦄ ⦃a16:T16⦄ ⦃a17:T17⦄ ⦃a18:T18⦄ ⦃r:R⦄,k a0 a1 a2 a3 a4 a5 a6 a7 a8 a9 a10 a11 a12 a13 a14 a15 a16 a17 a18=some r->A (s a0 a1 a2 a3 a4 a5 a6 a7 a8 a9 a10 a11 a12 a13 a14 a15 a16 a17 a18) r
end
end Go.Sim
end
