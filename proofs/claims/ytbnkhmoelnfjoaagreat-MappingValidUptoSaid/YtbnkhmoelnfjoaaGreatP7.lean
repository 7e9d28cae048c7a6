/- Part. -/
import Derived.Test.YtbnkhmoelnfjoaaGreatP6
import Derived.Below
import Derived.Carry
import Derived.OpenShut
import Derived.JoinedCond
import Derived.KernelRfl
import Derived.Test.YtbnkhmoelnfjoaaGreatRows
import Derived.WalkKit
import Derived.ProofKit
import Derived.Deep.DeepHandedRow
import Derived.Test.YtbnkhmoelnfjoaaGreatProg
import Derived.Test.YtbnkhmoelnfjoaaGreatP3
set_option linter.all false
set_option maxRecDepth 1000000
noncomputable section
namespace Go.bQ
variable {k c a n i j A K s:Nat} {x v:SV} {l svs:aM} {h:Hs} {p:SV×cQ} {f:Hf} {e:TypeId} {J:cS} {o':SO} {fp':aI} {Q:aT} {z:Bool} {bs:bH} {xs:aB} {y:AV}
section
variable {F F':Hf} {g g':Gb} {E:Env}
def df.NO (hf:E.fn.get k=none) (hp:rM k E.rK=some c) (ho:oo E c h.hp.get h.nx (x::l)=some p):df E (.call (.fn (.func k) [] []) (x::l) h) (.res p.1 (ach h p.2)):=by
 refine .step ⟨0,λn _=> ?_⟩
 have e: []++(x::l)++ []=x::l:=by simp
 show @Option.rec SV (λ_=>Out) (Ht E (run E n) k (E.fn.get k) ([]++(x::l)++ []) h) (λv=>.res v h) (oX E k ([]++(x::l)++ []))=_
 rw[e,hf];show Dg E k (x::l) h=_;unfold Dg;rw[hp];show aky h (oo E c h.hp.get h.nx (x::l))=_;rw[ho];rfl
def VK (c:Cp):uP c 0=c:=by cases c<;>rfl
def arq (n:Nat):Nat.beq n n=true:=Nat.beq_refl n
def rB {b:Nat} (h:a<=b):Nat.ble a b=true:=kn h
def aiw {id off sz:Nat} {c:Cp} (hf:f id=some (SO.cells e svs)) (hi:i<j) (hj:j<=n) (hl:off+n*sz<=svs.length):
  U7 sz f [.sl id off n c,.int .i64 (.lit (i:Int)),.int .i64 (.lit (j:Int))]=some (.sl id off (n-(j-i)) c,[(id,some (SO.cells e (CA (off+i*sz) (off+j*sz) (off+n*sz) svs)))]):=by
 show uI (some i) (some j) (nE (f id)) (λi j p=>ay (Nat.ble (Nat.succ i) j&&(Nat.ble j n&&Nat.ble (Nat.add off (Nat.mul n sz)) p.2.length)) (some (SV.sl id off (Nat.sub n (Nat.sub j i)) c,[(id,some (SO.cells p.1 (CA (Nat.add off (Nat.mul i sz)) (Nat.add off (Nat.mul j sz)) (Nat.add off (Nat.mul n sz)) p.2)))])) none)=_
 rw[hf];show ay (Nat.ble (Nat.succ i) j&&(Nat.ble j n&&Nat.ble (off+n*sz) svs.length)) _ none=_;rw[rB hi,rB hj,rB hl];rfl
def Wm {B C:Nat} (h1:A<=B) (h2:B<=C) (h3:C<=svs.length):(CA A B C svs).take (A+(C-B))=(svs.take C).take A++(svs.take C).drop B:=by
 have e0:CA A B C svs=svs.take A++((svs.drop B).take (C-B)++(List.replicate (B-A) SV.undef++svs.drop C)):=rfl;have e1:(svs.take A).length=A:=by simp;omega
 have e2:((svs.drop B).take (C-B)).length=C-B:=by simp;omega
 have e3:(svs.take C).take A=svs.take A:=by rw[nq,eg (by omega)]
 have e4:(svs.take C).drop B=(svs.drop B).take (C-B):=by rw[sf]
 rw[e0,e3,e4,<-kN,yl (by rw[eQ,e1,e2])]
def yi.wr1 {b b':Bx} {id:Nat} (dK:yi F g J [(K,b)] h) (cK:id∈J K) (ql:fC F g (lJ h.hp.get (id,some o')) K b' fp') (uX:∀i∈fp',i∈J K):
  Rel (u9 F g J [(K,b)] h) F g (λ_=>fp') ⟨[],[(K,b')]⟩ (λ_=>none) (Hs.fin ⟨h.hp,h.nx,[]⟩ [(id,some o')]):=by
 have wV:lk K [(K,b)]=some b:=by rw[cr,ax rfl]
 have one:∀{k c},lk k [(K,b')]=some c->k=K/\c=b':=λ{k c} hk=>by
  rw[cr] at hk;split at hk
  ·rename_i e;exact ⟨e,(ux hk).symm⟩
  ·cases hk
 have bD:id<h.nx:=dK.lt wV id cK;have j5:(Hs.fin ⟨h.hp,h.nx,[]⟩ [(id,some o')]).hp.get=lJ h.hp.get (id,some o'):=Mo ⟨h.hp,h.nx,[]⟩ [(id,some o')];refine ⟨λt x hx=>(by cases hx),λk c hk=> ?_,λk k' c c' hk gO bY=> ?_,λk c hk i hi=> ?_,λi o ho=> ?_,λx hx=> ?_,Nat.le_succ _,λx hx hp=> ?_,gq.refl F,λ_ _ ho=>.inl ho,λk c hk i hi=> ?_,λx hx=> ?_,λk _ j hj=>⟨rfl,rfl,rfl⟩⟩
 ·obtain ⟨rfl,rfl⟩:=one hk;rw[j5];exact ql
 ·exact absurd ((one hk).1.trans (one gO).1.symm) bY
 ·exact dK.nf K b wV i (uX i hi)
 ·rw[j5];show (if i=id then some o' else h.hp.get i)=some o
  rw[aA (λe=>by rw[e,dK.nf K b wV id cK] at ho;cases ho)]
  exact dK.sub i o ho
 ·rw[j5];have hx:h.nx+1<=x:=hx;show (if x=id then some o' else h.hp.get x)=none
  rw[aA (by omega)]
  exact dK.bd x (show h.nx<=x by omega)
 ·rw[j5];show (if x=id then some o' else h.hp.get x)=h.hp.get x
  rw[aA];rintro rfl;exact hp K (nC wV cK)
 ·obtain ⟨rfl,rfl⟩:=one hk;exact .inl (nC wV (uX i hi))
 ·rw[cB.1 (show x∈ [id] from hx)];exact .inl ⟨K,nC wV cK⟩
def aaN {sz:Nat} (hu:∀r∈Q,r.length=sz) (hn:Q.length=n) (hi:i<j) (hj:j<=n):(Q.take i++Q.drop j).length=n-(j-i)/\(∀r∈Q.take i++Q.drop j,r.length=sz)/\(n-(j-i))*sz=i*sz+(n*sz-j*sz):=by
 refine ⟨by simp;omega,λr hr=> ?_,?_⟩
 ·rcases ee.1 hr with hr|hr
  ·exact hu r (oH hr)
  ·exact hu r (tF hr)
 ·rw[show n-(j-i)=i+(n-j) by omega,eK,vg]
def HM {n' len:Nat} {c:Cp} (hc:vS e s n len c) (h:n'<=n):vS e s n' len c:=by
 cases c with
 |k m=>exact ⟨by have:=hc.1;omega,hc.2⟩
 |u e'=>exact ⟨hc.1,by have:=gz s h;have:=hc.2;omega⟩
def Cd (h:VA F g v (.ms K s 0 n)) (hn:0<n):g.O K=true/\v= .sl (g.Z K) 0 n (g.κ K):=by
 cases h with
 |qI _ hb=>omega
 |ms _ _ _ hb=>exact ⟨hb,by rw[nV,VK]⟩
 |rE _ _ hl=>omega
def Mc (hb:g.O K=true):VA F g (.sl (g.Z K) 0 n (g.κ K)) (.ms K s 0 n):=by
 have:=VA.ms (F:=F) (g:=g) (K:=K) s 0 n hb;rw[nV,VK] at this;exact this
def bP.delR {sz:Nat} {ie:TI} (hf:E.fn.get k=none) (hp:rM k E.rK=some c) (h9:Nat.ble 1048576 c=false) (h0:Nat.div c 2=e) (h1:Nat.beq (Nat.mod c 2) 0=true) (hie:E.ty.get e=some ie) (hs:ie.size=sz) (hn:Q.length=n) (hi:i<j) (hj:j<=n):
  bP E k [(0,.rows false e sz Q)] [.ms 0 sz 0 n,.int .i64 (i:Int),.int .i64 (j:Int)] (.ms 0 sz 0 (n-(j-i))) [(0,.rows false e sz (Q.take i++Q.drop j))]:=.mk λ{F g J h aa} dK has=>by
 cases has with|cons q1 t1=>
 cases t1 with|cons q2 t2=>
 cases t2 with|cons q3 t3=>
 cases t3;obtain ⟨hb,rfl⟩:=Cd q1 (by omega)
 cases q2;cases q3;have wV:lk 0 [((0:Nat),Bx.rows false e sz Q)]=some (.rows false e sz Q):=by rw[cr,ax rfl]
 have ql:=dK.bx 0 _ wV;generalize hφ:J 0=fp at ql;cases ql with
 |dD cn=>rw[hb] at cn;cases cn
 | @rows _ _ _ _ svs cn hh hz hu fG q=>
 subst hn;have hl:=gE fG;have hA:i*sz<=j*sz:=gz _ (by omega)
 have hB:j*sz<=Q.length*sz:=gz _ hj;let ⟨r1,r2,r3⟩:=aaN hu rfl hi hj;have ho:oo E c h.hp.get h.nx [.sl (g.Z 0) 0 Q.length (g.κ 0),.int .i64 (.lit (i:Int)),.int .i64 (.lit (j:Int))]=some (.sl (g.Z 0) 0 (Q.length-(j-i)) (g.κ 0),[(g.Z 0,some (SO.cells e (CA (0+i*sz) (0+j*sz) (0+Q.length*sz) svs)))]):=by
  unfold oo;rw[h9];show au (E.ty.get (Nat.div c 2)) _=_;rw[h0,hie];show ay (Nat.beq (Nat.mod c 2) 0) (U7 ie.size h.hp.get _) _=_;rw[h1,hs];exact aiw hh hi hj (by omega)
 rw[cE,cE,cE] at ho;refine ⟨F,g,λ_=> [g.Z 0],_,_,df.NO hf hp ho,Mc hb,?_⟩
 refine yi.wr1 dK (by rw[hφ];simp) ?_ (λi hi=>by rw[hφ];exact hi)
 refine .rows hb (show (if g.Z 0=g.Z 0 then _ else _)=_ from ax rfl) (λhc=>by cases hc) r2 ?_ ?_
 ·rw[r1,acx hA hB hl];exact HM fG (by omega)
 ·rw[r1,r3,Wm hA hB hl,EH,rH hu,qm hu];exact (q.take _).append (q.drop _)
def bP.delT {sz:Nat} {ie:TI} {l:ew} (hf:E.fn.get k=none) (hp:rM k E.rK=some c) (h9:Nat.ble 1048576 c=false) (h0:Nat.div c 2=e) (h1:Nat.beq (Nat.mod c 2) 0=true) (hie:E.ty.get e=some ie) (hs:ie.size=sz) (hn:Q.length=n) (hi:i<j) (hj:j<=n):
  bP E k [(0,.tree e sz l Q [])] [.ms 0 sz 0 n,.int .i64 (i:Int),.int .i64 (j:Int)] (.ms 0 sz 0 (n-(j-i))) [(0,.tree e sz l (Q.take i++Q.drop j) [])]:=.mk λ{F g J h aa} dK has=>by
 cases has with|cons q1 t1=>
 cases t1 with|cons q2 t2=>
 cases t2 with|cons q3 t3=>
 cases t3;obtain ⟨hb,rfl⟩:=Cd q1 (by omega)
 cases q2;cases q3;have wV:lk 0 [((0:Nat),Bx.tree e sz l Q [])]=some (.tree e sz l Q []):=by rw[cr,ax rfl]
 have ql:=dK.bx 0 _ wV;generalize hφ:J 0=fp at ql;cases ql with
 |iA cn=>rw[hb] at cn;cases cn
 | @tree _ _ _ _ _ svs fs cn hh hu fG q nd _=>
 subst hn;have hl:=gE fG;have hA:i*sz<=j*sz:=gz _ (by omega)
 have hB:j*sz<=Q.length*sz:=gz _ hj;let ⟨r1,r2,r3⟩:=aaN hu rfl hi hj;have ho:oo E c h.hp.get h.nx [.sl (g.Z 0) 0 Q.length (g.κ 0),.int .i64 (.lit (i:Int)),.int .i64 (.lit (j:Int))]=some (.sl (g.Z 0) 0 (Q.length-(j-i)) (g.κ 0),[(g.Z 0,some (SO.cells e (CA (0+i*sz) (0+j*sz) (0+Q.length*sz) svs)))]):=by
  unfold oo;rw[h9];show au (E.ty.get (Nat.div c 2)) _=_;rw[h0,hie];show ay (Nat.beq (Nat.mod c 2) 0) (U7 ie.size h.hp.get _) _=_;rw[h1,hs];exact aiw hh hi hj (by omega)
 rw[cE,cE,cE] at ho;obtain ⟨a,b,f1,f2,e1,rfl,a1,a2⟩:=q.cut j;obtain ⟨c1,c2,g1,g2,rfl,rfl,d1,d2⟩:=a1.cut i;have la:(c1++c2).length=j*sz:=by rw[a1.length λr hr=>hu r (oH hr),dx,eg hj]
 have lc:c1.length=i*sz:=by rw[d1.length λr hr=>hu r (oH (oH hr)),dx,dx];congr 1;omega
 have ju:∀x∈g1++f2,x∈g1++g2++f2:=λx hx=>by
  rcases ee.1 hx with hx|hx
  ·exact eJ _ (eJ _ hx)
  ·exact ez _ hx
 have mY:∀x∈g1++f2,x≠g.Z 0:=λx hx e=>(tD.1 nd).1 (e ▸ ju x hx)
 refine ⟨F,g,λ_=>g.Z 0::(g1++f2),_,_,df.NO hf hp ho,Mc hb,?_⟩
 refine yi.wr1 dK (by rw[hφ];simp) ?_ (λx hx=>by
  rw[hφ];rcases bB.1 hx with rfl|hx
  ·exact gw
  ·exact dR _ (ju x hx))
 refine .tree hb (show (if g.Z 0=g.Z 0 then _ else _)=_ from ax rfl) r2 ?_ ?_ ?_ trivial
 ·rw[r1,acx hA hB hl];exact HM fG (by omega)
 ·rw[r1,r3,Wm hA hB hl,e1];rw[show ((c1++c2)++b).take (i*sz)=c1 by rw[kN,<-lc,OB],show ((c1++c2)++b).drop (j*sz)=b by rw[<-la,List.drop_left]]
  rw[nq,eg (by omega)] at d1
  exact (d1.app a2).keep (gq.refl F) λx hx=>by
   show (if x=g.Z 0 then _ else _)=_
   rw[aA (mY x hx)]
 ·refine nd.sublist ?_;exact .cons₂ _ (List.Sublist.append (List.sublist_append_left _ _) (List.Sublist.refl _))
def aBf {id Dw q sz new:Nat} {c c2:Cp} {e2:TypeId} {vW:aM} (hf:f id=some (SO.cells e svs)) (hf2:f Dw=some (SO.cells e2 vW)) (hi:i<=n) (hq:0<q) (mv:n<=1000000) (hq6:q<=1000000) (bY:id≠Dw) (hl:n*sz<=svs.length) (Cl:q*sz<=vW.length) (hc:amq 0 svs.length sz c=true):
  abu e sz f new [.sl id 0 n c,.int .i64 (.lit (i:Int)),.sl Dw 0 q c2]=some (.sl new 0 (n+q) (.u e),[(id,none),(new,some (SO.cells e (uV (svs.take (n*sz)) (i*sz) (vW.take (q*sz)))))]):=by
 show uI (some i) (nE (f id)) (nE (f Dw)) (λi p p2=>ay (Nat.ble i n&&(Nat.ble 1 q&&(Nat.ble n 1000000&&(Nat.ble q 1000000&&(!Nat.beq id Dw&&(Nat.beq p.1 e&&(Nat.ble (Nat.add 0 (Nat.mul n sz)) p.2.length&&(Nat.ble (Nat.add 0 (Nat.mul q sz)) p2.2.length&&amq 0 p.2.length sz c)))))))) (some (SV.sl new 0 (Nat.add n q) (.u e),[(id,none),(new,some (SO.cells e (uV ((p.2.drop 0).take (Nat.mul n sz)) (Nat.mul i sz) ((p2.2.drop 0).take (Nat.mul q sz)))))])) none)=_
 rw[hf,hf2];show ay (Nat.ble i n&&(Nat.ble 1 q&&(Nat.ble n 1000000&&(Nat.ble q 1000000&&(!Nat.beq id Dw&&(Nat.beq e e&&(Nat.ble (Nat.add 0 (Nat.mul n sz)) svs.length&&(Nat.ble (Nat.add 0 (Nat.mul q sz)) vW.length&&amq 0 svs.length sz c)))))))) _ none=_;rw[show Nat.add 0 (Nat.mul n sz)=n*sz from cE _,show Nat.add 0 (Nat.mul q sz)=q*sz from cE _];rw[rB hi,rB hq,rB mv,rB hq6,rB hl,rB Cl,hc,arq,show Nat.beq id Dw=false from by rw[beq_eq];exact OG bY]
 rfl
def bP.insR {sz q:Nat} {e2:TypeId} {ie:TI} {V:aT} (hf:E.fn.get k=none) (hp:rM k E.rK=some c) (h9:Nat.ble 1048576 c=false) (h0:Nat.div c 2=e) (h1:Nat.beq (Nat.mod c 2) 0=false) (hie:E.ty.get e=some ie) (hs:ie.size=sz) (hn:Q.length=n) (hq:V.length=q) (hi:i<=n) (Fy:0<n) (hq0:0<q) (mv:n<=1000000) (hq6:q<=1000000):
  bP E k [(2,.rows z e2 sz V),(4294967296,.rows false e sz Q)] [.ms 4294967296 sz 0 n,.int .i64 (i:Int),.ms 2 sz 0 q] (.ms 4294967296 sz 0 (n+q)) [(4294967296,.rows false e sz (Q.take i++V++Q.drop i)),(2,.rows z e2 sz V)]:=.mk λ{F g J h aa} dK has=>by
 generalize hK:(4294967296:Nat)=K at*;have hK2:K≠2:=by rw[<-hK];decide
 have hev:lA K=false:=by rw[<-hK];rfl
 cases has with|cons q1 t1=>
 cases t1 with|cons q2 t2=>
 cases t2 with|cons q3 t3=>
 cases t3;obtain ⟨hb,rfl⟩:=Cd q1 Fy;obtain ⟨nO,rfl⟩:=Cd q3 hq0;cases q2;have wV:lk K [((2:Nat),Bx.rows z e2 sz V),(K,Bx.rows false e sz Q)]=some (.rows false e sz Q):=by rw[cr,aA hK2,cr,ax rfl]
 have UQ:lk 2 [((2:Nat),Bx.rows z e2 sz V),(K,Bx.rows false e sz Q)]=some (.rows z e2 sz V):=by rw[cr,ax rfl]
 have ql:=dK.bx K _ wV;have auu:=dK.bx 2 _ UQ;have hdj:=dK.dj K 2 _ _ wV UQ hK2;generalize hφ:J K=fp at ql hdj;cases ql with
 |dD cn=>rw[hb] at cn;cases cn
 | @rows _ _ _ _ svs cn hh hz hu fG q=>
 have aIo:=auu;generalize abD:J 2=fp2 at auu hdj;cases auu with
 |dD cn=>rw[nO] at cn;cases cn
 | @rows _ _ _ _ vW hb2' hh2 lP hu2 axk w=>
 subst hn;subst hq;have hl:=gE fG;have Cl:=gE axk;have bY:g.Z K≠g.Z 2:=λe=>hdj (g.Z K) (by simp) (by rw[e];simp)
 have ju:i*sz<=Q.length*sz:=gz _ hi;have ho:oo E c h.hp.get h.nx [.sl (g.Z K) 0 Q.length (g.κ K),.int .i64 (.lit (i:Int)),.sl (g.Z 2) 0 V.length (g.κ 2)]=some (.sl h.nx 0 (Q.length+V.length) (.u e),[(g.Z K,none),(h.nx,some (SO.cells e (uV (svs.take (Q.length*sz)) (i*sz) (vW.take (V.length*sz)))))]):=by
  unfold oo;rw[h9];show au (E.ty.get (Nat.div c 2)) _=_;rw[h0,hie];show ay (Nat.beq (Nat.mod c 2) 0) _ (abu e ie.size h.hp.get h.nx _)=_;rw[h1,hs];refine aBf hh hh2 hi hq0 mv hq6 bY hl Cl ?_;cases hκ:g.κ K with
  |k m=>
   rw[hκ] at fG;show Nat.ble (Nat.add 0 (Nat.mul m sz)) svs.length=true;rw[fG.2];exact rB (by show 0+m*sz<=_;omega)
  |u e'=>rfl
 have hltK:g.Z K<h.nx:=dK.lt wV _ (by rw[hφ];simp)
 let g':Gb:=⟨λk=>if k=K then h.nx else g.Z k,λk=>if k=K then .u e else g.κ k,λk=>if k=K then true else g.O k⟩
 let φ':cS:=λk=>if k=K then [h.nx] else J k
 have gK:g'.Z K=h.nx/\g'.κ K= .u e/\g'.O K=true:=⟨ax rfl,ax rfl,ax rfl⟩;have gne:∀k,k≠K->g'.Z k=g.Z k/\g'.κ k=g.κ k/\g'.O k=g.O k:=λk hk=>⟨aA hk,aA hk,aA hk⟩
 have φK:φ' K= [h.nx]:=ax rfl;have YC:∀k,k≠K->φ' k=J k:=λk hk=>aA hk
 have val:VA F g' (.sl h.nx 0 (Q.length+V.length) (.u e)) (.ms K sz 0 (Q.length+V.length)):=by
  have:=Mc (F:=F) (g:=g') (K:=K) (s:=sz) (n:=Q.length+V.length) gK.2.2;rw[gK.1,gK.2.1] at this;exact this
 refine ⟨F,g',φ',_,_,df.NO hf hp ho,val,?_⟩;have j5:(Hs.fin ⟨h.hp,h.nx,[]⟩ [(g.Z K,none),(h.nx,some (SO.cells e (uV (svs.take (Q.length*sz)) (i*sz) (vW.take (V.length*sz)))))]).hp.get=lJ (lJ h.hp.get (g.Z K,none)) (h.nx,some (SO.cells e (uV (svs.take (Q.length*sz)) (i*sz) (vW.take (V.length*sz))))):=Mo ⟨h.hp,h.nx,[]⟩ _;have Er:∀x,x≠g.Z K->x≠h.nx->(Hs.fin ⟨h.hp,h.nx,[]⟩ [(g.Z K,none),(h.nx,some (SO.cells e (uV (svs.take (Q.length*sz)) (i*sz) (vW.take (V.length*sz)))))]).hp.get x=h.hp.get x:=λx h1 h2=>by
  rw[j5];show (if x=h.nx then _ else if x=g.Z K then _ else h.hp.get x)=_
  rw[aA h2,aA h1]
 have two:∀{k b},lk k [(K,Bx.rows false e sz (Q.take i++V++Q.drop i)),(2,Bx.rows z e2 sz V)]=some b->(k=K/\b=Bx.rows false e sz (Q.take i++V++Q.drop i))\/(k=2/\b=Bx.rows z e2 sz V):=λ{k b} hk=>by
  rw[cr] at hk;split at hk
  ·rename_i e;exact .inl ⟨e,(ux hk).symm⟩
  ·rw[cr] at hk;split at hk
   ·rename_i e;exact .inr ⟨e,(ux hk).symm⟩
   ·cases hk
 have lt2:∀x∈J 2,x<h.nx/\x≠g.Z K:=λx hx=>⟨dK.lt UQ x hx,λe=>dK.dj K 2 _ _ wV UQ hK2 (g.Z K) (by rw[hφ];simp) (by rw[<-e];exact hx)⟩
 refine ⟨λt x hx=>(by cases hx),λk b hk=> ?_,λk k' b b' hk gO xy x hx=> ?_,λk b hk x hx=> ?_,λx o ho=> ?_,λx hx=> ?_,Nat.le_succ _,λx hx pD=> ?_,gq.refl F,λ_ _ ho=>.inl ho,λk b hk x hx=> ?_,λx hx=> ?_,λk hk j hj=> ?_⟩
 ·rcases two hk with ⟨rfl,rfl⟩|⟨rfl,rfl⟩
  ·rw[φK];have:=fC.rows (F:=F) (g:=g') (h:=(Hs.fin ⟨h.hp,h.nx,[]⟩ [(g.Z k,none),(h.nx,some (SO.cells e (uV (svs.take (Q.length*sz)) (i*sz) (vW.take (V.length*sz)))))]).hp.get) (K:=k) (z:=false) (e:=e) (s:=sz) (Q:=Q.take i++V++Q.drop i) (svs:=uV (svs.take (Q.length*sz)) (i*sz) (vW.take (V.length*sz))) gK.2.2 (by
    rw[gK.1,j5];exact ax rfl) (λhc=>by cases hc) (λr hr=>by
     rcases ee.1 hr with hr|hr
     ·rcases ee.1 hr with hr|hr
      ·exact hu r (oH hr)
      ·exact hu2 r hr
     ·exact hu r (tF hr)) ?_ ?_
   ·rw[gK.1] at this;exact this
   ·rw[gK.2.1];refine ⟨rfl,?_⟩;show _<=(((svs.take (Q.length*sz)).take (i*sz))++(vW.take (V.length*sz)++(svs.take (Q.length*sz)).drop (i*sz))).length;simp only[eQ,dx,gJ,eK];rw[eg hl,eg Cl,eg hi,eg ju,vg];omega
   ·have hlen:(Q.take i++V++Q.drop i).length*sz=(((svs.take (Q.length*sz)).take (i*sz))++(vW.take (V.length*sz)++(svs.take (Q.length*sz)).drop (i*sz))).length:=by
     simp only[eQ,dx,gJ,eK];rw[eg hl,eg Cl,eg hi,eg ju,vg];omega
    rw[hlen];show bZ F .no (List.take _ (((svs.take (Q.length*sz)).take (i*sz))++(vW.take (V.length*sz)++(svs.take (Q.length*sz)).drop (i*sz)))) _;rw[vf,EH,EH,rH hu,qm hu,kN];exact (q.take _).append (w.append (q.drop _))
  ·rw[YC 2 hK2.symm];refine (fC.keep (gq.refl F) aIo λx hx=>Er x (lt2 x hx).2 (by have:=(lt2 x hx).1;omega)).gb (λj hj=> ?_) (λj hj=>by cases hj)
   rw[cB.1 hj];exact gne 2 hK2.symm
 ·rcases two hk with ⟨rfl,rfl⟩|⟨rfl,rfl⟩<;>rcases two gO with ⟨rfl,rfl⟩|⟨rfl,rfl⟩
  ·exact absurd rfl xy
  ·rw[φK] at hx;rw[YC 2 hK2.symm,cB.1 hx];exact λhc=>by have:=(lt2 _ hc).1;omega
  ·rw[YC 2 hK2.symm] at hx;rw[φK];exact λhc=>by have:=(lt2 _ hx).1;have:=cB.1 hc;omega
  ·exact absurd rfl xy
 ·rcases two hk with ⟨rfl,rfl⟩|⟨rfl,rfl⟩
  ·rw[φK] at hx;rw[cB.1 hx];cases hF:F h.nx with
   |none=>rfl
   |some o=>have:=dK.sub _ _ hF;rw[dK.bd h.nx (cF _)] at this;cases this
  ·rw[YC 2 hK2.symm] at hx;exact dK.nf 2 _ UQ x hx
 ·have hxn:x<h.nx:=by
   by_cases hc:x<h.nx
   ·exact hc
   ·have:=dK.sub _ _ ho;rw[dK.bd x (by show h.nx<=x;omega)] at this;cases this
  rw[Er x (λe=>by rw[e,dK.nf K _ wV _ (by rw[hφ];simp)] at ho;cases ho) (by omega)]
  exact dK.sub x o ho
 ·have hx:h.nx+1<=x:=hx;rw[Er x (by omega) (by omega)]
  exact dK.bd x (show h.nx<=x by omega)
 ·have hx:x<h.nx:=hx;exact Er x (λe=>pD K (by rw[e];exact nC wV (by rw[hφ];simp))) (by omega)
 ·rcases two hk with ⟨rfl,rfl⟩|⟨rfl,rfl⟩
  ·rw[φK] at hx;rw[cB.1 hx];exact .inr (cF _)
  ·rw[YC 2 hK2.symm] at hx;exact .inl (nC UQ hx)
 ·have hx:x∈ [h.nx,g.Z K]:=hx;rcases bB.1 hx with rfl|hx
  ·exact .inr (cF _)
  ·rw[cB.1 hx];exact .inl ⟨K,nC wV (by rw[hφ];simp)⟩
 ·rw[cB.1 hj];have hk:ay (gi k _) (lA k) false=true:=hk;rw[bk] at hk;split at hk
  ·exact gne k λe=>by rw[e,hev] at hk;cases hk
  ·cases hk
def bP.snd {f:Nat} {cC:bH} {a b:AV} (h:bP E f bs xs (.cm [a,b]) cC):bP E f bs xs (.cm [.undef,b]) []:=.mk λ{F g J hh aa} dK has=>by
 let ⟨F',g',φ',h1,v,go,hv,r⟩:=h.go dK has;refine ⟨F',g',φ',h1,v,go,?_,r.less ⟨λt x hx=>(by cases hx),λk b hk=>(by cases hk)⟩⟩
 cases hv with
 |cm q=>
  cases q with
  |cons q1 t=>
   cases t with
   |cons q2 t=>
    cases t;exact .cm (.cons (.undef _) (.cons q2 .nil))
def bP.anyK {f:Nat} {bs0 cC:bH} (h:bP E f bs0 xs y cC) (e:(bs.map λq=>(q.1,(ay (Nat.beq q.1 k) PB.any PB.same).app q.2))=bs0):bP E f bs xs y cC:=.mk λ{F g J hh aa} dK has=>by
 subst e;have e1:∀j,lk j (bs.map λq=>(q.1,(ay (Nat.beq q.1 k) PB.any PB.same).app q.2))=(lk j bs).map λb=>(ay (Nat.beq j k) PB.any PB.same).app b:=λj=>Mf (λi b=>(ay (Nat.beq i k) PB.any PB.same).app b) j bs
 have e2:u9 F g J (bs.map λq=>(q.1,(ay (Nat.beq q.1 k) PB.any PB.same).app q.2)) hh=u9 F g J bs hh:=by
  unfold u9;congr 1
  ·funext j;unfold gi;rw[List.any_map];rfl
  ·funext j;rw[e1];cases lk j bs<;>rfl
 have ent':yi F g J (bs.map λq=>(q.1,(ay (Nat.beq q.1 k) PB.any PB.same).app q.2)) hh:=by
  unfold yi;rw[e2];refine Rel.less dK ⟨λt x hx=>(by cases hx),λj b hb=> ?_⟩
  rw[e1] at hb;cases hl:lk j bs with
  |none=>rw[hl] at hb;cases hb
  |some b0=>
   rw[hl] at hb;cases hb;exact ⟨b0,rfl,PB.wb _ _⟩
 have:=h.go ent' has;rw[e2] at this;exact this
def qd (xs:List Int):aT:=xs.map λx=> [AV.int .i64 x]
def Dt (z:Bool) (xs:List Int):List Int:=ay z (lY xs) (ld xs)
def ajY (x:Int) (xs:List Int):(qd (x::xs)).flatten=AV.int .i64 x::(qd xs).flatten:=rfl
def aad:∀xs:List Int,bZ F g (mE xs) (qd xs).flatten
 | []=>.nil
 |x::xs=>.cons (.int _ _) (aad xs)
def VO:∀{xs:List Int} {vs:aM},bZ F g vs (qd xs).flatten->vs=mE xs
 | [],vs,h=>by cases h;rfl
 |x::xs,vs,h=>by
  rw[ajY] at h;cases h with|cons q t=>
  cases q;rw[VO t];rfl
def PO:∀xs:List Int,Mk (mE xs)=some xs
 | []=>rfl
 |x::xs=>by
  show bE (akQ (.int .i64 (.lit x))) (Mk (mE xs)) (λx r=>some (x::r))=_
  rw[PO xs];rfl
def als (z:Bool) (xs:List Int) (l:aM):(mE (zc z xs)++l).take (Dt z xs).length=mE (Dt z xs):=by
 cases z
 ·show (mE (ld xs++List.replicate (xs.length-(ld xs).length) 0)++l).take (ld xs).length=mE (ld xs);have e:mE (ld xs++List.replicate (xs.length-(ld xs).length) 0)=mE (ld xs)++mE (List.replicate (xs.length-(ld xs).length) 0):=by simp[mE]
  rw[e,kN,yl (by simp[mE])]
 ·show (mE (lY xs)++l).take (lY xs).length=mE (lY xs);rw[yl (by simp[mE])]
def Va:∀xs:List Int,(ld xs).length<=xs.length
 | []=>cF _
 | [x]=>cF _
 |x::y::l=>by
  have:=Va (y::l);show (if x=y then ld (y::l) else x::ld (y::l)).length<=_
  split
  ·exact Nat.le_succ_of_le this
  ·exact Nat.succ_le_succ this
def Nl (x:Int):∀ys:List Int,(Av x ys).length=ys.length+1
 | []=>rfl
 |y::ys=>by
  unfold Av;split
  ·rfl
  ·rw[mM,Nl x ys];rfl
def BV:∀xs:List Int,(lY xs).length=xs.length
 | []=>rfl
 |x::xs=>by rw[lY,Nl,BV xs];rfl
def atM (z:Bool) (xs:List Int):(Dt z xs).length<=xs.length:=by
 cases z
 ·exact Va xs
 ·exact vI (BV xs)
def abq (b:Bool) (xs:List Int):(zc b xs).length=xs.length:=by
 cases b
 ·have:=Va xs;show (ld xs++List.replicate (xs.length-(ld xs).length) 0).length=_;rw[eQ,Bu];omega
 ·exact BV xs
def aoB (xs:List Int):∀r∈qd xs,r.length=1:=λr hr=>by
 obtain ⟨x,_,rfl⟩:=dS.1 hr;rfl
def bP.axb {xs:List Int} (hf:E.fn.get k=none) (hp:rM k E.rK=some c) (h0:Nat.ble 1048576 c=true) (h1:Nat.beq c 1048576=z) (hn:xs.length=n) (h6:n<=4294967295):
  bP E k [(0,.rows false e 1 (qd xs))] [.ms 0 1 0 n] (ay z (.cm []) (.ms 0 1 0 (Dt z xs).length)) [(0,.rows false e 1 (qd (Dt z xs)))]:=.mk λ{F g J h aa} dK has=>by
 cases has with| @cons _ v _ _ _ q1 t1=>
 cases t1;have hpr:∀f new aa,oo E c f new aa=PN z f aa:=λf new aa=>by
  unfold oo;rw[h0,h1,bk,ax rfl]
 subst hn;rcases OF xs.length with hz|UM
 ·obtain rfl:xs= []:=EI.1 hz;have e0:Dt z []= []:=by cases z<;>rfl
  rw[e0];have hv:v= .cR\/∃id c',v= .sl id 0 0 c':=by
   cases q1 with
   |qI=>exact .inl rfl
   |ms _ _ _ hb=>exact .inr ⟨g.Z 0,_,by rw[nV];rfl⟩
   |rE _ _ hl=>omega
  have ho:oo E c h.hp.get h.nx [v]=some (ay z (.cm []) v,[]):=by
   rw[hpr];rcases hv with rfl|⟨id,c',rfl⟩
   ·cases z<;>rfl
   ·cases z<;>rfl
  refine ⟨F,g,J,⟨h.hp,h.nx,[]⟩,_,df.NO hf hp ho,?_,dK⟩;cases z
  ·exact q1
  ·exact .cm .nil
 ·obtain ⟨hb,rfl⟩:=Cd q1 UM;have wV:lk 0 [((0:Nat),Bx.rows false e 1 (qd xs))]=some (.rows false e 1 (qd xs)):=by rw[cr,ax rfl]
  have ql:=dK.bx 0 _ wV;generalize hφ:J 0=fp at ql;obtain ⟨svs,hh,fG,q,rfl⟩:∃svs,h.hp.get (g.Z 0)=some (.cells e svs)/\vS e 1 (qd xs).length svs.length (g.κ 0)/\bZ F .no (svs.take ((qd xs).length*1)) (qd xs).flatten/\fp= [g.Z 0]:=by
   generalize qd xs=Q at ql;cases ql with
   |dD cn=>rw[hb] at cn;cases cn
   | @rows _ _ _ _ svs cn hh hz hu fG q=>exact ⟨svs,hh,fG,q,rfl⟩
  have hrl:(qd xs).length=xs.length:=by simp[qd]
  have hl:=gE fG;rw[hrl,Nat.mul_one] at hl q;rw[hrl] at fG;have e1:svs.take xs.length=mE xs:=VO q;have e2:(svs.drop 0).take xs.length=mE xs:=by rw[pJ];exact e1
  have ho:oo E c h.hp.get h.nx [.sl (g.Z 0) 0 xs.length (g.κ 0)]=some (ay z (.cm []) (.sl (g.Z 0) 0 (ld xs).length (g.κ 0)),[(g.Z 0,some (SO.cells e (svs.take 0++(mE (zc z xs)++svs.drop (Nat.add 0 xs.length)))))]):=by
   rw[hpr];show ay (Nat.beq xs.length 0) _ (au (nE (h.hp.get (g.Z 0))) _)=_;rw[hh,show Nat.beq xs.length 0=false from by rw[beq_eq];exact OG (by omega)]
   show au (Mk ((svs.drop 0).take xs.length)) _=_;rw[e2,PO];show ay (Nat.ble 1 xs.length&&(Nat.ble (Nat.add 0 xs.length) svs.length&&Nat.ble xs.length 4294967295)) _ none=_;rw[rB UM,rB h6,show Nat.add 0 xs.length=xs.length from cE _,rB hl];rfl
  refine ⟨F,g,λ_=> [g.Z 0],_,_,df.NO hf hp ho,?_,?_⟩
  ·cases z
   ·exact Mc hb
   ·exact .cm .nil
  ·refine yi.wr1 dK (by rw[hφ];simp) ?_ (λi hi=>by rw[hφ];exact hi)
   have Ck:(qd (Dt z xs)).length=(Dt z xs).length:=by simp[qd]
   refine .rows hb (show (if g.Z 0=g.Z 0 then _ else _)=_ from ax rfl) (λhc=>by cases hc) (aoB _) ?_ ?_
   ·have hlen:(svs.take 0++(mE (zc z xs)++svs.drop (Nat.add 0 xs.length))).length=svs.length:=by
     have:=abq z xs;have e3:Nat.add 0 xs.length=xs.length:=cE _;rw[e3];simp[mE,this];omega
    rw[Ck,hlen];exact HM fG (atM z xs)
   ·rw[Ck,Nat.mul_one];show bZ F .no (List.take _ (svs.take 0++(mE (zc z xs)++svs.drop (Nat.add 0 xs.length)))) _;rw[EF,nr,als];exact aad _
end
end Go.bQ
namespace Go.bQ
open Go.RowKit
variable {nb n:Nat} {v:Value} {k f:FuncId} {aa:aM} {h:Hs} {us:eH} {xs:aB} {b:Bool}
section
def sq (nb:Nat):Value->SV
 | .bool b=>.bool b
 | .int k n=>.int k (.lit n)
 | .string s=>.str s
 | .slice a n c=>
  if n=0 then (if a=none/\c=0 then .cR else .sle)
  else (match a with
   |some ⟨b,o,none⟩=>if b<nb/\n<=c then .sl b o n (.k c) else .undef
   |_=>.undef)
 |_=>.undef
def abA (nb:Nat):Value->SV
 | .agg cs=>.agg (cs.toList.map (sq nb))
 |v=>sq nb v
def alx (nb:Nat):Obj->Option SO
 | .cells cur _ _=>some (.ro (cur.toList.map (sq nb)))
 |_=>none
def mir (nb:Nat):List Obj->Nat->Hp
 | [],_=>.nil
 |o::l,i=>(mir nb l (i+1)).set i (alx nb o)
def tS (W:World):Hp:=mir W.heap.size W.heap.toList 0
def gW (P:Program) (W:World):Gh:=⟨λ_=>0,P.cellsOf,λid=>if id<W.heap.size then some (id,0) else none,λ_=>0,λ_=>0,λb=>W.heap[b]?⟩
def aii (nb:Nat):∀(l:List Obj) (i x:Nat),(mir nb l i).get x=if x<i then none else (l[x-i]?).bind (alx nb)
 | [],i,x=>by show (Tr.nil:Hp).get x=_;simp;rfl
 |o::l,i,x=>by
  show ((mir nb l (i+1)).set i (alx nb o)).get x=_;rw[Tr.iU];by_cases hx:x=i
  ·subst hx;simp
  ·rw[aA hx,aii nb l (i+1) x];by_cases bD:x<i
   ·rw[ax bD,ax (by omega)]
   ·rw[aA bD,aA (by omega),show x-i=(x-(i+1))+1 by omega,sg]
def G4 (W:World) (x:Nat):(tS W).get x=(W.heap[x]?).bind (alx W.heap.size):=by
 unfold tS;rw[aii];simp
variable {P:Program} {W:World}
def aqL (v:Value):VR (gW P W) v (sq W.heap.size v):=by
 unfold sq;split
 ·exact .bool _
 ·exact .int _ _ rfl
 ·exact .str _
 ·rename_i a n c;split
  ·rename_i hn;subst hn;split
   ·rename_i h;obtain ⟨rfl,rfl⟩:=h;exact .cR
   ·exact .sle
  ·split
   ·rename_i b o;split
    ·rename_i h;have:=VR.sl (g:=gW P W) (id:=b) (off:=o) (n:=n) (b:=b) (o:=0) (c:=c) (cap:=.k c) (by show (if b<W.heap.size then some (b,0) else none)=_;rw[ax h.1]) h.2 (λm hm=>by cases hm;rfl) (λe he=>by cases he)
     rwa[cE] at this
    ·exact .undef _
   ·exact .undef _
 ·exact .undef _
def aBg (h:Iv (sq nb v)=false):v.oneCell'=true:=by
 cases v<;>first|rfl|(cases h;done)
def aDK:HR (gW P W) (tS W).get W:=by
 refine ⟨λid o ho=> ?_,λi j x y b c d hx hy h1 h2=> ?_⟩
 ·rw[G4] at ho;cases hb:W.heap[id]? with
  |none=>rw[hb] at ho;cases ho
  |some ob=>
   have bD:id<W.heap.size:=(oK.1 hb).1;refine ⟨id,0,ax bD,bD,?_⟩;rw[hb] at ho;cases ob with
   |cells cur e fz=>
    cases ho;refine ⟨cur,e,fz,hb,hb,λj x hx=> ?_⟩
    rw[kK] at hx;cases hv:cur.toList[j]? with
    |none=>rw[hv] at hx;cases hx
    |some v=>
     rw[hv] at hx;cases hx;exact ⟨v,by rw[cE];simpa using hv,λhu=>⟨aBg hu,aqL v⟩⟩
   |_=>cases ho
 ·have k1:(if i<W.heap.size then some (i,0) else none)=some (b,c):=h1
  have k2:(if j<W.heap.size then some (j,0) else none)=some (b,d):=h2
  split at k1
  ·split at k2
   ·cases k1;cases k2;rfl
   ·cases k2
  ·cases k1
variable {E:Env} {g:Gh} {w:World}
def ajT (hS:wy E) {v:SV} {h':Hs} (hb:Bd h) (ky:run E n (.call (.fn (.func k) [] []) aa h)= .gg [⟨false,v,h'⟩]) (uM:UX E (.fn (.func k) [] [])=true) (hE:dP E g) (hr:HR g h.hp.get w) (dQ:∀x,h.nx<=x->g.Z x=none) (lQ:kH g us aa) (m:Nat):CallsIn Fence.wide m E.P k us.toArray w λe w'=>∃r g',e= .returned r/\VR g' r v/\HR g' h'.hp.get w'/\Fr g h.hp.get w g' h'.hp.get w':=by
 have hs:=I5 hS n (.call (.fn (.func k) [] []) aa h);rw[ky] at hs;let ⟨_,_,sem⟩:=(show Bd h->_ from hs) hb;let ⟨k',fi,ca,fn,e1,wW,rW⟩:=J5 uM;cases e1;let ⟨d,ye,hd2⟩:=sem.one m g w (.func (.func k) #[] #[]) us hE hr dQ (.fn .nil .nil) lQ;have hd:d={target:=.fn (.func k) #[],args:= #[]++us.toArray}:=by
  rw[Jq] at ye;cases ye;rfl
 subst hd;have Bb:∀(args:hY) (w:World),(invoke (.fn (.func k) #[]) args).run E.P w=(callFunc k (args++ #[])).run E.P w:=λ_ _=>rfl
 rcases ta (hS.fn k fn wW).1 rW (#[]++us.toArray++ #[]) w with ⟨hc,_⟩|hc
 ·rcases hd2 with ⟨k',Kv,q1,q2⟩|⟨l,k',t',Kv,b',q1,_⟩|⟨r,w',q1,_⟩<;>(rw[Bb,hc] at q1;cases q1)
 ·rcases hd2 with ⟨k',Kv,q1,q2⟩|⟨l,k',t',Kv,b',q1,_⟩|⟨r,w',q1,_⟩
  ·rw[Bb,hc] at q1;cases q1;have e: #[]++us.toArray++ #[]=us.toArray:=by simp
   rw[e] at q2;refine CallsIn.mono q2 ?_;rintro e w' ⟨r,rfl,g',h1,h2,h3,_,_⟩;exact ⟨r,g',rfl,h1,h2,h3⟩
  ·rw[Bb,hc] at q1;cases q1
  ·rw[Bb,hc] at q1;cases q1
def amr {E:Env} (hS:wy E) (hE:dP E (gW E.P W)) (hc:bP E f [] xs (.bool b) []) (uM:UX E (.fn (.func f) [] [])=true) (hx:bZ (tS W).get .no aa xs) (lQ:kH (gW E.P W) us aa):Calls E.P f us.toArray W λe W'=>e= .returned (.bool b)/\Below W.heap.size W W':=by
 let h:Hs:=⟨tS W,W.heap.size,[]⟩;have hO:Bd h:=λx hx=>by
  show (tS W).get x=none;rw[G4,YG hx];rfl
 have hent:yi (tS W).get .no (λ_=> []) [] h:=by
  refine ⟨λt x hx=>(by cases hx),λk b hb=>(by cases hb),λk k' b b' hb=>(by cases hb),λk b hb=>(by cases hb),gq.refl _,hO,cF _,λ_ _ _=>rfl,gq.refl _,λ_ _ h=>.inl h,λk b hb=>(by cases hb),λx hx=>(by cases hx),λk hk=>(λ_ _=>⟨rfl,rfl,rfl⟩)⟩
 let ⟨F',g',φ',h1,v,⟨n0,aIl⟩,hv,hrel⟩:=hc.go hent hx;have:=callsIn_wide.1 (ajT hS hO (aIl n0 (cF _)) uM hE aDK (λx hx=>aA (Nat.not_lt.2 hx)) lQ 0)
 refine this.mono ?_;rintro e W' ⟨r,g2,rfl,k1,k2,k3⟩;cases hv;cases k1;refine ⟨rfl,k3.os,k3.tape,k3.output,k3.size,λx hx=> ?_⟩
 have hold:h1.hp.get x=(tS W).get x:=hrel.old x hx λk hk=>by
  let ⟨_,_,_,hn,_⟩:=mV hk;cases hn
 cases hm:(tS W).get x with
 |none=>
  refine k3.old x hx λ⟨id,o,c,z1,z2⟩=> ?_
  have z2:(if id<W.heap.size then some (id,0) else none)=some (x,c):=z2
  split at z2
  ·cases z2;have z1:(tS W).get x=some o:=z1;rw[hm] at z1;cases z1
  ·cases z2
 |some o=>
  rw[hm] at hold;let ⟨b',c',y1,y2,y3⟩:=k2.ob x o hold;have y0:g2.Z x=some (x,0):=k3.le.Z x (x,0) (ax hx);rw[y0] at y1;cases y1;rw[G4] at hm;cases hb:W.heap[x]? with
  |none=>rw[hb] at hm;cases hm
  |some ob=>
   rw[hb] at hm;cases ob with
   |cells cur e fz=>
    cases hm;let ⟨iZ,e',fz',w1,w2,_⟩:=y3;have w3:g2.wb x=W.heap[x]? :=congrFun k3.le.wb x;rw[w1,<-w2,w3,hb]
   |_=>cases hm
end
end Go.bQ
namespace Go.bQ
variable {f k:Nat} {g bs:bH} {G:Prop} {b a z:Bool} {sk:aI} {xs:aB} {e:TypeId} {Q:aT}
section
def m1A (x:AV):P1:=match x with
 | .slice e s _=>.sl e s
 | .jW e s _=>.sn e s
 | .iW e s _=>.sx e s
 | .undef=>.un
 |_=>.same
def pmA (x:AV):PM:=match x with
 | .agg l=>.agg (l.map m1A)
 |x=>.one (m1A x)
def pbA (b:Bx):PB:=match b with
 | .flat _ l=>.flat (l.map m1A)
 | .rows z _ _ _=>ay z .same .any
 |_=>.same
def E2 (p:aI) (s:LS):D5:= [(p,s.ts.map λq=>(q.1,pmA q.2),s.bs.map λq=>(q.1,pbA q.2))]
variable {E:Env} {X:Fx E} {p p':aI} {s s':LS} {y:AV} {cC:bH} {Y O R:Type}
def ra (k:At X p' s' y cC) (sc:Sc E) (h:GQ (qP X (E2 p' s') p s sc)=GR (.at p' s') (qP X (E2 p' s') p s sc):=by kernel_rfl):At X p s y cC:=aaa h k
def rr {f:Y->AV} {g:Y->bH} {v r:Y} (h:some v=some r) (sc:Sc E) (e:GQ (qP X [] p s sc)=GR (.ret (f v) (g v)) (qP X [] p s sc):=by kernel_rfl):At X p s (f r) (g r):=by
 cases h;exact ahL e
def cL (k:At X p' s' y cC) (a b:Sc E) (h:GQ (qP X (E2 p' s') p s (a++b))=GR (.at p' s') (qP X (E2 p' s') p s (a++b)):=by kernel_rfl):At X p s y cC:=aaa h k
def bG {f:Y->AV} {g:Y->bH} {v r:Y} (h:some v=some r) (a b:Sc E) (e:GQ (qP X [] p s (a++b))=GR (.ret (f v) (g v)) (qP X [] p s (a++b)):=by kernel_rfl):At X p s (f r) (g r):=rr h (a++b) e
def be {x:Option O} {f:O->Option Y} {r:Y} (h:x.bind f=some r) (k:∀y,x=some y->f y=some r->G):G:=arn h k
def ie {x y:Option Y} {r:Y} (h:(if b=true then x else y)=some r) (k1:b=true->x=some r->G) (k2:b=false->y=some r->G):G:=att h k1 k2
def nz {r:Y} {G:Prop} (h:none=some r):G:=by cases h
def fx (E:Env) (fn:Func) (bV outs:aI):Fx E:=⟨fn,fn.body.getD .skip,bV,outs⟩
def Cx (E:Env) (k:Nat) (f:R->AV) (g:R->bH) (s:LS) (r:R):Prop:=bP E k s.bs (s.ts.map (·.2)) (f r) (g r)
def ca {r:R} {f:R->AV} {g:R->bH} (h:At X [] s (f r) (g r)) (h1:E.fn.get k=some X.fn:=by kernel_rfl) (h2:X.fn.body=some X.code:=by kernel_rfl) (h3:zS X.fn.name=false:=by kernel_rfl) (h4:Bg k E.done=none:=by kernel_rfl) (h9:Nat.ble (s.ts.map (·.2)).length X.fn.ntmps=true:=by kernel_rfl) (h10:xq s.bs=X.bV:=by kernel_rfl) (h11:(⟨zg 0 (s.ts.map (·.2)),s.bs⟩:LS)=s:=by kernel_rfl):Cx E k f g s r:=
 Nx ⟨h1,h2,h3,h4⟩ h9 h10 h11 h
def A4 (sk:aI) (bs:bH):bH:=sk.map λk=>(k,(lk k bs).getD (.map []))
def rrS {f:Y->AV} {g:Y->bH} {v r:Y} (h:some v=some r) (sc:Sc E) (e:GQ (qP X [] p s sc)=GR (.ret (f v) (g v++A4 sk s.bs)) (qP X [] p s sc):=by kernel_rfl):At X p s (f r) (g r++A4 sk s.bs):=by
 cases h;exact ahL e
def AxS (X:Fx E) (sk:aI) (f:R->AV) (g:R->bH) (p:aI) (s:LS) (r:R):Prop:=At X p s (f r) (g r++A4 sk s.bs)
def CxS (E:Env) (k:Nat) (sk:aI) (f:R->AV) (g:R->bH) (s:LS) (r:R):Prop:=bP E k s.bs (s.ts.map (·.2)) (f r) (g r++A4 sk s.bs)
def caS {r:R} {f:R->AV} {g:R->bH} (h:At X [] s (f r) (g r++A4 sk s.bs)) (h1:E.fn.get k=some X.fn:=by kernel_rfl) (h2:X.fn.body=some X.code:=by kernel_rfl) (h3:zS X.fn.name=false:=by kernel_rfl) (h4:Bg k E.done=none:=by kernel_rfl) (h9:Nat.ble (s.ts.map (·.2)).length X.fn.ntmps=true:=by kernel_rfl) (h10:xq s.bs=X.bV:=by kernel_rfl) (h11:(⟨zg 0 (s.ts.map (·.2)),s.bs⟩:LS)=s:=by kernel_rfl):CxS E k sk f g s r:=
 Nx ⟨h1,h2,h3,h4⟩ h9 h10 h11 h
def raS (k:At X p' s' y (g++A4 sk s'.bs)) (hs:A4 sk s'.bs=A4 sk s.bs) (sc:Sc E) (h:GQ (qP X (E2 p' s') p s sc)=GR (.at p' s') (qP X (E2 p' s') p s sc):=by kernel_rfl):At X p s y (g++A4 sk s.bs):=aaa h (hs ▸ k)
def anV {Y:Type} (s:List Y):Option (Y×List Y):=match s with| []=>none|x::l=>some (x,l)
def anU {Y:Type} {s:List Y} {y:Y×List Y} (h:anV s=some y):s=y.1::y.2:=by
 cases s with
 |nil=>cases h
 |cons x l=>cases h;rfl
def aJg (k:Nat):AV:=match k with|0=>.iS|n+1=>.fn (n+1) [] []
abbrev eb {a b:Bool} (h:a=b):It E:=.eqv (bA AV.bool h)
abbrev en {k:IntKind} {a b:Int} (h:(a==b)=true):It E:=.eqv (int_eq (k:=k) h)
def cb {cC:bH} (h:bP E f bs xs (.bool a) cC) (e:a=b):bP E f bs xs (.bool b) cC:=agA h e
def ci {k:IntKind} {cC:bH} {a b:Int} (h:bP E f bs xs (.int k a) cC) (e:(a==b)=true):bP E f bs xs (.int k b) cC:=h.cast (int_eq e)
def Ax (X:Fx E) (f:R->AV) (g:R->bH) (p:aI) (s:LS) (r:R):Prop:=At X p s (f r) (g r)
def cd {K s n:Nat} {cC:bH} (h:bP E f bs xs (.ms K s 0 n) cC) (hq:Q.length=n) (hl:lk K cC=some (.rows z e s Q):=by kernel_rfl) (hn:gi K bs=false:=by kernel_rfl) (hb:G3 K cC= []:=by kernel_rfl):
  bP E f bs xs (ay z (.jW e s Q) (.slice e s Q)) ((ea K cC).map λp=>(p.1,Bx.gx K (ay z (.jW e s Q) (.slice e s Q)) (λ_=>.undef) p.2)):=h.CB hl hn hq hb
def K0 (A:LS->R->Prop) (s:LS) (k:Option R):Prop:=∀ ⦃r:R⦄,k=some r->A (s) r
variable {T0 T1 T2 T3 T4 T5 T6 T7 T8 T9 yh AS D4 IF T14 T15 T16 T17 T18:Type}
def K1 (A:LS->R->Prop) (s:T0->LS) (k:T0->Option R):Prop:=∀ ⦃a⦄,K0 A (s a) (k a)
def K2 (A:LS->R->Prop) (s:T0->T1->LS) (k:T0->T1->Option R):Prop:=∀ ⦃a⦄,K1 A (s a) (k a)
def K3 (A:LS->R->Prop) (s:T0->T1->T2->LS) (k:T0->T1->T2->Option R):Prop:=∀ ⦃a⦄,K2 A (s a) (k a)
def K4 (A:LS->R->Prop) (s:T0->T1->T2->T3->LS) (k:T0->T1->T2->T3->Option R):Prop:=∀ ⦃a⦄,K3 A (s a) (k a)
def K5 (A:LS->R->Prop) (s:T0->T1->T2->T3->T4->LS) (k:T0->T1->T2->T3->T4->Option R):Prop:=∀ ⦃a⦄,K4 A (s a) (k a)
def K6 (A:LS->R->Prop) (s:T0->T1->T2->T3->T4->T5->LS) (k:T0->T1->T2->T3->T4->T5->Option R):Prop:=∀ ⦃a⦄,K5 A (s a) (k a)
def K7 (A:LS->R->Prop) (s:T0->T1->T2->T3->T4->T5->T6->LS) (k:T0->T1->T2->T3->T4->T5->T6->Option R):Prop:=∀ ⦃a⦄,K6 A (s a) (k a)
def K8 (A:LS->R->Prop) (s:T0->T1->T2->T3->T4->T5->T6->T7->LS) (k:T0->T1->T2->T3->T4->T5->T6->T7->Option R):Prop:=∀ ⦃a⦄,K7 A (s a) (k a)
def K9 (A:LS->R->Prop) (s:T0->T1->T2->T3->T4->T5->T6->T7->T8->LS) (k:T0->T1->T2->T3->T4->T5->T6->T7->T8->Option R):Prop:=∀ ⦃a⦄,K8 A (s a) (k a)
def K10 (A:LS->R->Prop) (s:T0->T1->T2->T3->T4->T5->T6->T7->T8->T9->LS) (k:T0->T1->T2->T3->T4->T5->T6->T7->T8->T9->Option R):Prop:=∀ ⦃a⦄,K9 A (s a) (k a)
def K11 (A:LS->R->Prop) (s:T0->T1->T2->T3->T4->T5->T6->T7->T8->T9->yh->LS) (k:T0->T1->T2->T3->T4->T5->T6->T7->T8->T9->yh->Option R):Prop:=∀ ⦃a⦄,K10 A (s a) (k a)
def K12 (A:LS->R->Prop) (s:T0->T1->T2->T3->T4->T5->T6->T7->T8->T9->yh->AS->LS) (k:T0->T1->T2->T3->T4->T5->T6->T7->T8->T9->yh->AS->Option R):Prop:=∀ ⦃a⦄,K11 A (s a) (k a)
def K13 (A:LS->R->Prop) (s:T0->T1->T2->T3->T4->T5->T6->T7->T8->T9->yh->AS->D4->LS) (k:T0->T1->T2->T3->T4->T5->T6->T7->T8->T9->yh->AS->D4->Option R):Prop:=∀ ⦃a⦄,K12 A (s a) (k a)
def K14 (A:LS->R->Prop) (s:T0->T1->T2->T3->T4->T5->T6->T7->T8->T9->yh->AS->D4->IF->LS) (k:T0->T1->T2->T3->T4->T5->T6->T7->T8->T9->yh->AS->D4->IF->Option R):Prop:=∀ ⦃a⦄,K13 A (s a) (k a)
def K15 (A:LS->R->Prop) (s:T0->T1->T2->T3->T4->T5->T6->T7->T8->T9->yh->AS->D4->IF->T14->LS) (k:T0->T1->T2->T3->T4->T5->T6->T7->T8->T9->yh->AS->D4->IF->T14->Option R):Prop:=∀ ⦃a⦄,K14 A (s a) (k a)
def K16 (A:LS->R->Prop) (s:T0->T1->T2->T3->T4->T5->T6->T7->T8->T9->yh->AS->D4->IF->T14->T15->LS) (k:T0->T1->T2->T3->T4->T5->T6->T7->T8->T9->yh->AS->D4->IF->T14->T15->Option R):Prop:=∀ ⦃a⦄,K15 A (s a) (k a)
def K17 (A:LS->R->Prop) (s:T0->T1->T2->T3->T4->T5->T6->T7->T8->T9->yh->AS->D4->IF->T14->T15->T16->LS) (k:T0->T1->T2->T3->T4->T5->T6->T7->T8->T9->yh->AS->D4->IF->T14->T15->T16->Option R):Prop:=∀ ⦃a⦄,K16 A (s a) (k a)
def K18 (A:LS->R->Prop) (s:T0->T1->T2->T3->T4->T5->T6->T7->T8->T9->yh->AS->D4->IF->T14->T15->T16->T17->LS) (k:T0->T1->T2->T3->T4->T5->T6->T7->T8->T9->yh->AS->D4->IF->T14->T15->T16->T17->Option R):Prop:=∀ ⦃a⦄,K17 A (s a) (k a)
def K19 (A:LS->R->Prop) (s:T0->T1->T2->T3->T4->T5->T6->T7->T8->T9->yh->AS->D4->IF->T14->T15->T16->T17->T18->LS) (k:T0->T1->T2->T3->T4->T5->T6->T7->T8->T9->yh->AS->D4->IF->T14->T15->T16->T17->T18->Option R):Prop:=∀ ⦃a⦄,K18 A (s a) (k a)
end
end Go.bQ
namespace Go.bQ
open Go.RowKit Go.Proofs.YtbnkhmoelnfjoaaGreat
variable {a vs:eH} {x xs:aB} {v:Value} {Y:Type} {c s nb:Nat} {e t:TypeId} {rows:aT} {F:Hf}
section
mutual
def Mw:AV->Nat
 | .str s=>s.size+1
 | .iW _ _ rows=>yU rows+1
 |_=>1
def yU:aT->Nat
 | []=>0
 |r::rs=>mK r+yU rs
def mK:aB->Nat
 | []=>0
 |x::xs=>Mw x+mK xs
end
def Kt (xs ys:aB):mK (xs++ys)=mK xs+mK ys:=by
 induction xs with
 |nil=>simp[mK]
 |cons x xs ih=>simp[mK,ih];omega
def xQ {Y O:Type} (R:Y->O->Prop):List Y->List O->Prop
 | [],[]=>True
 |a::l,b::m=>R a b/\xQ R l m
 |_,_=>False
def jN (P:Program):Nat->TypeId->aB->Prop
 |0,_,_=>False
 |n+1,t,xs=>
  match P.underlying t with
  |some .bool=>∃b,xs= [.bool b]
  |some (.int k)=>∃i,xs= [.int k i]/\(Lit.int k i).wf=true
  |some .string=>∃s:ByteArray,xs= [.str s]/\s.size<=maxLen
  |some (.slice e)=>∃rows,xs= [.iW e (P.cellsOf e) rows]/\∀r∈rows,jN P n e r
  |some (.struct fs)=>∃q9:aT,xs=q9.flatten/\xQ (λf ys=>jN P n f.type ys) fs.toList q9
  |some (.array m e)=>∃q9:aT,xs=q9.flatten/\q9.length=m/\∀ys∈q9,jN P n e ys
  |_=>False
def wH (P:Program) (S:TypeId->Bool) (total:Nat):Nat->List Field->Bool
 |off,[]=>off==total
 |off,f::fs=>f.offset==off&&S f.type&&wH P S total (off+P.cellsOf f.type) fs
def IW (P:Program) (S:TypeId->Bool) (t:TypeId):Bool:=
 match P.underlying t with
 |some .bool|some (.int _)|some .string=>true
 |some (.struct fs)=>wH P S (P.cellsOf t) 0 fs.toList
 |some (.array n e)=>P.cellsOf t==n*P.cellsOf e&&S e
 |some (.slice e)=>S e&&decide (0<P.cellsOf e)
 |_=>false
def CR (W:World) (cs:eH) (xs:aB):Prop:=bZ (tS W).get .no (cs.map (sq W.heap.size)) xs/\∀v∈cs,Iv (sq W.heap.size v)=false
section
variable {H:Type} {enc:TypeId×Value->H} {P:Program} {S:TypeId->Bool} {w:World} {base:Nat} {spare:Nat->Bool} {held:Bool}
def bZ.app {F:Hf} {g:Gb}:∀{a b:aM} {x y:aB},bZ F g a x->bZ F g b y->bZ F g (a++b) (x++y)
 |_,_,_,_,.nil,k=>k
 |_,_,_,_,.cons h t,k=>.cons h (t.app k)
def CR.nil:CR w [] []:=⟨.nil,λv hv=>by cases hv⟩
def CR.append {b:eH} {y:aB} (h:CR w a x) (k:CR w b y):CR w (a++b) (x++y):=⟨by rw[pT];exact h.1.app k.1,λv hv=>(ee.1 hv).elim (h.2 v) (k.2 v)⟩
def CR.one {x:AV} (h:VA (tS w).get .no (sq w.heap.size v) x) (hu:Iv (sq w.heap.size v)=false):CR w [v] [x]:=⟨.cons h .nil,λu rF=>by rw[cB.1 rF];exact hu⟩
def CR.length (h:CR w a x):a.length=x.length:=by have:=h.1.length;simpa using this
def zM {Y O:Type} {f:Y->Option O}:∀{l:List Y} {r:List O},l.mapM f=some r->xQ (λa b=>f a=some b) l r
 | [],r,h=>by simp at h;subst h;trivial
 |a::l,r,h=>by
  rw[Sv] at h;cases ha:f a with
  |none=>simp[ha] at h
  |some b=>
   cases hl:l.mapM f with
   |none=>simp[ha,hl] at h
   |some m=>
    simp[ha,hl] at h;subst h;exact ⟨ha,zM hl⟩
def NA {Y O:Type} {R:Y->O->Prop}:∀{l:List Y} {m:List O},xQ R l m->l.length=m.length
 | [],[],_=>rfl
 |_::_,_::_,h=>by simp[NA h.2]
 | [],_::_,h=>h.elim
 |_::_,[],h=>h.elim
def Ol {Y O:Type} {R:Y->O->Prop}:∀{l:List Y} {m:List O},xQ R l m->∀{i:Nat} {b:O},m[i]? =some b->∃a,l[i]? =some a/\R a b
 | [],[],_,_,_,h=>by simp at h
 |a::l,b::m,h,i,x,hx=>by
  cases i with
  |zero=>simp at hx;subst hx;exact ⟨a,rfl,h.1⟩
  |succ i=>simp at hx;let ⟨y,h1,h2⟩:=Ol h.2 hx;exact ⟨y,by simpa using h1,h2⟩
 | [],_::_,h,_,_,_=>h.elim
 |_::_,[],h,_,_,_=>h.elim
def avt {O:Type} {R:Y->O->Prop} {l:List Y} {m:List O} (h:xQ R l m) {b:O} (hb:b∈m):∃a,R a b:=by
 let ⟨i,hi⟩:=List.mem_iff_getElem?.1 hb;let ⟨a,_,ha⟩:=Ol h hi;exact ⟨a,ha⟩
def Il (n:Nat)
  (ih:∀t cs x,S t=true->DataW.trod enc P w base spare held n t cs=some x->∃xs,CR w cs xs/\jN P n t xs/\mK xs<=Rows.uptoBulk x.1) (total:Nat):
  ∀(fs:List Field) (off:Nat) (cs:eH) (ys:List (DataW H×List MemPlace)),wH P S total off fs=true->cs.length=total->
   xQ (λf y=>DataW.trod enc P w base spare held n f.type ((cs.drop f.offset).take (P.cellsOf f.type))=some y) fs ys->off<=total->
   ∃q9:aT,CR w (cs.drop off) q9.flatten/\xQ (λf zs=>jN P n f.type zs) fs q9/\mK q9.flatten<=Rows.uptoBulkAll (ys.map (·.1))
 | [],off,cs,ys,ht,hl,h2,_=>by
  simp[wH] at ht;refine ⟨[],?_,trivial,by simp[mK]⟩
  rw[qY (by omega)]
  exact .nil
 |f::fs,off,cs,[],_,_,h2,_=>h2.elim
 |f::fs,off,cs,y::ys,ht,hl,h2,ho=>by
  simp only[wH,aY,wE] at ht;let ⟨⟨ht0,htt⟩,ht1⟩:=ht;let ⟨h0,h1⟩:=h2;let ⟨xs,c1,c2,c3⟩:=ih _ _ _ htt h0;have hle:∀(fs:List Field) (o:Nat),wH P S total o fs=true->o<=total:=by
   intro fs;induction fs with
   |nil=>intro o h;simp[wH] at h;omega
   |cons g gs ihg=>intro o h;simp only[wH,aY] at h;have:=ihg _ h.2;omega
  have hle':=hle fs _ ht1;let ⟨q9,d1,d2,d3⟩:=Il n ih total fs (off+P.cellsOf f.type) cs ys ht1 hl h1 hle';refine ⟨xs::q9,?_,⟨c2,d2⟩,?_⟩
  ·rw[ht0] at c1;have:cs.drop off=(cs.drop off).take (P.cellsOf f.type)++cs.drop (off+P.cellsOf f.type):=by
    rw[<-zk];exact (wD _ _).symm
   rw[this];exact c1.append d1
  ·simp only[nn,fM,Rows.uptoBulkAll,Kt];omega
def Kw (n:Nat) (e:TypeId) (he:S e=true)
  (ih:∀t cs x,S t=true->DataW.trod enc P w base spare held n t cs=some x->∃xs,CR w cs xs/\jN P n t xs/\mK xs<=Rows.uptoBulk x.1) (cs:eH):
  ∀(m k:Nat) (ys:List (DataW H×List MemPlace)),cs.length=(k+m)*P.cellsOf e->
   xQ (λi y=>DataW.trod enc P w base spare held n e ((cs.drop (i*P.cellsOf e)).take (P.cellsOf e))=some y) (List.range' k m) ys->
   ∃q9:aT,CR w (cs.drop (k*P.cellsOf e)) q9.flatten/\q9.length=m/\(∀zs∈q9,jN P n e zs)/\mK q9.flatten<=Rows.uptoBulkAll (ys.map (·.1))
 |0,k,ys,hl,h2=>by
  refine ⟨[],?_,rfl,by simp,by simp[mK]⟩
  rw[qY (by simp at hl;omega)]
  exact .nil
 |m+1,k,[],_,h2=>by simp[yo,xQ] at h2
 |m+1,k,y::ys,hl,h2=>by
  rw[yo] at h2;let ⟨h0,h1⟩:=h2;let ⟨xs,c1,c2,c3⟩:=ih _ _ _ he h0;let ⟨q9,d1,d2,d3,d4⟩:=Kw n e he ih cs m (k+1) ys (by rw[hl];congr 1;omega) h1
  refine ⟨xs::q9,?_,by simp[d2],?_,?_⟩
  ·have:cs.drop (k*P.cellsOf e)=(cs.drop (k*P.cellsOf e)).take (P.cellsOf e)++cs.drop ((k+1)*P.cellsOf e):=by
    rw[eK,kO,<-zk];exact (wD _ _).symm
   rw[this];exact c1.append d1
  ·intro zs hz;rcases bB.1 hz with rfl|hz
   ·exact c2
   ·exact d3 zs hz
  ·simp only[nn,fM,Rows.uptoBulkAll,Kt];omega
def aBC (a:Addr) (k j:Nat) (h:a.spot=none\/0<k):(a.add k).add j=⟨a.block,a.off+k+j,none⟩:=by
 let ⟨b,o,s⟩:=a;by_cases hk:k=0
 ·subst hk;simp at h;subst h;by_cases hj:j=0<;>simp[Addr.add,hj]
 ·by_cases hj:j=0<;>simp[Addr.add,hk,hj]
def I8 (n:Nat) (e:TypeId) (he:S e=true) (a:Addr)
  (ih:∀t cs x,S t=true->DataW.trod enc P w base spare held n t cs=some x->∃xs,CR w cs xs/\jN P n t xs/\mK xs<=Rows.uptoBulk x.1) (hs:0<P.cellsOf e):
  ∀(m k:Nat) (ys:List (DataW H×List MemPlace)),
   xQ (λi y=>((w.cells? base (a.add (i*P.cellsOf e)) (P.cellsOf e)).bind (DataW.trod enc P w base spare held n e))=some y) (List.range' k m) ys->
   ∃(rows:aT) (vs:eH),CR w vs rows.flatten/\vs.length=m*P.cellsOf e/\(∀j v,vs[j]? =some v->w.cell? ⟨a.block,a.off+k*P.cellsOf e+j,none⟩=some v)/\rows.length=m/\(∀zs∈rows,jN P n e zs/\zs.length=P.cellsOf e)/\yU rows<=Rows.uptoBulkAll (ys.map (·.1))/\(k=0->0<m->a.spot=none)
 |0,k,ys,h2=>⟨[],[],.nil,by simp,λj v hv=>(by simp at hv),rfl,by simp,by simp[yU],by simp⟩
 |m+1,k,[],h2=>by simp[yo,xQ] at h2
 |m+1,k,y::ys,h2=>by
  rw[yo] at h2;let ⟨h0,h1⟩:=h2;let ⟨rows,vs,d1,dl,dc,d2,d3,d4,d5⟩:=I8 n e he a ih hs m (k+1) ys h1;cases hc:w.cells? base (a.add (k*P.cellsOf e)) (P.cellsOf e) with
  |none=>simp[hc] at h0
  |some cs=>
   simp only[hc,aq] at h0;let ⟨xs,c1,c2,c3⟩:=ih _ _ _ he h0;unfold World.cells? at hc;split at hc
   ·have sY:=zM hc;have hlen:cs.length=P.cellsOf e:=by have:=NA sY;simpa using this.symm
    have pq:∀j v,cs[j]? =some v->w.cell? ((a.add (k*P.cellsOf e)).add j)=some v:=by
     intro j v hj;let ⟨i,hi,hv⟩:=Ol sY hj;have mw:i=j:=by
      have:=(cg.1 hi);let ⟨q1,q2⟩:=this;simpa using q2.symm
     rw[<-mw];exact hv
    have axd:a.spot=none\/0<k*P.cellsOf e:=by
     by_cases hk:0<k*P.cellsOf e
     ·exact .inr hk
     ·have FB:k*P.cellsOf e=0:=by omega
      have h00:=pq 0 (cs[0]'(by omega)) (by simp)
      rw[FB] at h00;simp only[Addr.add,aF] at h00;unfold World.cell? at h00;split at h00
      ·split at h00
       ·simp at h00
       ·rename_i q;left;simpa using q
      ·simp at h00
    refine ⟨xs::rows,cs++vs,?_,?_,λj v hj=> ?_,by simp[d2],?_,?_,?_⟩
    ·rw[nn];exact c1.append d1
    ·rw[eQ,hlen,dl,eK];omega
    ·by_cases iy:j<cs.length
     ·rw[yn iy] at hj;have h:=pq j v hj;rw[aBC a _ j axd] at h;exact h
     ·rw[qW (by omega)] at hj
      have h:=dc _ v hj;rw[hlen] at h;rw[hlen] at iy;rw[eK,kO] at h;rw[show a.off+k*P.cellsOf e+j=a.off+(k*P.cellsOf e+P.cellsOf e)+(j-P.cellsOf e) by omega]
      exact h
    ·intro zs hz;rcases bB.1 hz with rfl|hz
     ·exact ⟨c2,by rw[<-c1.length,hlen]⟩
     ·exact d3 zs hz
    ·simp only[yU,fM,Rows.uptoBulkAll];omega
    ·intro FB _;rcases axd with h|h
     ·exact h
     ·subst FB;simp at h
   ·simp at hc
def asC {b o n:Nat} (h:CR w vs rows.flatten) (hl:vs.length=n*s) (hc:∀j v,vs[j]? =some v->w.cell? ⟨b,o+j,none⟩=some v) (hn:rows.length=n) (Fy:0<n) (hs:0<s) (hu:∀r∈rows,r.length=s) (fG:n<=c):
  VA (tS w).get .no (sq w.heap.size (.slice (some ⟨b,o,none⟩) n c)) (.iW e s rows)/\Iv (sq w.heap.size (.slice (some ⟨b,o,none⟩) n c))=false:=by
 have UM:0<n*s:=Nat.mul_pos Fy hs;have hb:∃cur et fz,w.heap[b]? =some (.cells cur et fz):=by
  have h0:=hc 0 (vs[0]'(by omega)) (by simp)
  unfold World.cell? at h0;split at h0
  ·rename_i cur et fz q;exact ⟨cur,et,fz,q⟩
  ·simp at h0
 let ⟨cur,et,fz,hb⟩:=hb;have bD:b<w.heap.size:=(oK.1 hb).1;have iT:∀j v,vs[j]? =some v->cur[o+j]? =some v:=λj v hj=>by
  have:=hc j v hj;unfold World.cell? at this;rw[hb] at this;simpa using this
 have hle:o+n*s<=cur.size:=by
  have h0:=iT (n*s-1) (vs[n*s-1]'(by omega)) (by simp)
  have:=(oK.1 h0).1;omega
 have heq:(cur.toList.drop o).take (n*s)=vs:=by
  apply wC;intro j;rw[eR];split
  ·rename_i hj;rw[fD];have:=iT j (vs[j]'(by omega)) (by simp)
   rw[mL,this];simp
  ·rename_i hj;rw[ym (by omega)]
 have himg:sq w.heap.size (.slice (some ⟨b,o,none⟩) n c)= .sl b o n (.k c):=by
  show (if n=0 then _ else if b<w.heap.size/\n<=c then SV.sl b o n (.k c) else .undef)=_
  rw[aA (by omega),ax ⟨bD,fG⟩]
 have hwin:((cur.toList.map (sq w.heap.size)).drop o).take (n*s)=vs.map (sq w.heap.size):=by
  rw[<-ES,<-zm,heq]
 have hF:gP ((tS w).get b) o (n*s)=some (0,cur.toList.map (sq w.heap.size)):=by
  rw[G4,hb];show ay (vy (((cur.toList.map (sq w.heap.size)).drop o).take (n*s))) (some (0,cur.toList.map (sq w.heap.size))) none=_;rw[hwin,bk,ax (Kn λj x hx=> ?_)]
  rw[kK] at hx;cases hv:vs[j]? with
  |none=>rw[hv] at hx;cases hx
  |some v=>rw[hv] at hx;cases hx;exact h.2 v (cX hv)
 rw[himg];exact ⟨.iW hF fG hn.symm hu (by simpa using hle) (by rw[hwin];exact h.1),rfl⟩
def JL {a:Option Addr}:VA F .no (sq nb (.slice a 0 c)) (.iW e s [])/\Iv (sq nb (.slice a 0 c))=false:=by
 have h:sq nb (.slice a 0 c)=if a=none/\c=0 then SV.cR else .sle:=by simp[sq]
 rw[h];split
 ·exact ⟨.xg _ _,rfl⟩
 ·exact ⟨.Eg _ _,rfl⟩
def OK (hP:∀t,S t=true->IW P S t=true):∀(n:Nat) (t:TypeId) (cs:eH) (x:DataW H×List MemPlace),S t=true->DataW.trod enc P w base spare held n t cs=some x->
  ∃xs,CR w cs xs/\jN P n t xs/\mK xs<=Rows.uptoBulk x.1
 |0,_,_,_,_,h=>by simp[DataW.trod] at h
 |n+1,t,cs,x,bD,h=>by
  have ih:=OK hP n;have qT:=hP t bD;unfold DataW.trod at h;unfold IW at qT;split at h
  ·rename_i b hu;simp at h;subst h;exact ⟨[.bool b],.one (.bool b) rfl,by simp[jN,hu],by simp[mK,Mw,Rows.uptoBulk]⟩
  ·rename_i k k' i hu;split at h
   ·rename_i hc;obtain ⟨rfl,hw⟩:=hc;simp at h;subst h;exact ⟨[.int k' i],.one (.int _ _) rfl,by simp[jN,hu,hw],by simp[mK,Mw,Rows.uptoBulk]⟩
   ·simp at h
  ·rename_i k k' i hu;rw[hu] at qT;cases qT
  ·rename_i s hu;split at h
   ·rename_i hc;simp at h;subst h;exact ⟨[.str s],.one (.str _) rfl,by simp[jN,hu,hc],by simp[mK,Mw,Rows.uptoBulk]⟩
   ·simp at h
  ·rename_i hu;rw[hu] at qT;cases qT
  ·rename_i e a hu;rw[hu] at qT;cases qT
  ·rename_i e hu;simp at h;subst h;exact ⟨[.iW e (P.cellsOf e) []],.one (JL (a:=none) (c:=0)).1 (JL (F:=λ_=>none) (e:=0) (s:=0)).2,by simp[jN,hu],by simp[mK,Mw,yU,Rows.uptoBulk]⟩
  ·rename_i e a len cap hu;simp only at h;split at h
   ·rename_i hc;cases hr:(List.range len).mapM λi=>(w.cells? base (a.add (i*P.cellsOf e)) (P.cellsOf e)).bind (DataW.trod enc P w base spare held n e) with
    |none=>simp[hr] at h
    |some ys=>
     simp only[hr,aq,kP] at h;obtain ⟨rest,_,rfl⟩:=h;simp only[hu,aY,lI] at qT;let ⟨he,hs⟩:=qT;have h2:=zM hr;rw[Su] at h2;let ⟨rows,vs,d1,dl,dc,d2,d3,d4,d5⟩:=I8 n e he a ih hs len 0 ys h2;have key:VA (tS w).get .no (sq w.heap.size (.slice (some a) len cap)) (.iW e (P.cellsOf e) rows)/\Iv (sq w.heap.size (.slice (some a) len cap))=false:=by
      by_cases uL:len=0
      ·subst uL;rw[ur d2];exact JL
      ·have hsp:=d5 rfl (by omega)
       let ⟨ab,ao,asp⟩:=a;simp at hsp;subst hsp;exact asC d1 dl (λj v hj=>by have:=dc j v hj;simpa using this) d2 (by omega) hs (λr hr=>(d3 r hr).2) hc.2.1
     refine ⟨[.iW e (P.cellsOf e) rows],.one key.1 key.2,?_,?_⟩
     ·simp only[jN,hu];exact ⟨rows,rfl,λr hr=>(d3 r hr).1⟩
     ·simp only[mK,Mw,Rows.uptoBulk];omega
   ·simp at h
  ·rename_i fs hu;split at h
   ·rename_i hl;simp only[kP] at h;obtain ⟨ys,hm,rfl⟩:=h;simp only[hu] at qT;let ⟨q9,d1,d2,d3⟩:=Il n ih _ fs.toList 0 _ ys qT hl (zM hm) (pU _);exact ⟨q9.flatten,by simpa using d1,by simp only[jN,hu];exact ⟨q9,rfl,d2⟩,by simp only[Rows.uptoBulk];omega⟩
   ·simp at h
  ·rename_i m e hu;split at h
   ·rename_i hl;simp only[kP] at h;obtain ⟨ys,hm,rfl⟩:=h;simp only[hu,wE,aY] at qT;have h2:=zM hm;rw[Su] at h2;let ⟨q9,d1,d2,d3,d4⟩:=Kw n e qT.2 ih _ m 0 ys (by rw[hl,qT.1];simp) h2
    exact ⟨q9.flatten,by simpa using d1,by simp only[jN,hu];exact ⟨q9,rfl,d2,d3⟩,by simp only[Rows.uptoBulk];omega⟩
   ·simp at h
  all_goals first
   |(rename_i hu;rw[hu] at qT;cases qT;done)
   |(cases h;done)
mutual
def P5:AV->Prop
 | .int k n=>(Lit.int k n).wf=true
 | .str s=>s.size<=maxLen
 | .iW _ _ rows=>Ct rows
 |_=>True
def Ct:aT->Prop
 | []=>True
 |r::rs=>xB r/\Ct rs
def xB:aB->Prop
 | []=>True
 |x::xs=>P5 x/\xB xs
end
def acd {ys:aB} (h:xB xs) (k:xB ys):xB (xs++ys):=by
 induction xs with
 |nil=>exact k
 |cons x xs ih=>exact ⟨h.1,ih h.2⟩
def agy (h:∀r∈rows,xB r):Ct rows:=by
 induction rows with
 |nil=>trivial
 |cons r rs ih=>exact ⟨h r (by simp),ih λx hx=>h x (by simp[hx])⟩
def IA (h:∀r∈rows,xB r):xB rows.flatten:=by
 induction rows with
 |nil=>trivial
 |cons r rs ih=>exact acd (h r (by simp)) (ih λx hx=>h x (by simp[hx]))
def YL:∀(n:Nat) (t:TypeId) (xs:aB),jN P n t xs->xB xs
 |0,_,_,h=>h.elim
 |n+1,t,xs,h=>by
  have ih:=YL n;unfold jN at h;split at h
  ·obtain ⟨b,rfl⟩:=h;exact ⟨trivial,trivial⟩
  ·obtain ⟨b,rfl,hw⟩:=h;exact ⟨hw,trivial⟩
  ·obtain ⟨b,rfl,hw⟩:=h;exact ⟨hw,trivial⟩
  ·obtain ⟨rows,rfl,hr⟩:=h;exact ⟨agy λr h=>ih _ _ (hr r h),trivial⟩
  ·obtain ⟨q9,rfl,h2⟩:=h;exact IA λr hr=>by let ⟨f,hf⟩:=avt h2 hr;exact ih _ _ hf
  ·obtain ⟨q9,rfl,_,h2⟩:=h;exact IA λr hr=>ih _ _ (h2 r hr)
  ·exact h.elim
def aAz {en:Y->aB} (h:∀r∈rows,∃x,r=en x):∃ys:List Y,rows=ys.map en:=by
 induction rows with
 |nil=>exact ⟨[],rfl⟩
 |cons r rs ih=>
  obtain ⟨y,rfl⟩:=h r (by simp)
  obtain ⟨ys,rfl⟩:=ih λx hx=>h x (by simp[hx])
  exact ⟨y::ys,rfl⟩
def AR (W:World) (P:Program) (v:Value) (x:AV):Prop:=VA (tS W).get .no (abA W.heap.size v) x/\VR (gW P W) v (abA W.heap.size v)
def aBB (hP:∀t,S t=true->IW P S t=true) (ht:S t=true) {d:DataW H} {ps:List MemPlace} (h:DataW.Trod enc P w base spare held t v d ps) (hv:v.cells.toList= [v]):
  ∃x n,AR w P v x/\jN P n t [x]/\mK [x]<=Rows.uptoBulk d:=by
 let ⟨n,hn⟩:=h;let ⟨xs,h1,h2,h3⟩:=OK hP n t _ _ ht hn;rw[hv] at h1;let ⟨h1,hu⟩:=h1;cases h1 with
 |cons hd ht=>
  cases ht;have e:abA w.heap.size v=sq w.heap.size v:=by
   cases v<;>first|rfl|(have:=hu _ (cB.2 rfl);cases this;done)
  exact ⟨_,n,⟨by rw[e];exact hd,by rw[e];exact aqL v⟩,h2,h3⟩
end
end
end Go.bQ
namespace Go.bQ
open Go.RowKit Go.ChangeShapes Go.Proofs.YtbnkhmoelnfjoaaGreat
variable {E:Env} {f:FuncId} {fn:Func} {s:ChangeSpec} {tb t:TypeId} {W:World} {before:List MemPlace} {base:Nat} {v:Value}
section
section
variable {H:Type} {enc:TypeId×Value->H} {P:Program}
def Ik (hl:laidOutB P=true) {W W':World} {sp:Nat->Bool}:∀{ts:List TypeId} {vs:eH} {ds:List (DataW H)} {ps:List MemPlace},
  (∀t∈ts,P.readableRec t=true/\t<P.types.size)->DataW.TrodAll enc P W 0 (λ_=>true) true ts vs ds ps->Below W.heap.size W W'->(∀p∈ps,p.block<W.heap.size)->(∀p∈ps,sp p.block=true)->
  DataW.TrodAll enc P W' 0 sp true ts vs ds ps
 | [],_,_,_,_,h,_,_,_=>by
  obtain ⟨rfl,rfl,rfl⟩:=trodAll_nil h;exact rfl
 |t::ts,_,_,_,ht,h,hb,bD,hsp=>by
  obtain ⟨v,vs,d,ds,p,q,rfl,rfl,rfl,h1,h2⟩:=trodAll_cons h;refine ⟨p,q,?_,Ik hl (λt h=>ht t (by simp[h])) h2 hb (λx hx=>bD x (by simp[hx])) (λx hx=>hsp x (by simp[hx])),rfl⟩
  exact WideElems.Trod_stays hl (ht t (by simp)).1 (ht t (by simp)).2 h1 (λx hx=>hb.same (bD x (by simp[hx]))) (λx hx=>hsp x (by simp[hx]))
def afD {W:World}:∀{vs:eH} {xs:aB},xQ (AR W P) vs xs->bZ (tS W).get .no (vs.map (abA W.heap.size)) xs/\kH (gW P W) vs (vs.map (abA W.heap.size))
 | [],[],_=>⟨.nil,.nil⟩
 |v::vs,x::xs,h=>⟨.cons h.1.1 (afD h.2).1,.cons h.1.2 (afD h.2).2⟩
 | [],_::_,h=>h.elim
 |_::_,[],h=>h.elim
def law_contract (hS:wy E) (hE:∀W,dP E (gW E.P W)) (uM:UX E (.fn (.func f) [] [])=true) (hl:laidOutB E.P=true) (yb:(fn.params.toList.all λt=>E.P.readableRec t&&decide (t<E.P.types.size))=true) (fh:fn.resultTypes= #[tb]) (htb:E.P.underlying tb=some .bool) (hv:s.vars= []) (wW:∀ds:List (DataW H),ds.length=fn.params.size->s.fn H ds={results:= [.lit (.bool true)],args:=ds}) {args:hY} {ds gs:List (DataW H)} (hW:DataW.Whole enc E.P fn.params.toList s.vars false W args.toList ds gs before) (alM:∃xs:aB,bP E f [] xs (.bool true) []/\xQ (AR W E.P) args.toList xs):
  Calls E.P f args W λe W'=>∃v,e= .returned v/\s.post enc E.P fn false true false false W args v W':=by
 let ⟨xs,hs,h2⟩:=alM;let ⟨k1,k2⟩:=afD h2;have hc:=amr hS (hE W) hs uM k1 k2;rw[Array.toArray_toList] at hc;refine hc.mono ?_;rintro e W' ⟨rfl,hb⟩;refine ⟨_,rfl,?_⟩;have hW':=hW;obtain ⟨p,q,hA,hV,rfl,hfz,yc⟩:=hW;rw[hv] at hV;obtain ⟨rfl,rfl⟩:=trodVars_none hV;have sv:ds.length=fn.params.size:=by
  have:∀{ts:List TypeId} {vs:eH} {ds:List (DataW H)} {ps:List MemPlace},DataW.TrodAll enc E.P W 0 (λ_=>true) true ts vs ds ps->ds.length=ts.length:=by
   intro ts;induction ts with
   |nil=>intro vs ds ps h;obtain ⟨rfl,rfl,rfl⟩:=trodAll_nil h;rfl
   |cons t ts ih=>intro vs ds ps h;obtain ⟨v,vs,d,ds,p,q,rfl,rfl,rfl,h1,h2⟩:=trodAll_cons h;simp[ih h2]
  simpa using this hA
 have hf:=wW (ds++ []) (by simpa using sv)
 have bD:∀x∈p,x.block<W.heap.size:=λx hx=>hW'.lt x (by simp[hx])
 have htt:∀t∈fn.params.toList,E.P.readableRec t=true/\t<E.P.types.size:=λt ht=>by
  have:=dV.1 yb t ht;simpa using this
 have hold:∀x∈p,(λb=>decide (b<W.heap.size)) x.block=true:=λx hx=>by simpa using bD x hx
 refine ⟨ds,[],p++ [],[],p,[],hW',?_,?_,?_,hb.frame _,λh=>by cases h⟩
 ·rw[hf,fh];exact trodAll_cons_mk (shut_bool htb _) trodAll_mk0
 ·rw[hf];simp only[pg];exact Ik hl htt hA hb bD hold
 ·rw[hf,hv];exact rfl
def agc {e:TypeId} (hu:P.underlying t=some (.slice e)) (h:Value.okWide P W .any base t v):v.cells.toList= [v]:=by
 simp only[Value.okWide,hu,Cell.okWide,Cell.ok] at h;split at h<;>first|rfl|(simp_all;done)|(exact h.elim)
end
end
end Go.bQ
namespace Go.Proofs.YtbnkhmoelnfjoaaGreat
open Go.bQ
variable {Y:Type} {i:Int}
def tyT:Tr TI:=awc Tryz.prog 312
def alU:Tr Func:=axm Tryz.prog
def fnT:Tr Func:=((((alU.set 182 none).set 184 none).set 185 none).set 165 none).set 219 none
def env (aIc:List Nat) (aCi:List (Nat×Nat)) (Eo:List Nat) (stop:List Nat) (lt eq:List (SI×SI×Bool)) (done:List (Nat×SV)):Env:=⟨Tryz.prog,tyT,fnT,lt,eq,done,aIc,aCi,Eo,stop⟩
def Xh:MA Tryz.prog tyT alU:=aCj 312 203 (fe:=Tryz.f203) (by kernel_rfl) (by kernel_rfl) Tryz.func203 (by kernel_rfl) (by kernel_rfl) (by kernel_rfl)
def E7 {t:Tr Y} {i k:Nat} {f:Y} (h:(t.set i none).get k=some f):t.get k=some f:=by
 rw[Tr.iU] at h;split at h
 ·cases h
 ·exact h
def U0:∀k f,fnT.get k=some f->alU.get k=some f:=λ_ _ h=>E7 (E7 (E7 (E7 (E7 h))))
def E0:Env:=env [] [(182,146),(184,147),(185,88),(165,1048576),(219,1048577)] [] [] [] [] [(17,.bool true)]
def auS (x:Int):List AV:= [.int .i64 x]
def nL (xs:List Int):List (List AV):=xs.map auS
def aoC (xs:List Int):nL xs=xs.map auS:=rfl
def R3:RowsK auS nL:=⟨aoC⟩
def acr (x:Int):List AV:= [.int .u8 x]
def y5 (xs:List Int):List (List AV):=xs.map acr
def VP (xs:List Int):y5 xs=xs.map acr:=rfl
def R5:RowsK acr y5:=⟨VP⟩
structure cO where
 ar:ByteArray
 aC:Int
def HE (x:cO):List AV:= [.str x.ar,.int .i64 x.aC]
def eU (xs:List cO):List (List AV):=xs.map HE
def ajZ (xs:List cO):eU xs=xs.map HE:=rfl
def dv:RowsK HE eU:=⟨ajZ⟩
structure bf where
 ae:(List Int)
 aO:Int
def Cw (x:bf):List AV:= [.slice 3 1 (nL x.ae),.int .i64 x.aO]
def hJ (xs:List bf):List (List AV):=xs.map Cw
def afU (xs:List bf):hJ xs=xs.map Cw:=rfl
def dM:RowsK Cw hJ:=⟨afU⟩
structure bj where
 aC:Int
 dw:Int
 cP:ByteArray
def DK (x:bj):List AV:= [.int .i64 x.aC,.int .i64 x.dw,.str x.cP]
def O6 (xs:List bj):List (List AV):=xs.map DK
def akd (xs:List bj):O6 xs=xs.map DK:=rfl
def D6:RowsK DK O6:=⟨akd⟩
structure aL where
 aC:Int
 cJ:Int
 aV:bj
def qn (x:aL):List AV:= [.int .i64 x.aC,.int .i64 x.cJ,.int .i64 x.aV.aC,.int .i64 x.aV.dw,.str x.aV.cP]
def L6 (xs:List aL):List (List AV):=xs.map qn
def afX (xs:List aL):L6 xs=xs.map qn:=rfl
def Vm:RowsK qn L6:=⟨afX⟩
structure ag where
 bu:Int
 eC:Int
 bW:aL
 bF:aL
 fArgs:(List ag)
mutual
def U5:ag->List AV
 |⟨bu,eC,bW,bF,fArgs⟩=> [.int .i64 bu,.int .i64 eC,.int .i64 bW.aC,.int .i64 bW.cJ,.int .i64 bW.aV.aC,.int .i64 bW.aV.dw,.str bW.aV.cP,.int .i64 bF.aC,.int .i64 bF.cJ,.int .i64 bF.aV.aC,.int .i64 bF.aV.dw,.str bF.aV.cP,.slice 107 13 (fH fArgs)]
def fH:List ag->List (List AV)
 | []=> []
 |x::xs=>U5 x::fH xs
end
def eX (x:ag):List AV:= [.int .i64 x.bu,.int .i64 x.eC,.int .i64 x.bW.aC,.int .i64 x.bW.cJ,.int .i64 x.bW.aV.aC,.int .i64 x.bW.aV.dw,.str x.bW.aV.cP,.int .i64 x.bF.aC,.int .i64 x.bF.cJ,.int .i64 x.bF.aV.aC,.int .i64 x.bF.aV.dw,.str x.bF.aV.cP,.slice 107 13 (fH x.fArgs)]
def amc (x:ag):U5 x=eX x:=by cases x;simp[U5,eX]
def afW (xs:List ag):fH xs=xs.map eX:=by
 induction xs with
 |nil=>simp[fH]
 |cons x xs ih=>simp[fH,ih,amc]
def cT:RowsK eX fH:=⟨afW⟩
structure ah where
 ar:ByteArray
 ae:(List cO)
 aP:Int
 ak:(List bf)
 aD:(List ag)
def ji (x:ah):List AV:= [.str x.ar,.slice 73 2 (eU x.ae),.int .i64 x.aP,.slice 121 2 (hJ x.ak),.slice 107 13 (fH x.aD)]
def dy (xs:List ah):List (List AV):=xs.map ji
def akc (xs:List ah):dy xs=xs.map ji:=rfl
def bI:RowsK ji dy:=⟨akc⟩
structure af where
 av:Int
 ai:(List ah)
def eP (x:af):List AV:= [.int .i64 x.av,.slice 44 5 (dy x.ai)]
def aae (xs:List af):List (List AV):=xs.map eP
def ake (xs:List af):aae xs=xs.map eP:=rfl
def KB:RowsK eP aae:=⟨ake⟩
structure l7 where
 f0:bj
 f1:bj
def Cy (x:l7):List AV:= [.int .i64 x.f0.aC,.int .i64 x.f0.dw,.str x.f0.cP,.int .i64 x.f1.aC,.int .i64 x.f1.dw,.str x.f1.cP]
def pN (xs:List l7):List (List AV):=xs.map Cy
def afV (xs:List l7):pN xs=xs.map Cy:=rfl
def sZ:RowsK Cy pN:=⟨afV⟩
structure aE where
 bu:Int
 aO:Int
 aX:Int
 jo:Int
 ar:ByteArray
 aC:Int
 aV:bj
 cI:(List l7)
 aZ:ah
def ng (x:aE):List AV:= [.int .i64 x.bu,.int .i64 x.aO,.int .i64 x.aX,.int .i64 x.jo,.str x.ar,.int .i64 x.aC,.int .i64 x.aV.aC,.int .i64 x.aV.dw,.str x.aV.cP,.slice 110 6 (pN x.cI),.str x.aZ.ar,.slice 73 2 (eU x.aZ.ae),.int .i64 x.aZ.aP,.slice 121 2 (hJ x.aZ.ak),.slice 107 13 (fH x.aZ.aD)]
def Jb (xs:List aE):List (List AV):=xs.map ng
def akb (xs:List aE):Jb xs=xs.map ng:=rfl
def AT:RowsK ng Jb:=⟨akb⟩
structure aQ where
 oY:(List Int)
 AO:Int
def gV (x:aQ):List AV:= [.iW 5 1 (y5 x.oY),.int .i64 x.AO]
def amd (x:(List bj)):List AV:= [.slice 38 3 (O6 x)]
def BZ (xs:List (List bj)):List (List AV):=xs.map amd
def aka (xs:List (List bj)):BZ xs=xs.map amd:=rfl
def vE:RowsK amd BZ:=⟨aka⟩
def acs (x:Nat):List AV:= [(aJg x)]
def L5 (xs:List Nat):List (List AV):=xs.map acs
def afT (xs:List Nat):L5 xs=xs.map acs:=rfl
def KC:RowsK acs L5:=⟨afT⟩
structure az where
 br:af
 fm:aE
def Cv (x:az):List AV:= [.int .i64 x.br.av,.slice 44 5 (dy x.br.ai),.int .i64 x.fm.bu,.int .i64 x.fm.aO,.int .i64 x.fm.aX,.int .i64 x.fm.jo,.str x.fm.ar,.int .i64 x.fm.aC,.int .i64 x.fm.aV.aC,.int .i64 x.fm.aV.dw,.str x.fm.aV.cP,.slice 110 6 (pN x.fm.cI),.str x.fm.aZ.ar,.slice 73 2 (eU x.fm.aZ.ae),.int .i64 x.fm.aZ.aP,.slice 121 2 (hJ x.fm.aZ.ak),.slice 107 13 (fH x.fm.aZ.aD)]
structure iF where
 my:(List Int)
 nP:(List Int)
def Ki (x:iF):List AV:= [.slice 3 1 (nL x.my),.slice 3 1 (nL x.nP)]
structure kC where
 f0:aL
 f1:aL
def Qc (x:kC):List AV:= [.int .i64 x.f0.aC,.int .i64 x.f0.cJ,.int .i64 x.f0.aV.aC,.int .i64 x.f0.aV.dw,.str x.f0.aV.cP,.int .i64 x.f1.aC,.int .i64 x.f1.cJ,.int .i64 x.f1.aV.aC,.int .i64 x.f1.aV.dw,.str x.f1.aV.cP]
abbrev aH:=List Int
abbrev iK:=List l7
abbrev bl:=List ah
abbrev qu:=List bj
abbrev cG:=List cO
abbrev iJ:=List af
abbrev tC:=List aL
abbrev cf:=List bf
abbrev bJ:=List ag
abbrev eG:=List aE
abbrev dC:=List (List bj)
abbrev Wf0:=aH->Option aH
abbrev Wf1:=ByteArray->aQ->Option (ByteArray×aQ)
abbrev Wf2:=ByteArray->Int->aQ->Option (ByteArray×aQ)
abbrev Wf3:=aH->Int->aQ->aL->tC->Option (aL×aQ)
abbrev Wf4:=Int->aQ->aL->tC->Option (aL×aQ)
abbrev Wf5:=aQ->ag->ag->bJ->Option (ag×aQ)
abbrev Wf6:=Int->Option Int
abbrev Wf7:=Int->Int->cG->Int->cO->cO->Int->Bool->ah->Option Bool
abbrev Wf8:=cf->Int->Int->Int->bl->Int->aH->Int->bl->Int->ah->ah->Int->af->ah->bf->Option Bool
abbrev Wf9:=cf->Int->Int->af->ah->Option Bool
abbrev KA:=af->Option Int
abbrev Vl:=bl->Int->Int->af->Option Int
abbrev Vk:=Int->Int->af->Option Int
abbrev Wf13:=ah->ah->cG->cf->Option ah
abbrev avx:=aH->Int->Int->Option aH
abbrev amN:=aH->ag->Option aH
abbrev amM:=Int->cf->Int->Int->ah->Option Bool
abbrev amL:=Int->bJ->Int->Int->Option Bool
abbrev amK:=ag->ag->bJ->Option ag
abbrev acY:=Int->Int->Int->Int->cG->bJ->ah->ah->cf->Option (ah×cG×cf×bJ)
abbrev Wf20:=Int->Int->cG->bJ->ah->ah->cf->Option (ah×cG×cf×bJ)
abbrev Wf21:=cG->bJ->ah->ah->cf->Option (ah×cG×cf×bJ)
abbrev Wf22:=iK->Int->Int->Int->iK->Int->Int->Int->Int->iK->Int->Int->l7->Option Bool
abbrev Wf23:=iK->Int->Int->Int->iK->Int->Int->Int->Int->l7->Option Bool
abbrev Wf24:=iK->Int->iK->Int->Int->Option Bool
abbrev Wf25:=af->aE->af->af->bl->Option (af×Bool)
abbrev Wf26:=Nat->aE->af->af->cG->bl->Option (af×Bool)
abbrev Wf27:=af->af->bl->Option (af×Bool)
abbrev Wf28:=Int->Int->af->aE->af->af->ah->cG->bJ->bl->bl->ah->Nat->Nat->cf->Option (af×Bool)
abbrev avw:=Int->Int->af->aE->af->af->bl->bl->Nat->Option (af×Bool)
abbrev Wf30:=af->af->bl->bl->Nat->Option (af×Bool)
abbrev Vj:=Int->aQ->af->eG->Option (eG×aQ)
abbrev Wf32:=bl->Int->Int->cf->Int->Int->Int->bl->Int->af->ah->bf->Option Bool
abbrev Wf33:=bl->Int->Int->cf->Int->Int->af->ah->Option Bool
abbrev amJ:=bl->Int->Int->af->Option Bool
abbrev Wf35:=bJ->Int->Int->iF->Option Bool
abbrev Wf36:=az->ag->ag->bJ->Option ag
abbrev Wf37:=ah->ah->ah->cG->cf->Option ah
abbrev Wf38:=ah->ah->cG->bJ->cf->Option ah
abbrev Wf39:=af->af->bl->Option af
abbrev Wf40:=kC->Int->aH->ag->Option (aH×aH)
abbrev Wf41:=aH->ag->Option (aH×aH)
abbrev Wf42:=kC->Int->aH->ag->Option aH
abbrev amI:=Nat->Int->Int->az->bl->ah->cf->Option az
abbrev Kz:=Int->Int->az->bl->Option (Bool×az)
abbrev amH:=az->bl->Option (Bool×az)
abbrev amG:=Int->Int->Int->dC->Option dC
abbrev Wf47:=eG->Int->Int->af->iJ->Option Bool
noncomputable section
def q0_ (a:az) (b:Nat):Bx:= .flat 184 [.int .i64 a.br.av,.ms b 5 0 a.br.ai.length,.int .i64 a.fm.bu,.int .i64 a.fm.aO,.int .i64 a.fm.aX,.int .i64 a.fm.jo,.str a.fm.ar,.int .i64 a.fm.aC,.int .i64 a.fm.aV.aC,.int .i64 a.fm.aV.dw,.str a.fm.aV.cP,.slice 110 6 (pN a.fm.cI),.str a.fm.aZ.ar,.slice 73 2 (eU a.fm.aZ.ae),.int .i64 a.fm.aZ.aP,.slice 121 2 (hJ a.fm.aZ.ak),.slice 107 13 (fH a.fm.aZ.aD)]
def rh (a:az) (b c:Nat):Bx:= .flat 184 [.int .i64 a.br.av,.ms b 5 0 c,.int .i64 a.fm.bu,.int .i64 a.fm.aO,.int .i64 a.fm.aX,.int .i64 a.fm.jo,.str a.fm.ar,.int .i64 a.fm.aC,.int .i64 a.fm.aV.aC,.int .i64 a.fm.aV.dw,.str a.fm.aV.cP,.slice 110 6 (pN a.fm.cI),.str a.fm.aZ.ar,.slice 73 2 (eU a.fm.aZ.ae),.int .i64 a.fm.aZ.aP,.slice 121 2 (hJ a.fm.aZ.ak),.slice 107 13 (fH a.fm.aZ.aD)]
def fB (a:ah):List AV:= [.str a.ar,.undef,.int .i64 a.aP,.slice 121 2 (hJ a.ak),.slice 107 13 (fH a.aD)]
def l8:List Sh:= [.d,.o false [.d,.d],.d,.o false [.o false [.d],.d],.o false [.d,.d,.d,.d,.d,.d,.d,.d,.d,.d,.d,.d,.d]]
def q4_ (a:az) (b:List (List AV)):AV:= .iw [.int .i64 a.br.av,.slice 44 5 b,.int .i64 a.fm.bu,.int .i64 a.fm.aO,.int .i64 a.fm.aX,.int .i64 a.fm.jo,.str a.fm.ar,.int .i64 a.fm.aC,.int .i64 a.fm.aV.aC,.int .i64 a.fm.aV.dw,.str a.fm.aV.cP,.slice 110 6 (pN a.fm.cI),.str a.fm.aZ.ar,.slice 73 2 (eU a.fm.aZ.ae),.int .i64 a.fm.aZ.aP,.slice 121 2 (hJ a.fm.aZ.ak),.slice 107 13 (fH a.fm.aZ.aD)]
def tN (a:ah):AV:= .int .i64 a.aP
def aN (a:Int):AV:= .int .i64 a
def ow (a:ah):List AV:= [.str a.ar,.undef,tN a,.undef,.slice 107 13 (fH a.aD)]
def q8_ (a:az) (b:List (List AV)):AV:= .iw [.int .i64 a.br.av,.slice 44 5 b,.int .i64 a.fm.bu,.int .i64 a.fm.aO,.int .i64 a.fm.aX,.int .i64 a.fm.jo,.str a.fm.ar,.int .i64 a.fm.aC,.int .i64 a.fm.aV.aC,.int .i64 a.fm.aV.dw,.str a.fm.aV.cP,.slice 110 6 (pN a.fm.cI),.str a.fm.aZ.ar,.slice 73 2 (eU a.fm.aZ.ae),.int .i64 a.fm.aZ.aP,.slice 121 2 (hJ a.fm.aZ.ak),.slice 107 13 (fH a.fm.aZ.aD)]
def q9_ (a:ag):Bx:= .flat 107 [aN a.bu,.int .i64 a.eC,.int .i64 a.bW.aC,.int .i64 a.bW.cJ,.int .i64 a.bW.aV.aC,.int .i64 a.bW.aV.dw,.str a.bW.aV.cP,.int .i64 a.bF.aC,.int .i64 a.bF.cJ,.int .i64 a.bF.aV.aC,.int .i64 a.bF.aV.dw,.str a.bF.aV.cP,.cR]
def fF (a:ByteArray) (b:ah):List AV:= [.str a,.undef,tN b,.undef,.undef]
def yE (a:ah):List AV:= [.str a.ar,.slice 73 2 (eU a.ae),tN a,.slice 121 2 (hJ a.ak),.undef]
def aau (a:ah):AV:= .slice 73 2 (eU a.ae)
def aku (a:ag) (b:Nat):Bx:= .flat 107 [aN a.bu,.int .i64 a.eC,.int .i64 a.bW.aC,.int .i64 a.bW.cJ,.int .i64 a.bW.aV.aC,.int .i64 a.bW.aV.dw,.str a.bW.aV.cP,.int .i64 a.bF.aC,.int .i64 a.bF.cJ,.int .i64 a.bF.aV.aC,.int .i64 a.bF.aV.dw,.str a.bF.aV.cP,.ms 45 13 0 b]
def Uk:Bx:= .flat 107 [.int .i64 0,.int .i64 0,.int .i64 0,.int .i64 0,.int .i64 0,.int .i64 0,.str ByteArray.empty,.int .i64 0,.int .i64 0,.int .i64 0,.int .i64 0,.str ByteArray.empty,.cR]
def NN (a:az) (b:Nat):List (Nat×Bx):= [(0,q0_ a b),(b,.tree 44 5 l8 (dy a.br.ai) [])]
def mS (a:af) (b c:Nat):Bx:= .flat 25 [.int .i64 a.av,.ms b 5 0 c]
def akt (a:Nat) (b:ah) (c d:Nat):List (Nat×Bx):= [(a,.rows false 73 2 (eU b.ae)),(c,.tree 121 2 [.o false [.d],.d] (hJ b.ak) []),(d,.rows false 107 13 (fH b.aD))]
def sV:List Sh:= [.d,.d,.d,.d,.d,.d,.d,.d,.d,.d,.d,.d,.d]
def yD (a:cf):Bx:= .tree 121 2 [.o false [.d],.d] (hJ a) []
def iR (a:aH):AV:= .slice 3 1 (nL a)
def aks (a:ah) (b c d:Nat):List AV:= [.str a.ar,.ms b 2 0 a.ae.length,tN a,.ms c 2 0 a.ak.length,.ms d 13 0 a.aD.length]
def El (a:ByteArray) (b c:Nat) (d:ah) (e f g h:Nat):Bx:= .flat 44 [.str a,.ms b 2 0 c,tN d,.ms e 2 0 f,.ms g 13 0 h]
def xj (a:cf):AV:= .slice 121 2 (hJ a)
def q24_ (a:Nat) (b:az) (c:Nat) (d:List (List AV)) (e f:Nat) (g:ah):List (Nat×Bx):= [(a,q0_ b c),(c,.tree 44 5 l8 d [(e,.ms f 2 0 g.ae.length)]),(f,.rows false 73 2 (eU g.ae))]
def Uj (a:ah):List AV:= [.str a.ar,aau a,tN a,.undef,.slice 107 13 (fH a.aD)]
def B3 (a:bJ):AV:= .slice 107 13 (fH a)
def sU (a:bl):Bx:= .tree 44 5 l8 (dy a) []
def yC (a:af):Bx:= .flat 25 [.int .i64 a.av,.cR]
def aat (a:ah):AV:= .slice 107 13 (fH a.aD)
def q30_ (a:List AV) (b c:ag) (d:Nat) (e:bJ):List (Nat×Bx):= [(0,.flat 97 a),(8,q9_ b),(12,.flat 107 [aN c.bu,.int .i64 c.eC,.int .i64 c.bW.aC,.int .i64 c.bW.cJ,.int .i64 c.bW.aV.aC,.int .i64 c.bW.aV.dw,.str c.bW.aV.cP,.int .i64 c.bF.aC,.int .i64 c.bF.cJ,.int .i64 c.bF.aV.aC,.int .i64 c.bF.aV.dw,.str c.bF.aV.cP,.ms 104 13 0 d]),(104,.rows true 107 13 (fH e))]
def lB (a b:Nat):AV:= .ms a 2 0 b
def q32_ (a:aE):Bx:= .flat 46 [aN a.bu,aN a.aO,.int .i64 0,.int .i64 0,.str ByteArray.empty,.int .i64 0,.int .i64 0,.int .i64 0,.str ByteArray.empty,.slice 110 6 (pN a.cI),.str ByteArray.empty,.slice 73 2 (eU a.aZ.ae),.int .i64 0,.slice 121 2 (hJ a.aZ.ak),.slice 107 13 (fH a.aZ.aD)]
def aas (a:af):AV:= .int .i64 a.av
def v8 (a:aH):Bx:= .rows false 3 1 (nL a)
def Ji (a:ByteArray) (b:ah):Bx:= .flat 44 [.str a,.cR,tN b,.cR,.cR]
def As (a:cG):Bx:= .rows false 73 2 (eU a)
def GY (a:cG):AV:= .slice 73 2 (eU a)
def sS (a:bl):AV:= .slice 44 5 (dy a)
def GX (a:bJ):Bx:= .rows false 107 13 (fH a)
def akr (a:az):AV:= .int .i64 a.fm.aX
def B2 (a:eG):Bx:= .rows false 46 15 (Jb a)
def GW (a:dC):Bx:= .rows false 70 1 (BZ a)
def Jh (a:bJ):Bx:= .rows true 107 13 (fH a)
def aar (a:ah):AV:= .slice 121 2 (hJ a.ak)
def Ar (a:iK):AV:= .slice 110 6 (pN a)
def q46_ (a:Nat) (b:az) (c:Nat):List (Nat×Bx):= [(a,q0_ b c),(c,.tree 44 5 l8 (dy b.br.ai) [])]
def GV (a:iJ):Bx:= .rows false 25 2 (aae a)
def oj (a:Int):List AV:= [.undef,aN a]
def tO (a:List AV):Bx:= .flat 97 a
def jD (a:List AV):Bx:= .flat 25 a
def B1 (a:qu):AV:= .slice 38 3 (O6 a)
def GU (a:dC):Bx:= .rows true 70 1 (BZ a)
def Jg (a:ByteArray) (b:ah):List AV:= [.str a,aau b,tN b,.undef,.undef]
def rL:AV:= .bool false
def aaq:List Sh:= [.o false [.d],.d]
def pE (a:List AV):Bx:= .flat 107 a
def aap:Bx:= .flat 25 [.int .i64 0,.cR]
def Ui (a:aH):Bx:= .rows true 3 1 (nL a)
def aao:Bx:= .flat 182 [.loc 9000 0]
def Ek (a:List (List AV)) (b c d e f g h i j:Nat):Bx:= .tree 44 5 l8 a [(b,.ms c 13 0 d),(e,lB f g),(h,lB i j)]
def akq (a b:List AV) (c:tC):List (Nat×Bx):= [(0,tO a),(8,.flat 105 b),(29,.rows true 105 5 (L6 c))]
def Uh (a:af) (b:Nat):Bx:= .flat 25 [aas a,.ms 32 5 0 b]
def akp (a:ah):List AV:= [.undef,aau a,tN a,aar a,aat a]
def sR (a:List AV):Bx:= .flat 44 a
def ako (a:bf):List AV:= [.slice 3 1 (nL a.ae),.undef]
def Ug (a:ByteArray) (b:ah) (c:bJ):List AV:= [.str a,.undef,tN b,.undef,B3 c]
def Uf (a:ByteArray) (b:cG) (c:ah):List AV:= [.str a,GY b,tN c,.undef,.undef]
def NM (a:List (List AV)) (b c d:Nat):Bx:= .tree 44 5 l8 a [(b,lB c d)]
def aan (a:eG):AV:= .slice 46 15 (Jb a)
def akn:AV:= .fn 198 [] [.loc 1 0]
def uR (a:List AV):List (Nat×Bx):= [(0,tO a)]
def akm (a:ByteArray) (b c:Nat) (d:ah) (e f g h:Nat) (i:ByteArray) (j:ah) (k:cG) (l:cf) (m:bJ):List (Nat×Bx):= [(3,El a b c d e f g h),(6,Ji i j),(b,As k),(e,yD l),(g,GX m)]
def v7 (a:List AV):Bx:= .flat 46 a
def akl:Bx:= .flat 182 [.loc 0 0]
def akk (a:cG):Bx:= .rows true 73 2 (eU a)
def aam (a:List (List AV)) (b c d:Nat):Bx:= .tree 121 2 aaq a [(b,.ms c 1 0 d)]
def Ue:AV:= .fn 67 [] []
def Ud (a:ByteArray) (b:ah) (c:cf) (d:bJ):List AV:= [.str a,.undef,tN b,xj c,B3 d]
def Uc (a:ByteArray) (b:cG) (c:ah) (d:cf):List AV:= [.str a,GY b,tN c,xj d,.undef]
end
abbrev qR:Nat:=100001
abbrev mI:Nat:=100003
abbrev qQ:Nat:=100004
abbrev eO:Nat:=1000611
abbrev lr:Nat:=1000613
abbrev iB:Nat:=1000614
abbrev th:Nat:=100100
abbrev fg:Nat:=1120986464256
abbrev fJ:Nat:=1138166333440
abbrev jJ:Nat:=1146756268032
abbrev xp:Nat:=1152921504607355976
abbrev zQ:Nat:=12885001891
abbrev j3:Nat:=145698175582208
abbrev dg:Nat:=200000
abbrev nZ:Nat:=201001
abbrev vo:Nat:=201003
abbrev tU:Nat:=201004
abbrev vn:Nat:=302400
abbrev im:Nat:=4294967296
abbrev vm:Nat:=500003
abbrev so:Nat:=520031
abbrev qj:Nat:=520033
abbrev bL:Nat:=520061
abbrev nY:Nat:=600601
abbrev mP:Nat:=710000
abbrev qi:Nat:=710001
abbrev vk:Nat:=710002
abbrev bp:Nat:=8589934592
def ep {Y:Type} {xs zs:List Y} {j:Nat} {x:Y} (h:setAt xs j x=some zs):=(nv h).symm
def _root_.Go.bQ.RowsK.cw {Y:Type} {enc:Y->List AV} {rows:List Y->List (List AV)} (R:RowsK enc rows) (xs:List Y):It E0:=.eqv (R.lenI xs)
abbrev SE:=Sc E0
def cu {Y:Type} (_:Y):List (Nat×Bx):= []
def dk {E:Env} (a b:Sc E):Sc E:=a++b
def Dx {E:Env} {f:Nat} {bs ds:List (Nat×Bx)} {xs:List AV} {y:AV} (h:bP E f bs xs y ds):It E:=.call h.L [] [] []
def dh {f:Nat} {bs ds:List (Nat×Bx)} {xs:List AV} {y:AV} (h:bP E0 f bs xs y ds) (l:cy):It E0:=.call h.L [] l []
def rT {f:Nat} {bs ds:List (Nat×Bx)} {xs:List AV} {y:AV} (h:bP E0 f bs xs y ds) (l:cy):It E0:=.call h.L [] [] l
def atT {f:Nat} {bs ds:List (Nat×Bx)} {xs:List AV} {y:AV} (h:bP E0 f bs xs y ds) (l:List PM):It E0:=.call h.L l [] []
def aw {a b:Bool} (h:a=b):Nat×It E0:=(0,eb h)
def aU {a b:Bool} (h:a=b):Nat×It E0:=(1,eb h)
def bq {a b:Bool} (h:a=b):Nat×It E0:=(2,eb h)
def bw {a b:Bool} (h:a=b):Nat×It E0:=(3,eb h)
def bT {a b:Bool} (h:a=b):Nat×It E0:=(4,eb h)
def fL {a b:Bool} (h:a=b):Nat×It E0:=(5,eb h)
def jj {a b:Bool} (h:a=b):Nat×It E0:=(6,eb h)
def qV {a b:Bool} (h:a=b):Nat×It E0:=(7,eb h)
def tw {a b:Bool} (h:a=b):Nat×It E0:=(8,eb h)
def ame {a b:Bool} (h:a=b):Nat×It E0:=(9,eb h)
def vQ {f:Nat} {bs ds:List (Nat×Bx)} {xs:List AV} {y:AV} (h:bP E0 f bs xs y ds):Nat×It E0:=(0,Dx h)
def PU {f:Nat} {bs ds:List (Nat×Bx)} {xs:List AV} {y:AV} (h:bP E0 f bs xs y ds):Nat×It E0:=(1,Dx h)
def jK {f:Nat} {bs ds:List (Nat×Bx)} {xs:List AV} {y:AV} (h:bP E0 f bs xs y ds):Nat×It E0:=(2,Dx h)
def na {f:Nat} {bs ds:List (Nat×Bx)} {xs:List AV} {y:AV} (h:bP E0 f bs xs y ds):Nat×It E0:=(3,Dx h)
def qS {f:Nat} {bs ds:List (Nat×Bx)} {xs:List AV} {y:AV} (h:bP E0 f bs xs y ds):Nat×It E0:=(4,Dx h)
def vP {f:Nat} {bs ds:List (Nat×Bx)} {xs:List AV} {y:AV} (h:bP E0 f bs xs y ds):Nat×It E0:=(5,Dx h)
def aly {f:Nat} {bs ds:List (Nat×Bx)} {xs:List AV} {y:AV} (h:bP E0 f bs xs y ds):Nat×It E0:=(6,Dx h)
def XA {f:Nat} {bs ds:List (Nat×Bx)} {xs:List AV} {y:AV} (h:bP E0 f bs xs y ds):Nat×It E0:=(7,Dx h)
def axc {f:Nat} {bs ds:List (Nat×Bx)} {xs:List AV} {y:AV} (h:bP E0 f bs xs y ds):Nat×It E0:=(9,Dx h)
def bnG_:Nat->Nat->List Nat->List Nat
 |0,_,l=>l
 |k+1,n,l=>cond (Nat.ble n 1) l (bnG_ k (n/2) (n%2::l))
def cZ (n:Nat):List Nat:=bnG_ 64 n []
def aHU (r:Bool):AV:=.bool r
def aDx (r:Bool):List (Nat×Bx):= []
def C17:=Cx E0 17 aHU aDx
def aDg:LS:=⟨[],[]⟩
def aDt (r:(List Int)):AV:=.cm []
def aAJ (r:(List Int)):List (Nat×Bx):= [(0,.rows false 3 1 (nL r))]
def C165:=Cx E0 165 aDt aAJ
def azr (AQ:(List Int)):LS:=⟨[(0,.ms 0 1 0 AQ.length)],[(0,.rows false 3 1 (nL AQ))]⟩
def aDs (r:((List cO)×(List cO))):AV:=.ms 0 2 0 r.2.length
def aAI (r:((List cO)×(List cO))):List (Nat×Bx):= [(0,.rows false 73 2 (eU r.2))]
def C182:=Cx E0 182 aDs aAI
def ayV (AQ:(List cO)) (a1_:Int) (a2_:Int):LS:=⟨[(0,.ms 0 2 0 AQ.length),(1,.int .i64 a1_),(2,.int .i64 a2_)],[(0,.rows false 73 2 (eU AQ))]⟩
def aDr (r:((List cO)×(List cO))):AV:=.ms 4294967296 2 0 r.2.length
def aAH (r:((List cO)×(List cO))):List (Nat×Bx):= [(4294967296,.rows false 73 2 (eU r.2))]
def C184:=CxS E0 184 [2] aDr aAH
def ayR (AQ:(List cO)) (a1_:Int) (a2_:(List cO)):LS:=⟨[(0,.ms 4294967296 2 0 AQ.length),(1,.int .i64 a1_),(2,.ms 2 2 0 a2_.length)],[(2,.rows false 73 2 (eU a2_)),(4294967296,.rows false 73 2 (eU AQ))]⟩
def aDq (r:((List ah)×(List ah))):AV:=.ms 0 5 0 r.2.length
def aAG (r:((List ah)×(List ah))):List (Nat×Bx):= [(0,.tree 44 5 [.d,.o false [.d,.d],.d,.o false [.o false [.d],.d],.o false [.d,.d,.d,.d,.d,.d,.d,.d,.d,.d,.d,.d,.d]] (dy r.2) [])]
def C185:=Cx E0 185 aDq aAG
def ayQ (AQ:(List ah)) (a1_:Int) (a2_:Int):LS:=⟨[(0,.ms 0 5 0 AQ.length),(1,.int .i64 a1_),(2,.int .i64 a2_)],[(0,.tree 44 5 [.d,.o false [.d,.d],.d,.o false [.o false [.d],.d],.o false [.d,.d,.d,.d,.d,.d,.d,.d,.d,.d,.d,.d,.d]] (dy AQ) [])]⟩
def aai (r:Int):AV:=.int .i64 r
def aAF (r:Int):List (Nat×Bx):= []
def C203:=Cx E0 203 aai aAF
def ayI (AQ:ByteArray) (a1_:ByteArray):LS:=⟨[(0,.str AQ),(1,.str a1_)],[]⟩
def aDp (r:((List Int)×(List Int))):AV:=.ms 0 1 0 r.2.length
def aAE (r:((List Int)×(List Int))):List (Nat×Bx):= [(0,.rows false 3 1 (nL r.2))]
def C219:=Cx E0 219 aDp aAE
def ayA (AQ:(List Int)):LS:=⟨[(0,.ms 0 1 0 AQ.length)],[(0,.rows false 3 1 (nL AQ))]⟩
def amT (_n:Nat) (a b:ByteArray):Option Int:=some (Lib.compareBytes a.data.toList b.data.toList)
def aIw (n:Nat):K2 C203 ayI (amT n):=λa b r h=>by
 have e:=ux h;subst e;show bP E0 203 [] [.str a,.str b] (aai (Lib.compareBytes a.data.toList b.data.toList)) [];rw[show aai (Lib.compareBytes a.data.toList b.data.toList)= .int .i64 (CD a b) from bA (AV.int .i64) (Wn a b)];exact bP.cmp (fn:=Tryz.f203) (by kernel_rfl) (by kernel_rfl) (by kernel_rfl)
def F17 (_n:Nat):Option Bool:=some true
def ev17 (n:Nat):K0 C17 aDg (F17 n):=λr h=>by
 have e:=ux h;subst e;exact bP.done (v:=.bool true) (by kernel_rfl) λF g=>.bool true
def U8 {Y:Type} (s:List Y) (i j:Int):Option (List Y×List Y):=if 0<=i/\i<j/\j<=s.length then some (s.take i.toNat++s.drop j.toNat,s.take i.toNat++s.drop j.toNat) else none
def abv {Y:Type} (s:List Y) (i:Int) (v:List Y):Option (List Y×List Y):=if 0<=i/\i<=s.length/\0<s.length/\0<v.length/\s.length<=1000000/\v.length<=1000000 then some (s.take i.toNat++v++s.drop i.toNat,s.take i.toNat++v++s.drop i.toNat) else none
def Wl {s:List Y} {j:Int} {r:List Y×List Y} (h:U8 s i j=some r):∃a b:Nat,i=a/\j=b/\a<b/\b<=s.length/\r=(s.take a++s.drop b,s.take a++s.drop b)/\(s.take a++s.drop b).length=s.length-(b-a):=by
 unfold U8 at h;split at h
 ·rename_i c;refine ⟨i.toNat,j.toNat,by omega,by omega,by omega,by omega,(ux h).symm,?_⟩
  simp;omega
 ·cases h
def aqK {s v:List Y} {r:List Y×List Y} (h:abv s i v=some r):∃a:Nat,i=a/\a<=s.length/\0<s.length/\0<v.length/\s.length<=1000000/\v.length<=1000000/\r=(s.take a++v++s.drop a,s.take a++v++s.drop a)/\(s.take a++v++s.drop a).length=s.length+v.length:=by
 unfold abv at h;split at h
 ·rename_i c;refine ⟨i.toNat,by omega,by omega,by omega,by omega,by omega,by omega,(ux h).symm,?_⟩
  simp;omega
 ·cases h
def adP (_n:Nat) (xs:List Int):Option (List Int):=if xs.length<=4294967295 then some (lY xs) else none
def aIF (n:Nat):K1 C165 azr (adP n):=λxs r h=>by
 unfold adP at h;split at h
 ·rename_i c;cases h;exact bP.axb (E:=E0) (k:=165) (c:=1048576) (z:=true) (e:=3) (xs:=xs) (hf:=by kernel_rfl) (hp:=by kernel_rfl) (h0:=by kernel_rfl) (h1:=by kernel_rfl) rfl c
 ·cases h
def adF (_n:Nat) (xs:List Int):Option (List Int×List Int):=if xs.length<=4294967295 then some (ld xs,ld xs) else none
def aIs (n:Nat):K1 C219 ayA (adF n):=λxs r h=>by
 unfold adF at h;split at h
 ·rename_i c;cases h;exact bP.axb (E:=E0) (k:=219) (c:=1048577) (z:=false) (e:=3) (xs:=xs) (hf:=by kernel_rfl) (hp:=by kernel_rfl) (h0:=by kernel_rfl) (h1:=by kernel_rfl) rfl c
 ·cases h
def adK (_n:Nat) (s:List cO) (i j:Int):Option (List cO×List cO):=U8 s i j
def axy (n:Nat):K3 C182 ayV (adK n):=λs i j r h=>by
 obtain ⟨a,b,rfl,rfl,h1,h2,rfl,hl⟩:=Wl h;have key:=bP.delR (E:=E0) (k:=182) (c:=146) (sz:=2) (e:=73) (n:=s.length) (Q:=eU s) (hf:=by kernel_rfl) (hp:=by kernel_rfl) (h9:=by kernel_rfl) (h0:=by kernel_rfl) (h1:=by kernel_rfl) (hie:=rfl) (hs:=by kernel_rfl) (hn:=dv.len s) h1 h2
 rw[<-hl] at key;have e:(eU s).take a++(eU s).drop b=eU (s.take a++s.drop b):=by simp[eU,zm,ES]
 rw[e] at key;exact key
def avF (_n:Nat) (s:List ah) (i j:Int):Option (List ah×List ah):=U8 s i j
def aIC (n:Nat):K3 C185 ayQ (avF n):=λs i j r h=>by
 obtain ⟨a,b,rfl,rfl,h1,h2,rfl,hl⟩:=Wl h;have key:=bP.delT (E:=E0) (k:=185) (c:=88) (sz:=5) (e:=44) (n:=s.length) (Q:=dy s) (l:= [.d,.o false [.d,.d],.d,.o false [.o false [.d],.d],.o false [.d,.d,.d,.d,.d,.d,.d,.d,.d,.d,.d,.d,.d]]) (hf:=by kernel_rfl) (hp:=by kernel_rfl) (h9:=by kernel_rfl) (h0:=by kernel_rfl) (h1:=by kernel_rfl) (hie:=rfl) (hs:=by kernel_rfl) (hn:=bI.len s) h1 h2
 rw[<-hl] at key;have e:(dy s).take a++(dy s).drop b=dy (s.take a++s.drop b):=by simp[dy,zm,ES]
 rw[e] at key;exact key
def avG (_n:Nat) (s:List cO) (i:Int) (v:List cO):Option (List cO×List cO):=abv s i v
def aID (n:Nat):K3 C184 ayR (avG n):=λs i v r h=>by
 obtain ⟨a,rfl,h1,h2,h3,h4,h5,rfl,hl⟩:=aqK h;have key:=bP.insR (E:=E0) (k:=184) (c:=147) (sz:=2) (e:=73) (e2:=73) (z:=false) (n:=s.length) (q:=v.length) (Q:=eU s) (V:=eU v) (hf:=by kernel_rfl) (hp:=by kernel_rfl) (h9:=by kernel_rfl) (h0:=by kernel_rfl) (h1:=by kernel_rfl) (hie:=rfl) (hs:=by kernel_rfl) (hn:=dv.len s) (hq:=dv.len v) h1 h2 h3 h4 h5
 rw[<-hl] at key;have e:(eU s).take a++eU v++(eU s).drop a=eU (s.take a++v++s.drop a):=by simp[eU,zm,ES]
 rw[e] at key;exact key
def Xo (r:(Int×aQ)):AV:=.int .i64 r.1
def Pm (r:(Int×aQ)):List (Nat×Bx):= (uR (gV r.2))
def ov:=fx E0 Tryz.f18 [0] [0]
def A18:=Ax ov Xo Pm
def OP (c0:aQ) (n1:Int):LS:=⟨[(0,.loc 0 0),(1,aN n1)],(uR (gV c0))⟩
def anJ (n:Nat) (c0:aQ) (n1:Int):Option (Int×aQ):=
 if !decide (c0.AO<(c0.oY.length:Int)) then
 some (0,c0)
 else
 if decide (n1<1) then
 some (0,c0)
 else
 (idx c0.oY (bh ((bh (c0.AO+1)) - 1))).bind λpA=>(rem (bh (pA)) n1).bind λx38=>some ((Int.tmod (bh (pA)) n1),(aQ.mk c0.oY (bh (c0.AO+1))))
def aKt (n:Nat):K2 (A18 []) OP (anJ n):=λc0 n1 r h=>let zA:SE:=[(9,R5.cw c0.oY)];ie h (λdF h=>bG h zA [aw dF]) (λdF h=>ie h (λc1 h=>bG h zA [aw dF,bq c1]) (λc1 h=>be h λpA Ci h=>be h λx38 aub h=>bG h zA [aw dF,bq c1,(18,R5.idx Ci),(3,.nz (aaj aub).1)]))
def sE:=anJ
def pG (n:Nat):K2 (Cx E0 18 Xo Pm) OP (sE n):=λ_ _ _ h=>ca (X:=ov) (aKt n h)
def Dd (r:aH):AV:=.ms dg 1 0 r.length
def aoY (r:aH):List (Nat×Bx):= [(dg,Ui r)]
def x50:=fx E0 Tryz.f50 [] [dg]
def A50:=Ax x50 Dd aoY
def aCI (t22:cG) (t23 t24:Int) (eY:aH):LS:=⟨[(5,.ms 32 1 0 eY.length),(22,GY t22),(23,aN t23),(24,aN t24)],[(32,Ui eY)]⟩
def aCH (eY:aH):LS:=⟨[(5,.ms 32 1 0 eY.length)],[(32,Ui eY)]⟩
def E3 (s0:af) (gk:Int):LS:=⟨[(0,.agg (eP s0)),(1,aN gk)],[]⟩
def Ye (aR:Wf0) (back:cG->Int->Int->aH->Option aH) (n:Nat) (t22:cG) (t23 t24:Int) (eY:aH):Option aH:=
 if decide (t24<t23) then
 (idx t22 t24).bind λx2=>(app eY [x2.aC]).bind λdn=>back t22 t23 (bh (t24+1)) dn
 else
 aR eY
def ajR:=K1 (A50 [1,1,1,1]) aCH
def ajQ:=K4 (A50 (cZ 87)) aCI
def aJR {aR} (bK:ajR aR) {back} (aS:ajQ back) (n:Nat):ajQ (Ye aR back n):=λt22 t23 t24 eY r h=>ie h (λc0 h=>be h λx2 cW h=>be h λdn gh h=>ra (aS h) [aw c0,(0,dv.idx cW),(7,R3.app gh (R3.tK [x2.aC]))]) (λc0 h=>ra (bK h) [aw c0])
def ML (aR:Wf0):Nat->cG->Int->Int->aH->Option aH
 |0=>λ_ _ _ _=>none
 |n+1=>Ye aR (ML aR n) n
def awK {aR} (bK:ajR aR):∀n:Nat,ajQ (ML aR n)
 |0=>λ_ _ _ _ _ h=>nz h
 |n+1=>aJR bK (awK bK n) n
def Yd (n:Nat) (eY:aH):Option aH:=
 some eY
def aJQ (n:Nat):ajR (Yd n):=λeY r h=>rr h [(2,.fO 32 dg)]
def anz (n:Nat) (s0:af) (gk:Int):Option aH:=
 if decide (gk<0) then
 some []
 else
 if !decide (gk<(s0.ai.length:Int)) then
 some []
 else
 (idx s0.ai gk).bind λgA=>ML (Yd n) n gA.ae (gA.ae.length:Int) 0 []
def aJP (n:Nat):K2 (A50 []) E3 (anz n):=λs0 gk r h=>ie h (λc0 h=>rr h [bw c0,(3,.born [4] [] dg true 3 1)]) (λc0 h=>let zA:SE:=[bw c0,(4,bI.cw s0.ai)];ie h (λc1 h=>bG h zA [aw c1,(2,.born [4] [] dg true 3 1)]) (λc1 h=>be h λgA kZ h=>cL (awK (aJQ n) n h) zA [aw c1,(5,bI.idx kZ),(2,dv.cw gA.ae),(1,.born [5] [] 32 true 3 1)]))
def F50:=anz
def ev50 (n:Nat):K2 (Cx E0 50 Dd aoY) E3 (F50 n):=λ_ _ _ h=>ca (X:=x50) (aJP n h)
def awn (r:(Bool×aQ)):AV:=.bool r.1
def aoX (r:(Bool×aQ)):List (Nat×Bx):= (uR (gV r.2))
def x70:=fx E0 Tryz.f70 [0] [0]
def A70:=Ax x70 awn aoX
def anx (n:Nat) (c0:aQ) (n1:Int):Option (Bool×aQ):=
 (sE n c0 n1).bind λx4=>some (x4.1==(bh (n1 - 1)),x4.2)
def aJN (n:Nat):K2 (A70 []) OP (anx n):=λc0 n1 r h=>be h λx4 kY h=>rr h [(3,dh (pG n kY) [(0,0)])]
def KK:=anx
def uZ (n:Nat):K2 (Cx E0 70 awn aoX) OP (KK n):=λ_ _ _ h=>ca (X:=x70) (aJN n h)
def awm (r:cO):AV:=.agg (HE r)
def x91:=fx E0 Tryz.f91 [] []
def A91:=Ax x91 awm cu
def aoh (Xr:ByteArray) (fy:Int):LS:=⟨[(0,.str Xr),(1,aN fy)],[]⟩
def anw (n:Nat) (Xr:ByteArray) (fy:Int):Option cO:=
 some (cO.mk Xr fy)
def aJM (n:Nat):K2 (A91 []) aoh (anw n):=λXr fy r h=>rr h []
def C3:=anw
def Cu (n:Nat):K2 (Cx E0 91 awm cu) aoh (C3 n):=λ_ _ _ h=>ca (X:=x91) (aJM n h)
def x136:=fx E0 Tryz.f136 [0] [0]
def A136:=Ax x136 Xo Pm
def wK (c0:aQ):LS:=⟨[(0,.loc 0 0)],(uR (gV c0))⟩
def afs (n:Nat) (c0:aQ):Option (Int×aQ):=
 (sE n c0 12).bind λx3=>if x3.1==9 then
 some ((-1),x3.2)
 else
 if x3.1==10 then
 some (9223372036854775807,x3.2)
 else
 if x3.1==11 then
 some ((-9223372036854775808),x3.2)
 else
 (rem x3.1 4).bind λja=>some ((Int.tmod x3.1 4),x3.2)
def aGX (n:Nat):K1 (A136 []) wK (afs n):=λc0 r h=>be h λx3 fX h=>let zA:SE:=[(2,dh (pG n fX) [(0,0)])];ie h (λdF h=>bG h zA [bq dF]) (λdF h=>ie h (λc1 h=>bG h zA [bq dF,aU c1]) (λc1 h=>ie h (λc2 h=>bG h zA [bq dF,aU c1,aU c2]) (λc2 h=>be h λja lC h=>bG h zA [bq dF,aU c1,aU c2,(2,.nz (aaj lC).1)])))
def ank:=afs
def aIY (n:Nat):K1 (Cx E0 136 Xo Pm) wK (ank n):=λ_ _ h=>ca (X:=x136) (aGX n h)
def aoK (r:(ByteArray×aQ)):AV:=.str r.1
def aic (r:(ByteArray×aQ)):List (Nat×Bx):= (uR (gV r.2))
def x137:=fx E0 Tryz.f137 [0] [0]
def afL:=Ax x137 aoK aic
def aAf (m9:ByteArray) (i4:Int) (b0:aQ):LS:=⟨[(3,.str m9),(4,aN i4)],(uR (gV b0))⟩
def ahz (m9:ByteArray) (b0:aQ):LS:=⟨[(3,.str m9)],(uR (gV b0))⟩
def aAe (m9:ByteArray) (i5:Int) (b0:aQ):LS:=⟨[(3,.str m9),(5,aN i5)],(uR (gV b0))⟩
def R9 (aR:Wf1) (back:Wf2) (n:Nat) (m9:ByteArray) (i4:Int) (b0:aQ):Option (ByteArray×aQ):=
 if decide (i4<64) then
 (cat m9 (ByteArray.mk #[255])).bind λx4=>back (m9++(ByteArray.mk #[255])) (bh (i4+1)) b0
 else
 aR m9 b0
def ajP:=K2 (afL (cZ 458731)) ahz
def ajO:=K3 (afL (cZ 1376235)) aAf
def aGW {aR} (bK:ajP aR) {back} (aS:ajO back) (n:Nat):ajO (R9 aR back n):=λm9 i4 b0 r h=>ie h (λdF h=>be h λx4 kY h=>ra (aS h) [aU dF,(1,.cat (HL kY).1)]) (λdF h=>ra (bK h) [aU dF])
def Gp (aR:Wf1):Nat->ByteArray->Int->aQ->Option (ByteArray×aQ)
 |0=>λ_ _ _=>none
 |n+1=>R9 aR (Gp aR n) n
def aqv {aR} (bK:ajP aR):∀n:Nat,ajO (Gp aR n)
 |0=>λ_ _ _ _ h=>nz h
 |n+1=>aGW bK (aqv bK n) n
def asd (n:Nat) (m9:ByteArray) (b0:aQ):Option (ByteArray×aQ):=
 some (m9,b0)
def aGV (n:Nat):ajP (asd n):=λm9 b0 r h=>rr h []
def R8 (cA:Wf1) (back:Wf2) (n:Nat) (m9:ByteArray) (i5:Int) (b0:aQ):Option (ByteArray×aQ):=
 if decide (i5<64) then
 (cat m9 (ByteArray.mk #[98])).bind λx4=>back (m9++(ByteArray.mk #[98])) (bh (i5+1)) b0
 else
 cA m9 b0
def ajN:=K2 (afL [1,1,1,1]) ahz
def ajM:=K3 (afL (cZ 87)) aAe
def aGU {cA} (dX:ajN cA) {back} (aS:ajM back) (n:Nat):ajM (R8 cA back n):=λm9 i5 b0 r h=>ie h (λdF h=>be h λx4 kY h=>ra (aS h) [aU dF,(1,.cat (HL kY).1)]) (λdF h=>ra (dX h) [aU dF])
def Gn (cA:Wf1):Nat->ByteArray->Int->aQ->Option (ByteArray×aQ)
 |0=>λ_ _ _=>none
 |n+1=>R8 cA (Gn cA n) n
def aqu {cA} (dX:ajN cA):∀n:Nat,ajM (Gn cA n)
 |0=>λ_ _ _ _ h=>nz h
 |n+1=>aGU dX (aqu dX n) n
def asc (n:Nat) (m9:ByteArray) (b0:aQ):Option (ByteArray×aQ):=
 some (m9,b0)
def aGT (n:Nat):ajN (asc n):=λm9 b0 r h=>rr h []
def afr (n:Nat) (c0:aQ):Option (ByteArray×aQ):=
 (sE n c0 10).bind λx4=>if x4.1==0 then
 some ((ByteArray.mk #[97]),x4.2)
 else
 if x4.1==1 then
 some ((ByteArray.mk #[97]),x4.2)
 else
 if x4.1==2 then
 some ((ByteArray.mk #[97]),x4.2)
 else
 if x4.1==3 then
 some ((ByteArray.mk #[98]),x4.2)
 else
 if x4.1==4 then
 some ((ByteArray.mk #[98]),x4.2)
 else
 if x4.1==5 then
 some (ByteArray.empty,x4.2)
 else
 if x4.1==6 then
 some ((ByteArray.mk #[97,0]),x4.2)
 else
 if x4.1==7 then
 some ((ByteArray.mk #[255]),x4.2)
 else
 if x4.1==8 then
 Gp (asd n) n ByteArray.empty 0 x4.2
 else
 Gn (asc n) n ByteArray.empty 0 x4.2
def aGS (n:Nat):K1 (afL []) wK (afr n):=λc0 r h=>be h λx4 kY h=>let zA:SE:=[(3,dh (pG n kY) [(0,0)])];ie h (λdF h=>bG h zA [aw dF]) (λdF h=>let zB:SE:=dk zA [aw dF];ie h (λc1 h=>bG h zB [aU c1]) (λc1 h=>let zC:SE:=dk zB [aU c1];ie h (λc2 h=>bG h zC [aU c2]) (λc2 h=>let zD:SE:=dk zC [aU c2];ie h (λc3 h=>bG h zD [aU c3]) (λc3 h=>let zE:SE:=dk zD [aU c3];ie h (λc4 h=>bG h zE [aU c4]) (λc4 h=>let zF:SE:=dk zE [aU c4];ie h (λc5 h=>bG h zF [aU c5]) (λc5 h=>let zG:SE:=dk zF [aU c5];ie h (λc6 h=>bG h zG [aU c6]) (λc6 h=>ie h (λc7 h=>bG h zG [aU c6,aU c7]) (λc7 h=>ie h (λc8 h=>cL (aqv (aGV n) n h) zG [aU c6,aU c7,aU c8]) (λc8 h=>cL (aqu (aGT n) n h) zG [aU c6,aU c7,aU c8])))))))))
def anj:=afr
def aIX (n:Nat):K1 (Cx E0 137 aoK aic) wK (anj n):=λ_ _ h=>ca (X:=x137) (aGS n h)
def awl (r:(bj×aQ)):AV:=.agg (DK r.1)
def aoW (r:(bj×aQ)):List (Nat×Bx):= (uR (gV r.2))
def x93:=fx E0 Tryz.f93 [0] [0]
def A93:=Ax x93 awl aoW
def aog (c0:aQ) (fy:Int):LS:=⟨[(0,.loc 0 0),(1,aN fy)],(uR (gV c0))⟩
def anu (n:Nat) (c0:aQ) (fy:Int):Option (bj×aQ):=
 if fy==3 then
 (sE n c0 2).bind λx7=>some ((bj.mk fy x7.1 ByteArray.empty),x7.2)
 else
 if fy==4 then
 (ank n c0).bind λx9=>some ((bj.mk fy x9.1 ByteArray.empty),x9.2)
 else
 (anj n c0).bind λx8=>some ((bj.mk 5 0 x8.1),x8.2)
def aJK (n:Nat):K2 (A93 []) aog (anu n):=λc0 fy r h=>ie h (λdF h=>be h λx7 kX h=>rr h [bq dF,(3,dh (pG n kX) [(0,0)])]) (λdF h=>ie h (λc1 h=>be h λx9 kD h=>rr h [bq dF,aU c1,(3,dh (aIY n kD) [(0,0)])]) (λc1 h=>be h λx8 ss h=>rr h [bq dF,aU c1,(2,dh (aIX n ss) [(0,0)])]))
def F93:=anu
def U3 (n:Nat):K2 (Cx E0 93 awl aoW) aog (F93 n):=λ_ _ _ h=>ca (X:=x93) (aJK n h)
def aoI (r:(aL×aQ)):AV:=.agg (qn r.1)
def ahZ (r:(aL×aQ)):List (Nat×Bx):= (uR (gV r.2))
def x169:=fx E0 Tryz.f169 [0] [0]
def afH:=Ax x169 aoI ahZ
def azq (params2:aH) (jx:Int) (t15:aH) (t16 t17:Int) (b0:aQ) (b8:aL) (ka:tC):LS:=⟨[(0,.loc 0 0),(2,iR params2),(3,aN jx),(8,.loc 8 0),(9,.ms 29 5 0 ka.length),(15,iR t15),(16,aN t16),(17,aN t17)],(akq (gV b0) (qn b8) ka)⟩
def azp (jx:Int) (t31:aH) (t32 t33:Int) (b0:aQ) (b8:aL) (ka:tC):LS:=⟨[(0,.loc 0 0),(3,aN jx),(8,.loc 8 0),(9,.ms 29 5 0 ka.length),(31,iR t31),(32,aN t32),(33,aN t33)],(akq (gV b0) (qn b8) ka)⟩
def azo (jx:Int) (b0:aQ) (b8:aL) (ka:tC):LS:=⟨[(0,.loc 0 0),(3,aN jx),(8,.loc 8 0),(9,.ms 29 5 0 ka.length)],(akq (gV b0) (qn b8) ka)⟩
def azn (params2:aH) (jx:Int) (b0:aQ) (b8:aL) (ka:tC):LS:=⟨[(0,.loc 0 0),(2,iR params2),(3,aN jx),(8,.loc 8 0),(9,.ms 29 5 0 ka.length)],(akq (gV b0) (qn b8) ka)⟩
def ahk (c0:aQ) (de params2:aH) (jx:Int):LS:=⟨[(0,.loc 0 0),(1,iR de),(2,iR params2),(3,aN jx)],(uR (gV c0))⟩
def Rq (cA:Wf3) (back:aH->Int->aH->Int->Int->aQ->aL->tC->Option (aL×aQ)) (n:Nat) (params2:aH) (jx:Int) (t15:aH) (t16 t17:Int) (b0:aQ) (b8:aL) (ka:tC):Option (aL×aQ):=
 if decide (t17<t16) then
 (idx t15 t17).bind λx3=>if x3==jx then
 (app ka [(aL.mk 1 t17 (bj.mk 0 0 ByteArray.empty))]).bind λfq=>back params2 jx t15 t16 (bh (t17+1)) b0 b8 fq
 else
 back params2 jx t15 t16 (bh (t17+1)) b0 b8 ka
 else
 cA params2 jx b0 b8 ka
def ajL:=K5 (afH [1,1,1]) azn
def ajK:=K8 (afH [0,1,0,1,1]) azq
def aFA {cA} (dX:ajL cA) {back} (aS:ajK back) (n:Nat):ajK (Rq cA back n):=λparams2 jx t15 t16 t17 b0 b8 ka r h=>ie h (λdF h=>be h λx3 fX h=>ie h (λc1 h=>be h λfq mU h=>ra (aS h) [aw dF,(1,R3.idx fX),fL c1,(4,Vm.app mU (Vm.tK [(aL.mk 1 t17 (bj.mk 0 0 ByteArray.empty))]))]) (λc1 h=>ra (aS h) [aw dF,(1,R3.idx fX),fL c1])) (λdF h=>ra (dX h) [aw dF])
def F8 (cA:Wf3):Nat->aH->Int->aH->Int->Int->aQ->aL->tC->Option (aL×aQ)
 |0=>λ_ _ _ _ _ _ _ _=>none
 |n+1=>Rq cA (F8 cA n) n
def apX {cA} (dX:ajL cA):∀n:Nat,ajK (F8 cA n)
 |0=>λ_ _ _ _ _ _ _ _ _ h=>nz h
 |n+1=>aFA dX (apX dX n) n
def Rp (bR:Wf4) (back:Int->aH->Int->Int->aQ->aL->tC->Option (aL×aQ)) (n:Nat) (jx:Int) (t31:aH) (t32 t33:Int) (b0:aQ) (b8:aL) (ka:tC):Option (aL×aQ):=
 if decide (t33<t32) then
 (idx t31 t33).bind λx3=>if x3==jx then
 (app ka [(aL.mk 2 t33 (bj.mk 0 0 ByteArray.empty))]).bind λfq=>back jx t31 t32 (bh (t33+1)) b0 b8 fq
 else
 back jx t31 t32 (bh (t33+1)) b0 b8 ka
 else
 bR jx b0 b8 ka
def ajJ:=K4 (afH [1,1,1,1]) azo
def ajI:=K7 (afH (cZ 87)) azp
def aFz {bR} (dA:ajJ bR) {back} (aS:ajI back) (n:Nat):ajI (Rp bR back n):=λjx t31 t32 t33 b0 b8 ka r h=>ie h (λdF h=>be h λx3 fX h=>ie h (λc1 h=>be h λfq mU h=>ra (aS h) [aw dF,(1,R3.idx fX),fL c1,(4,Vm.app mU (Vm.tK [(aL.mk 2 t33 (bj.mk 0 0 ByteArray.empty))]))]) (λc1 h=>ra (aS h) [aw dF,(1,R3.idx fX),fL c1])) (λdF h=>ra (dA h) [aw dF])
def F7 (bR:Wf4):Nat->Int->aH->Int->Int->aQ->aL->tC->Option (aL×aQ)
 |0=>λ_ _ _ _ _ _ _=>none
 |n+1=>Rp bR (F7 bR n) n
def apW {bR} (dA:ajJ bR):∀n:Nat,ajI (F7 bR n)
 |0=>λ_ _ _ _ _ _ _ _ h=>nz h
 |n+1=>aFz dA (apW dA n) n
def KV (n:Nat) (jx:Int) (b0:aQ) (b8:aL) (ka:tC):Option (aL×aQ):=
 (sE n b0 (bh ((ka.length:Int)+1))).bind λx5=>if decide (x5.1<(ka.length:Int)) then
 (fE ka.length x5.1).bind λja=>(ka[0+ja]?).bind λgA=>some (gA,x5.2)
 else
 (F93 n x5.2 jx).bind λja=>some ((aL.mk 3 0 ja.1),ja.2)
def aFy (n:Nat):ajJ (KV n):=λjx b0 b8 ka r h=>be h λx5 n9 h=>let zA:SE:=[(4,dh (pG n n9) [(0,0)])];ie h (λdF h=>be h λja lC h=>be h λgA kZ h=>bG h zA [bT dF,(2,dO lC),(0,Vm.row kZ)]) (λdF h=>be h λja lC h=>bG h zA [bT dF,(2,dh (U3 n lC) [(0,0)])])
def Ro (n:Nat) (params2:aH) (jx:Int) (b0:aQ) (b8:aL) (ka:tC):Option (aL×aQ):=
 F7 (KV n) n jx params2 (params2.length:Int) 0 b0 b8 ka
def aFx (n:Nat):ajL (Ro n):=λparams2 jx b0 b8 ka r h=>ra (apW (aFy n) n h) [(1,R3.cw params2)]
def arY (n:Nat) (c0:aQ) (de params2:aH) (jx:Int):Option (aL×aQ):=
 F8 (Ro n) n params2 jx de (de.length:Int) 0 c0 (aL.mk 0 0 (bj.mk 0 0 ByteArray.empty)) []
def aFw (n:Nat):K4 (afH []) ahk (arY n):=λc0 de params2 jx r h=>ra (apX (aFx n) n h) [(3,R3.cw de),(1,.born [9] [] 29 true 105 5)]
def amY:=arY
def axH (n:Nat):K4 (Cx E0 169 aoI ahZ) ahk (amY n):=λ_ _ _ _ _ h=>ca (X:=x169) (aFw n h)
def Pa (r:(ag×aQ)):AV:=.agg (eX r.1)
def L9 (r:(ag×aQ)):List (Nat×Bx):= (uR (gV r.2))
def x134:=fx E0 Tryz.f134 [0] [0]
def VF:=Ax x134 Pa L9
def C134:=Cx E0 134 Pa L9
def aAk (b0:aQ) (b8 iI:ag):LS:=⟨[(0,.loc 0 0),(8,.loc 8 0),(11,.loc 11 0)],[(0,tO (gV b0)),(8,Uk),(11,.flat 107 [.int .i64 3,.int .i64 iI.eC,.int .i64 iI.bW.aC,.int .i64 iI.bW.cJ,.int .i64 iI.bW.aV.aC,.int .i64 iI.bW.aV.dw,.str iI.bW.aV.cP,.int .i64 iI.bF.aC,.int .i64 iI.bF.cJ,.int .i64 iI.bF.aV.aC,.int .i64 iI.bF.aV.dw,.str iI.bF.aV.cP,.cR])]⟩
def aAj (de params2:aH) (Fq:Int) (b0:aQ) (b8:ag):LS:=⟨[(0,.loc 0 0),(1,iR de),(2,iR params2),(8,.loc 8 0),(10,aN Fq)],[(0,tO (gV b0)),(8,Uk)]⟩
def aAi (de params2:aH) (kG n13:Int) (b0:aQ) (b8 cx:ag) (xO:bJ):LS:=⟨[(0,.loc 0 0),(1,iR de),(2,iR params2),(3,aN kG),(8,.loc 8 0),(12,.loc 12 0),(13,aN n13)],(q30_ (gV b0) b8 cx xO.length xO)⟩
def aAh (b0:aQ) (b8 cx:ag) (xO:bJ):LS:=⟨[(8,.loc 8 0),(12,.loc 12 0)],(q30_ (gV b0) b8 cx xO.length xO)⟩
def aAg (de params2:aH) (kG op9:Int) (t27:Bool) (b0:aQ) (b8:ag):LS:=⟨[(0,.loc 0 0),(1,iR de),(2,iR params2),(3,aN kG),(8,.loc 8 0),(9,aN op9),(27,.bool t27)],[(0,tO (gV b0)),(8,Uk)]⟩
def LU (c0:aQ) (de params2:aH) (kG:Int):LS:=⟨[(0,.loc 0 0),(1,iR de),(2,iR params2),(3,aN kG)],(uR (gV c0))⟩
def Le (gn:aQ->aH->aH->Int->Option (ag×aQ)) (n:Nat) (b0:aQ) (b8 iI:ag):Option (ag×aQ):=
 (KK n b0 6).bind λx2=>if x2.1 then
 some ((ag.mk 3 iI.eC iI.bF iI.bW []),x2.2)
 else
 some ((ag.mk 3 iI.eC iI.bW iI.bF []),x2.2)
def zu:=K4 C134 LU
def arD {gn} (lR:zu gn) (n:Nat):K3 (VF (cZ 8051)) aAk (Le gn n):=λb0 b8 iI r h=>be h λx2 cW h=>ie h (λdF h=>rr h [(1,dh (cb (uZ n cW) dF) [(0,0)]),(10,.norm [] [(8,.flat [.same,.same,.same,.same,.same,.same,.same,.same,.same,.same,.same,.same,.sl 107 13])])]) (λdF h=>rr h [(1,dh (cb (uZ n cW) dF) [(0,0)]),(2,.norm [] [(8,.flat [.same,.same,.same,.same,.same,.same,.same,.same,.same,.same,.same,.same,.sl 107 13])])])
def Ld (gn:aQ->aH->aH->Int->Option (ag×aQ)) (n:Nat) (de params2:aH) (Fq:Int) (b0:aQ) (b8:ag):Option (ag×aQ):=
 (sE n b0 6).bind λx2=>(amY n x2.2 de params2 Fq).bind λx9=>(F93 n x9.2 Fq).bind λeT=>(KK n eT.2 3).bind λmW=>if mW.1 then
 (amY n mW.2 de params2 Fq).bind λBL=>Le gn n BL.2 (ag.mk 0 0 (aL.mk 0 0 (bj.mk 0 0 ByteArray.empty)) (aL.mk 0 0 (bj.mk 0 0 ByteArray.empty)) []) (ag.mk 3 (bh (1+x2.1)) x9.1 BL.1 [])
 else
 Le gn n mW.2 (ag.mk 0 0 (aL.mk 0 0 (bj.mk 0 0 ByteArray.empty)) (aL.mk 0 0 (bj.mk 0 0 ByteArray.empty)) []) (ag.mk 3 (bh (1+x2.1)) x9.1 (aL.mk 3 0 eT.1) [])
def arC {gn} (lR:zu gn) (n:Nat):K5 (VF (cZ 1907)) aAj (Ld gn n):=λde params2 Fq b0 b8 r h=>be h λx2 cW h=>be h λx9 kD h=>be h λeT jE h=>be h λmW mq h=>let zA:SE:=[(1,dh (pG n cW) [(0,0)]),(5,dh (axH n kD) [(0,0)]),(2,dh (U3 n jE) [(0,0)])];ie h (λdF h=>be h λBL N3 h=>cL (arD lR n h) zA [(5,dh (cb (uZ n mq) dF) [(0,0)]),(4,dh (axH n N3) [(0,0)])]) (λdF h=>cL (arD lR n h) zA [(5,dh (cb (uZ n mq) dF) [(0,0)])])
def Sb (gn:aQ->aH->aH->Int->Option (ag×aQ)) (cA:Wf5) (back:aH->aH->Int->Int->aQ->ag->ag->bJ->Option (ag×aQ)) (n:Nat) (de params2:aH) (kG n13:Int) (b0:aQ) (b8 cx:ag) (xO:bJ):Option (ag×aQ):=
 if !decide (n13<0) then
 (gn b0 de params2 (bh (kG - 1))).bind λeA=>(app xO [eA.1]).bind λeT=>back de params2 kG (bh (n13 - 1)) eA.2 (ag.mk b8.bu b8.eC b8.bW b8.bF []) (ag.mk cx.bu cx.eC cx.bW cx.bF eT) eT
 else
 cA b0 (ag.mk b8.bu b8.eC b8.bW b8.bF []) (ag.mk cx.bu cx.eC cx.bW cx.bF xO) xO
def Z1:=K4 (VF [1,1,1,1,1]) aAh
def Z0:=K8 (VF (cZ 175)) aAi
def aHb {gn} (lR:zu gn) {cA} (dX:Z1 cA) {back} (aS:Z0 back) (n:Nat):Z0 (Sb gn cA back n):=λde params2 kG n13 b0 b8 cx xO r h=>ie h (λdF h=>be h λeA mH h=>be h λeT jE h=>ra (aS h) [aU dF,(7,dh (lR mH) [(0,0)]),(0,.laid (bA (Bx.rows false 107 13) (cT.map [eA.1]).symm)),(0,cT.app jE (cT.tK [eA.1]))]) (λdF h=>ra (dX h) [aU dF])
def Gq (gn:aQ->aH->aH->Int->Option (ag×aQ)) (cA:Wf5):Nat->aH->aH->Int->Int->aQ->ag->ag->bJ->Option (ag×aQ)
 |0=>λ_ _ _ _ _ _ _ _=>none
 |n+1=>Sb gn cA (Gq gn cA n) n
def aqw {gn} (lR:zu gn) {cA} (dX:Z1 cA):∀n:Nat,Z0 (Gq gn cA n)
 |0=>λ_ _ _ _ _ _ _ _ _ h=>nz h
 |n+1=>aHb lR dX (aqw lR dX n) n
def Sa (gn:aQ->aH->aH->Int->Option (ag×aQ)) (n:Nat) (b0:aQ) (b8 cx:ag) (xO:bJ):Option (ag×aQ):=
 some ((ag.mk cx.bu cx.eC cx.bW cx.bF xO),b0)
def aHa {gn} (lR:zu gn) (n:Nat):Z1 (Sa gn n):=λb0 b8 cx xO r h=>rr h [(2,cT.gx 104 xO),(0,.norm [] [(8,.flat [.same,.same,.same,.same,.same,.same,.same,.same,.same,.same,.same,.same,.sl 0 0])])]
def xZ (gn:aQ->aH->aH->Int->Option (ag×aQ)) (n:Nat) (de params2:aH) (kG op9:Int) (t27:Bool) (b0:aQ) (b8:ag):Option (ag×aQ):=
 if t27 then
 if decide (0<(de.length:Int)) then
 (sE n b0 (de.length:Int)).bind λx9=>(idx de x9.1).bind λdn=>Ld gn n de params2 dn x9.2 (ag.mk 0 0 (aL.mk 0 0 (bj.mk 0 0 ByteArray.empty)) (aL.mk 0 0 (bj.mk 0 0 ByteArray.empty)) [])
 else
 Ld gn n de params2 4 b0 (ag.mk 0 0 (aL.mk 0 0 (bj.mk 0 0 ByteArray.empty)) (aL.mk 0 0 (bj.mk 0 0 ByteArray.empty)) [])
 else
 if op9==6 then
 (gn b0 de params2 (bh (kG - 1))).bind λx9=>some ((ag.mk 6 0 (aL.mk 0 0 (bj.mk 0 0 ByteArray.empty)) (aL.mk 0 0 (bj.mk 0 0 ByteArray.empty)) [x9.1]),x9.2)
 else
 (sE n b0 3).bind λdn=>Gq gn (Sa gn n) n de params2 kG dn.1 dn.2 (ag.mk 0 0 (aL.mk 0 0 (bj.mk 0 0 ByteArray.empty)) (aL.mk 0 0 (bj.mk 0 0 ByteArray.empty)) []) (ag.mk (bh ((bh (4+op9)) - 7)) 0 (aL.mk 0 0 (bj.mk 0 0 ByteArray.empty)) (aL.mk 0 0 (bj.mk 0 0 ByteArray.empty)) []) []
def Qu {gn} (lR:zu gn) (n:Nat):K7 (VF (cZ 243)) aAg (xZ gn n):=λde params2 kG op9 t27 b0 b8 r h=>ie h (λdF bO=>by subst dF;exact (ie bO (λc1 bO=>be bO λx9 kD bO=>be bO λdn gh bO=>ra (arC lR n bO) [(2,R3.cw de),aw c1,(3,R3.cw de),(0,dh (pG n kD) [(0,0)]),(0,R3.idx gh)]) (λc1 bO=>ra (arC lR n bO) [(2,R3.cw de),aw c1]))) (λdF bO=>by subst dF;exact (ie bO (λc1 bO=>be bO λx9 kD bO=>rr bO [aU c1,(6,dh (lR kD) [(0,0)]),(0,.laid (bA (Bx.rows false 107 13) (cT.map [x9.1]).symm)),(2,cT.gx 83 [x9.1])]) (λc1 bO=>be bO λdn gh bO=>ra (aqw lR (aHa lR n) n bO) [aU c1,(8,dh (pG n gh) [(0,0)]),(1,.born [] [(12,12)] 104 true 107 13)])))
def afu (gn:aQ->aH->aH->Int->Option (ag×aQ)) (n:Nat) (c0:aQ) (de params2:aH) (kG:Int):Option (ag×aQ):=
 (sE n c0 9).bind λx3=>if x3.1==0 then
 (KK n x3.2 2).bind λeA=>if eA.1 then
 (sE n eA.2 2).bind λfq=>some ((ag.mk (bh (1+fq.1)) 0 (aL.mk 0 0 (bj.mk 0 0 ByteArray.empty)) (aL.mk 0 0 (bj.mk 0 0 ByteArray.empty)) []),fq.2)
 else
 if decide (x3.1<6) then
 xZ gn n de params2 kG x3.1 true eA.2 (ag.mk 0 0 (aL.mk 0 0 (bj.mk 0 0 ByteArray.empty)) (aL.mk 0 0 (bj.mk 0 0 ByteArray.empty)) [])
 else
 xZ gn n de params2 kG x3.1 (decide (kG<1)) eA.2 (ag.mk 0 0 (aL.mk 0 0 (bj.mk 0 0 ByteArray.empty)) (aL.mk 0 0 (bj.mk 0 0 ByteArray.empty)) [])
 else
 if decide (x3.1<6) then
 xZ gn n de params2 kG x3.1 true x3.2 (ag.mk 0 0 (aL.mk 0 0 (bj.mk 0 0 ByteArray.empty)) (aL.mk 0 0 (bj.mk 0 0 ByteArray.empty)) [])
 else
 xZ gn n de params2 kG x3.1 (decide (kG<1)) x3.2 (ag.mk 0 0 (aL.mk 0 0 (bj.mk 0 0 ByteArray.empty)) (aL.mk 0 0 (bj.mk 0 0 ByteArray.empty)) [])
def aGZ {gn} (lR:zu gn) (n:Nat):K4 (VF []) LU (afu gn n):=λc0 de params2 kG r h=>be h λx3 fX h=>let zA:SE:=[(2,dh (pG n fX) [(0,0)])];ie h (λdF h=>be h λeA mH h=>ie h (λc1 h=>be h λfq mU h=>bG h zA [bq dF,(2,dh (cb (uZ n mH) c1) [(0,0)]),(3,dh (pG n mU) [(0,0)]),(3,.norm [] [(8,.flat [.same,.same,.same,.same,.same,.same,.same,.same,.same,.same,.same,.same,.sl 107 13])])]) (λc1 h=>let zB:SE:=dk zA [bq dF,(2,dh (cb (uZ n mH) c1) [(0,0)])];ie h (λc2 h=>cL (Qu lR n h) zB [bw c2]) (λc2 h=>cL (Qu lR n h) zB [bw c2]))) (λdF h=>ie h (λc1 h=>cL (Qu lR n h) zA [bq dF,bT c1]) (λc1 h=>cL (Qu lR n h) zA [bq dF,bT c1]))
def C5:Nat->aQ->aH->aH->Int->Option (ag×aQ)
 |0,_,_,_,_=>none
 |n+1,c0,de,params2,kG=>afu (C5 n) n c0 de params2 kG
def alY:∀n:Nat,zu (C5 n)
 |0=>λ_ _ _ _ _ h=>nz h
 |n+1=>λ_ _ _ _ _ h=>ca (X:=x134) (aGZ (alY n) n h)
def dq (r:Bool):AV:=.bool r
def x175:=fx E0 Tryz.f175 [] []
def A175:=Ax x175 dq cu
def ahh (k0:Int):LS:=⟨[(0,aN k0)],[]⟩
def aeJ (n:Nat) (k0:Int):Option Bool:=
 if k0==3 then
 some true
 else
 if k0==4 then
 some true
 else
 some (k0==5)
def aFg (n:Nat):K1 (A175 []) ahh (aeJ n):=λk0 r h=>ie h (λc0 h=>rr h [bq c0]) (λc0 h=>ie h (λc1 h=>rr h [bq c0,bq c1]) (λc1 h=>rr h [bq c0,bq c1]))
def adM:=aeJ
def axB (n:Nat):K1 (Cx E0 175 dq cu) ahh (adM n):=λ_ _ h=>ca (X:=x175) (aFg n h)
def x170:=fx E0 Tryz.f170 [] []
def avT:=Ax x170 dq cu
def ahj (t5:aH) (t6 t7:Int):LS:=⟨[(5,iR t5),(6,aN t6),(7,aN t7)],[]⟩
def azm:LS:=⟨[],[]⟩
def ahi (l0:aH):LS:=⟨[(0,iR l0)],[]⟩
def Rn (aR:Option Bool) (back:aH->Int->Int->Option Bool) (n:Nat) (t5:aH) (t6 t7:Int):Option Bool:=
 if decide (t7<t6) then
 (idx t5 t7).bind λx2=>(adM n x2).bind λx7=>if !x7 then
 some false
 else
 back t5 t6 (bh (t7+1))
 else
 aR
def ZZ:=K0 (avT [1,1]) azm
def ZY:=K3 (avT [0,1,0,1]) ahj
def aFv {aR} (bK:ZZ aR) {back} (aS:ZY back) (n:Nat):ZY (Rn aR back n):=λt5 t6 t7 r h=>ie h (λc0 h=>be h λx2 cW h=>be h λx7 kX h=>let zA:SE:=[aw c0,(0,R3.idx cW),na (axB n kX)];ie h (λc1 h=>bG h zA [aw c1]) (λc1 h=>cL (aS h) zA [aw c1])) (λc0 h=>ra (bK h) [aw c0])
def F6 (aR:Option Bool):Nat->aH->Int->Int->Option Bool
 |0=>λ_ _ _=>none
 |n+1=>Rn aR (F6 aR n) n
def apV {aR} (bK:ZZ aR):∀n:Nat,ZY (F6 aR n)
 |0=>λ_ _ _ _ h=>nz h
 |n+1=>aFv bK (apV bK n) n
def aeQ (n:Nat):Option Bool:=
 some true
def aFu (n:Nat):ZZ (aeQ n):=λr h=>rr h []
def aeP (n:Nat) (l0:aH):Option Bool:=
 F6 (aeQ n) n l0 (l0.length:Int) 0
def aFt (n:Nat):K1 (avT []) ahi (aeP n):=λl0 r h=>ra (apV (aFu n) n h) [(2,R3.cw l0)]
def adO:=aeP
def axG (n:Nat):K1 (Cx E0 170 dq cu) ahi (adO n):=λ_ _ h=>ca (X:=x170) (aFt n h)
def eB (r:Int):AV:=.int .i64 r
def x171:=fx E0 Tryz.f171 [] []
def avS:=Ax x171 eB cu
def C171:=Cx E0 171 eB cu
def azl (n1 i5:Int) (b2:ag):LS:=⟨[(1,aN n1),(2,.loc 2 0),(5,aN i5)],[(2,pE (eX b2))]⟩
def azk (n1:Int):LS:=⟨[(1,aN n1)],[]⟩
def LN (p0:ag) (n1:Int):LS:=⟨[(0,.agg (eX p0)),(1,aN n1)],[]⟩
def Rm (nI:ag->Int->Option Int) (aR:Wf6) (back:Int->Int->ag->Option Int) (n:Nat) (n1 i5:Int) (b2:ag):Option Int:=
 if decide (i5<(b2.fArgs.length:Int)) then
 if !decide (24<n1) then
 (idx b2.fArgs i5).bind λeT=>(nI eT n1).bind λjA=>back jA (bh (i5+1)) b2
 else
 aR n1
 else
 aR n1
def I4:=K2 C171 LN
def ZX:=K1 (avS [1,1,1]) azk
def ZW:=K3 (avS [0,1,0,1,1]) azl
def aFs {nI} (zY:I4 nI) {aR} (bK:ZX aR) {back} (aS:ZW back) (n:Nat):ZW (Rm nI aR back n):=λn1 i5 b2 r h=>let zA:SE:=[(3,cT.cw b2.fArgs)];ie h (λc0 h=>ie h (λc1 h=>be h λeT jE h=>be h λjA mr h=>cL (aS h) zA [aw c0,bq c1,(4,cT.idx jE),jK (zY mr)]) (λc1 h=>cL (bK h) zA [aw c0,bq c1])) (λc0 h=>cL (bK h) zA [aw c0])
def F5 (nI:ag->Int->Option Int) (aR:Wf6):Nat->Int->Int->ag->Option Int
 |0=>λ_ _ _=>none
 |n+1=>Rm nI aR (F5 nI aR n) n
def apU {nI} (zY:I4 nI) {aR} (bK:ZX aR):∀n:Nat,ZW (F5 nI aR n)
 |0=>λ_ _ _ _ h=>nz h
 |n+1=>aFs zY bK (apU zY bK n) n
def arX (nI:ag->Int->Option Int) (n:Nat) (n1:Int):Option Int:=
 some n1
def aFr {nI} (zY:I4 nI) (n:Nat):ZX (arX nI n):=λn1 r h=>rr h []
def aeO (nI:ag->Int->Option Int) (n:Nat) (p0:ag) (n1:Int):Option Int:=
 F5 nI (arX nI n) n (bh (n1+1)) 0 p0
def aFq {nI} (zY:I4 nI) (n:Nat):K2 (avS []) LN (aeO nI n):=λp0 n1 r h=>ra (apU zY (aFr zY n) n h) []
def Vu:Nat->ag->Int->Option Int
 |0,_,_=>none
 |n+1,p0,n1=>aeO (Vu n) n p0 n1
def axF:∀n:Nat,I4 (Vu n)
 |0=>λ_ _ _ h=>nz h
 |n+1=>λ_ _ _ h=>ca (X:=x171) (aFq (axF n) n h)
def x172:=fx E0 Tryz.f172 [] []
def avR:=Ax x172 dq cu
def C172:=Cx E0 172 dq cu
def azj (n1 t10 t11:Int) (b2:ag):LS:=⟨[(1,aN n1),(2,.loc 2 0),(10,aN t10),(11,aN t11)],[(2,pE (eX b2))]⟩
def azi:LS:=⟨[],[]⟩
def Rl (nH:ag->Int->Option Bool) (aR:Option Bool) (back:Int->Int->Int->ag->Option Bool) (n:Nat) (n1 t10 t11:Int) (b2:ag):Option Bool:=
 if decide (t11<t10) then
 (idx b2.fArgs t11).bind λx7=>(nH x7 (bh (n1 - 1))).bind λly=>if ly then
 some true
 else
 back n1 t10 (bh (t11+1)) b2
 else
 aR
def I3:=K2 C172 LN
def ZV:=K0 (avR [1,1,1]) azi
def ZU:=K4 (avR [0,1,0,1,1]) azj
def aFp {nH} (zX:I3 nH) {aR} (bK:ZV aR) {back} (aS:ZU back) (n:Nat):ZU (Rl nH aR back n):=λn1 t10 t11 b2 r h=>ie h (λc0 h=>be h λx7 kX h=>be h λly nU h=>let zA:SE:=[aw c0,(5,cT.idx kX),na (zX nU)];ie h (λc1 bO=>by subst c1;exact (rr bO zA)) (λc1 bO=>by subst c1;exact (ra (aS bO) zA))) (λc0 h=>ra (bK h) [aw c0])
def F4 (nH:ag->Int->Option Bool) (aR:Option Bool):Nat->Int->Int->Int->ag->Option Bool
 |0=>λ_ _ _ _=>none
 |n+1=>Rl nH aR (F4 nH aR n) n
def apT {nH} (zX:I3 nH) {aR} (bK:ZV aR):∀n:Nat,ZU (F4 nH aR n)
 |0=>λ_ _ _ _ _ h=>nz h
 |n+1=>aFp zX bK (apT zX bK n) n
def aeN (nH:ag->Int->Option Bool) (n:Nat):Option Bool:=
 some false
def aFo {nH} (zX:I3 nH) (n:Nat):ZV (aeN nH n):=λr h=>rr h []
def Rk (nH:ag->Int->Option Bool) (n:Nat) (p0:ag) (n1:Int):Option Bool:=
 if n1==0 then
 some true
 else
 F4 nH (aeN nH n) n n1 (p0.fArgs.length:Int) 0 p0
def aFn {nH} (zX:I3 nH) (n:Nat):K2 (avR []) LN (Rk nH n):=λp0 n1 r h=>ie h (λc0 h=>rr h [bw c0]) (λc0 h=>ra (apT zX (aFo zX n) n h) [bw c0,(2,cT.cw p0.fArgs)])
def KM:Nat->ag->Int->Option Bool
 |0,_,_=>none
 |n+1,p0,n1=>Rk (KM n) n p0 n1
def axE:∀n:Nat,I3 (KM n)
 |0=>λ_ _ _ h=>nz h
 |n+1=>λ_ _ _ h=>ca (X:=x172) (aFn (axE n) n h)
def x193:=fx E0 Tryz.f193 [] []
def A193:=Ax x193 dq cu
def Bw (p0:ag):LS:=⟨[(0,.agg (eX p0))],[]⟩
def aey (n:Nat) (p0:ag):Option Bool:=
 if p0.eC==0 then
 if ((p0.bW.aC==0) && ((p0.bW.cJ==0) && (((p0.bW.aV.aC==0) && ((p0.bW.aV.dw==0) && ((decide (p0.bW.aV.cP=ByteArray.empty)) && true))) && true))) then
 some ((p0.bF.aC==0) && ((p0.bF.cJ==0) && (((p0.bF.aV.aC==0) && ((p0.bF.aV.dw==0) && ((decide (p0.bF.aV.cP=ByteArray.empty)) && true))) && true)))
 else
 some false
 else
 some false
def aEG (n:Nat):K1 (A193 []) Bw (aey n):=λp0 r h=>ie h (λc0 h=>ie h (λc1 h=>rr h [bT c0,bT c1]) (λc1 h=>rr h [bT c0,bT c1])) (λc0 h=>rr h [bT c0])
def Vq:=aey
def alW (n:Nat):K1 (Cx E0 193 dq cu) Bw (Vq n):=λ_ _ h=>ca (X:=x193) (aEG n h)
def x158:=fx E0 Tryz.f158 [] []
def A158:=Ax x158 dq cu
def wJ (v0:bj):LS:=⟨[(0,.agg (DK v0))],[]⟩
def aeW (n:Nat) (v0:bj):Option Bool:=
 if v0.aC==1 then
 if v0.dw==0 then
 some (decide (v0.cP=ByteArray.empty))
 else
 some false
 else
 if v0.aC==2 then
 if v0.dw==0 then
 some (decide (v0.cP=ByteArray.empty))
 else
 some false
 else
 if v0.aC==3 then
 if v0.dw==0 then
 some (decide (v0.cP=ByteArray.empty))
 else
 if v0.dw==1 then
 some (decide (v0.cP=ByteArray.empty))
 else
 some false
 else
 if v0.aC==4 then
 some (decide (v0.cP=ByteArray.empty))
 else
 if v0.aC==5 then
 if v0.dw==0 then
 some (!decide (64<(v0.cP.size:Int)))
 else
 some false
 else
 some false
def aFG (n:Nat):K1 (A158 []) wJ (aeW n):=λv0 r h=>ie h (λc0 h=>ie h (λc1 h=>rr h [bT c0,bw c1]) (λc1 h=>rr h [bT c0,bw c1])) (λc0 h=>ie h (λc1 h=>ie h (λc2 h=>rr h [bT c0,aU c1,bw c2]) (λc2 h=>rr h [bT c0,aU c1,bw c2])) (λc1 h=>let zA:SE:=[bT c0,aU c1];ie h (λc2 h=>ie h (λc3 h=>bG h zA [aU c2,bw c3]) (λc3 h=>ie h (λc4 h=>bG h zA [aU c2,bw c3,bw c4]) (λc4 h=>bG h zA [aU c2,bw c3,bw c4]))) (λc2 h=>let zB:SE:=dk zA [aU c2];ie h (λc3 h=>bG h zB [aU c3]) (λc3 h=>ie h (λc4 h=>ie h (λc5 h=>bG h zB [aU c3,aU c4,bw c5]) (λc5 h=>bG h zB [aU c3,aU c4,bw c5])) (λc4 h=>bG h zB [aU c3,aU c4])))))
def ane:=aeW
def aIK (n:Nat):K1 (Cx E0 158 dq cu) wJ (ane n):=λ_ _ h=>ca (X:=x158) (aFG n h)
def x142:=fx E0 Tryz.f142 [] []
def A142:=Ax x142 dq cu
def afm (n:Nat) (v0:bj):Option Bool:=
 (ane n v0).bind λx4=>if x4 then
 some (!decide (v0.aC<3))
 else
 some false
def aGB (n:Nat):K1 (A142 []) wJ (afm n):=λv0 r h=>be h λx4 kY h=>let zA:SE:=[na (aIK n kY)];ie h (λc0 bO=>by subst c0;exact (rr bO zA)) (λc0 bO=>by subst c0;exact (rr bO zA))
def Ov:=afm
def XI (n:Nat):K1 (Cx E0 142 dq cu) wJ (Ov n):=λ_ _ h=>ca (X:=x142) (aGB n h)
def x194:=fx E0 Tryz.f194 [] []
def A194:=Ax x194 eB cu
def ayN (Mg:aH) (b5:aL):LS:=⟨[(5,.loc 5 0),(7,iR Mg)],[(5,.flat 105 (qn b5))]⟩
def aha (eu params1:aH) (o2:aL):LS:=⟨[(0,iR eu),(1,iR params1),(2,.agg (qn o2))],[]⟩
def KT (n:Nat) (Mg:aH) (b5:aL):Option Int:=
 if decide (b5.cJ<0) then
 some 0
 else
 if !decide (b5.cJ<(Mg.length:Int)) then
 some 0
 else
 if !((b5.aV.aC==0) && ((b5.aV.dw==0) && ((decide (b5.aV.cP=ByteArray.empty)) && true))) then
 some 0
 else
 (idx Mg b5.cJ).bind λmW=>some mW
def arw (n:Nat):K2 (A194 [1,1,1]) ayN (KT n):=λMg b5 r h=>ie h (λc0 h=>rr h [bq c0]) (λc0 h=>let zA:SE:=[bq c0,(4,R3.cw Mg)];ie h (λc1 h=>bG h zA [aw c1]) (λc1 h=>ie h (λc2 h=>bG h zA [aw c1,fL c2]) (λc2 h=>be h λmW mq h=>bG h zA [aw c1,fL c2,(4,R3.idx mq)])))
def aex (n:Nat) (eu params1:aH) (o2:aL):Option Int:=
 if o2.aC==3 then
 if o2.cJ !=0 then
 some 0
 else
 (Ov n o2.aV).bind λfq=>if !fq then
 some 0
 else
 some o2.aV.aC
 else
 if o2.aC==2 then
 KT n params1 o2
 else
 if o2.aC==1 then
 KT n eu o2
 else
 some 0
def aEF (n:Nat):K3 (A194 []) aha (aex n):=λeu params1 o2 r h=>ie h (λc0 h=>ie h (λc1 h=>rr h [jj c0,bw c1]) (λc1 h=>be h λfq mU h=>let zA:SE:=[jj c0,bw c1,na (XI n mU)];ie h (λc2 h=>bG h zA [aw c2]) (λc2 h=>bG h zA [aw c2]))) (λc0 h=>ie h (λc1 h=>ra (arw n h) [jj c0,aU c1]) (λc1 h=>ie h (λc2 h=>ra (arw n h) [jj c0,aU c1,aU c2]) (λc2 h=>rr h [jj c0,aU c1,aU c2])))
def adH:=aex
def axt (n:Nat):K3 (Cx E0 194 eB cu) aha (adH n):=λ_ _ _ _ h=>ca (X:=x194) (aEF n h)
def x173:=fx E0 Tryz.f173 [] []
def anR:=Ax x173 dq cu
def C173:=Cx E0 173 dq cu
def azh (eu params1:aH) (t70 t71:Int) (b5:ag):LS:=⟨[(0,iR eu),(1,iR params1),(5,.loc 5 0),(70,aN t70),(71,aN t71)],[(5,pE (eX b5))]⟩
def azg:LS:=⟨[],[]⟩
def azf (eu params1:aH) (b5:ag):LS:=⟨[(0,iR eu),(1,iR params1),(5,.loc 5 0)],[(5,pE (eX b5))]⟩
def By (eu params1:aH) (p2:ag):LS:=⟨[(0,iR eu),(1,iR params1),(2,.agg (eX p2))],[]⟩
def Rj (kb:aH->aH->ag->Option Bool) (aR:Option Bool) (back:aH->aH->Int->Int->ag->Option Bool) (n:Nat) (eu params1:aH) (t70 t71:Int) (b5:ag):Option Bool:=
 if decide (t71<t70) then
 (idx b5.fArgs t71).bind λx9=>(kb eu params1 x9).bind λly=>if !ly then
 some false
 else
 back eu params1 t70 (bh (t71+1)) b5
 else
 aR
def E4:=K3 C173 By
def ZT:=K0 (anR [1,1,1,1]) azg
def ZS:=K5 (anR (cZ 87)) azh
def aFm {kb} (su:E4 kb) {aR} (bK:ZT aR) {back} (aS:ZS back) (n:Nat):ZS (Rj kb aR back n):=λeu params1 t70 t71 b5 r h=>ie h (λc0 h=>be h λx9 kD h=>be h λly nU h=>let zA:SE:=[aw c0,(7,cT.idx kD),PU (su nU)];ie h (λc1 h=>bG h zA [aw c1]) (λc1 h=>cL (aS h) zA [aw c1])) (λc0 h=>ra (bK h) [aw c0])
def CP (kb:aH->aH->ag->Option Bool) (aR:Option Bool):Nat->aH->aH->Int->Int->ag->Option Bool
 |0=>λ_ _ _ _ _=>none
 |n+1=>Rj kb aR (CP kb aR n) n
def apR {kb} (su:E4 kb) {aR} (bK:ZT aR):∀n:Nat,ZS (CP kb aR n)
 |0=>λ_ _ _ _ _ _ h=>nz h
 |n+1=>aFm su bK (apR su bK n) n
def aeM (kb:aH->aH->ag->Option Bool) (n:Nat):Option Bool:=
 some true
def aFl {kb} (su:E4 kb) (n:Nat):ZT (aeM kb n):=λr h=>rr h []
def GD (kb:aH->aH->ag->Option Bool) (n:Nat) (eu params1:aH) (b5:ag):Option Bool:=
 (Vq n b5).bind λx2=>if !x2 then
 some false
 else
 CP kb (aeM kb n) n eu params1 (b5.fArgs.length:Int) 0 b5
def acO {kb} (su:E4 kb) (n:Nat):K3 (anR [1,1]) azf (GD kb n):=λeu params1 b5 r h=>be h λx2 cW h=>let zA:SE:=[PU (alW n cW)];ie h (λc0 h=>bG h zA [aw c0]) (λc0 h=>cL (apR su (aFl su n) n h) zA [aw c0,(2,cT.cw b5.fArgs)])
def aeL (kb:aH->aH->ag->Option Bool) (n:Nat) (eu params1:aH) (p2:ag):Option Bool:=
 if p2.bu==1 then
 (Vq n p2).bind λx8=>if x8 then
 some ((p2.fArgs.length:Int)==0)
 else
 some false
 else
 if p2.bu==2 then
 (Vq n p2).bind λeA=>if eA then
 some ((p2.fArgs.length:Int)==0)
 else
 some false
 else
 if p2.bu==3 then
 (adH n eu params1 p2.bW).bind λfq=>if (p2.fArgs.length:Int)==0 then
 if !decide (p2.eC<1) then
 if !decide (6<p2.eC) then
 if fq !=0 then
 (adH n eu params1 p2.bF).bind λx42=>some (fq==x42)
 else
 some false
 else
 some false
 else
 some false
 else
 some false
 else
 if p2.bu==4 then
 GD kb n eu params1 p2
 else
 if p2.bu==5 then
 GD kb n eu params1 p2
 else
 if p2.bu==6 then
 if (p2.fArgs.length:Int) !=1 then
 some false
 else
 GD kb n eu params1 p2
 else
 some false
def aFk {kb} (su:E4 kb) (n:Nat):K3 (anR []) By (aeL kb n):=λeu params1 p2 r h=>ie h (λc0 h=>be h λx8 ss h=>let zA:SE:=[bT c0,jK (alW n ss)];ie h (λc1 bO=>by subst c1;exact (bG bO zA [(3,cT.cw p2.fArgs)])) (λc1 bO=>by subst c1;exact (rr bO zA))) (λc0 h=>let zA:SE:=[bT c0];ie h (λc1 h=>be h λeA mH h=>let zB:SE:=dk zA [aU c1,jK (alW n mH)];ie h (λc2 bO=>by subst c2;exact (bG bO zB [(3,cT.cw p2.fArgs)])) (λc2 bO=>by subst c2;exact (rr bO zB))) (λc1 h=>let zB:SE:=dk zA [aU c1];ie h (λc2 h=>be h λfq mU h=>let zC:SE:=dk zB [aU c2,vP (axt n mU),(3,cT.cw p2.fArgs)];ie h (λc3 h=>let zD:SE:=dk zC [aw c3];ie h (λc4 h=>ie h (λc5 h=>ie h (λc6 h=>be h λx42 aua h=>bG h zD [bw c4,bT c5,bw c6,XA (axt n aua)]) (λc6 h=>bG h zD [bw c4,bT c5,bw c6])) (λc5 h=>bG h zD [bw c4,bT c5])) (λc4 h=>bG h zD [bw c4])) (λc3 h=>bG h zC [aw c3])) (λc2 h=>let zC:SE:=dk zB [aU c2];ie h (λc3 h=>cL (acO su n h) zC [aU c3]) (λc3 h=>let zD:SE:=dk zC [aU c3];ie h (λc4 h=>cL (acO su n h) zD [aU c4]) (λc4 h=>ie h (λc5 h=>let zE:SE:=dk zD [aU c4,aU c5,(3,cT.cw p2.fArgs)];ie h (λc6 h=>bG h zE [aw c6]) (λc6 h=>cL (acO su n h) zE [aw c6])) (λc5 h=>bG h zD [aU c4,aU c5]))))))
def KL:Nat->aH->aH->ag->Option Bool
 |0,_,_,_=>none
 |n+1,eu,params1,p2=>aeL (KL n) n eu params1 p2
def axD:∀n:Nat,E4 (KL n)
 |0=>λ_ _ _ _ h=>nz h
 |n+1=>λ_ _ _ _ h=>ca (X:=x173) (aFk (axD n) n h)
end Go.Proofs.YtbnkhmoelnfjoaaGreat
end
