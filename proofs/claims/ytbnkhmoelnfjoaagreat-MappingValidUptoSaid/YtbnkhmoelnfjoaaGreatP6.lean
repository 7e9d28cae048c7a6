/- Part. -/
import Derived.Test.YtbnkhmoelnfjoaaGreatP5
import Derived.KernelRfl
set_option linter.all false
noncomputable section
namespace Go.bQ
variable {x y y0:AV} {v:SV} {z:Bool} {e e' e2:TypeId} {Q Q' R:aT} {bV fp ts f1 f0 w rk ks:aI} {n1:Int} {m K k i n xf f j base u:Nat} {d:da} {r xs IP:aB} {b:Bx} {ft:Nat->AV->AV} {fb:Nat->Bx->Bx} {cs:cy} {c:Cp} {l2:ew} {bs cC:bH} {p:Oper} {s0 st:LS} {q:bH×AV×List Ob} {pp:List (Rc×PI)} {Fs:Nat->Hf} {lim:Nat->Nat} {ob:List Ob} {G P:Prop} {lo:Option Int} {fn:Func} {o1:Out}
section
variable {F F':Hf} {g g':Gb} {B:Bs} {J:cS} {s s' s1:LS} {tm:Tf} {h:Hs} {hp:Hf} {E:Env} {nt:Nat} {all l:bS}
variable {n2:Int} {a:Bx} {W:WK}
inductive P1 where
 |same|sl (e s:Nat)|sn (e s:Nat)|sx (e s:Nat)|un|nl
inductive PM where
 |one (m:P1)|agg (ms:List P1)
def P1.app (m:P1) (x:AV):AV:=
 match m with
 | .same=>x
 | .un=>.undef
 | .sl e s=>(match x with
  | .cR=>.slice e s []
  | .jW e' s' rows=>.slice e' s' rows
  |x=>x)
 | .sn e s=>(match x with
  | .cR=>.jW e s []
  |x=>x)
 | .sx e s=>(match x with
  | .cR=>.iW e s []
  | .slice e' s' rows=>.iW e' s' rows
  | .jW e' s' rows=>.iW e' s' rows
  |x=>x)
 | .nl=>(match x with
  | .jW _ _ []=>.cR
  |x=>x)
def apps:List P1->aB->aB
 |m::ms,x::xs=>m.app x::apps ms xs
 |_,xs=>xs
def PM.app (m:PM) (x:AV):AV:=
 match m with
 | .one m=>m.app x
 | .agg ms=>(match x with| .agg xs=>.agg (apps ms xs)|x=>x)
def P1.va (m:P1) (h:VA F g v x):VA F g v (m.app x):=by
 unfold P1.app;split
 ·exact h
 ·exact .undef v
 ·split
  ·cases h;exact .p8 _ _
  ·cases h with
   |Aq=>exact .p8 _ _
   |jW hF hc hn hz hu hl h=>exact .slice hF hc hn hu hl h
  ·exact h
 ·split
  ·cases h;exact .Aq _ _
  ·exact h
 ·split
  ·cases h;exact .xg _ _
  ·cases h with
   |p8=>exact .xg _ _
   |slice hF hc hn hu hl h=>exact .iW hF hc hn hu hl h
  ·cases h with
   |Aq=>exact .xg _ _
   |jW hF hc hn hz hu hl h=>exact .iW hF hc hn hu hl h
  ·exact h
 ·split
  ·cases h with
   |Aq=>exact .cR
   |jW hF hc hn hz=>exact absurd rfl hz
  ·exact h
def Mx:∀{ms:List P1} {xs:aB} {vs:aM},bZ F g vs xs->bZ F g vs (apps ms xs)
 | [],xs,_,h=>by cases xs<;>exact h
 |m::ms,[],_,h=>h
 |m::ms,x::xs,_,.cons h t=>.cons (m.va h) (Mx t)
def acR:∀(ms:List P1) (xs:aB),(apps ms xs).length=xs.length
 | [],xs=>by cases xs<;>rfl
 |m::ms,[]=>rfl
 |m::ms,x::xs=>by show (apps ms xs).length+1=_;rw[acR ms xs];rfl
def bZ.cutAt:∀{r R:aB} {vs:aM},bZ F g vs (r++R)->∃v1 v2,vs=v1++v2/\bZ F g v1 r/\bZ F g v2 R
 | [],R,vs,h=>⟨[],vs,rfl,.nil,h⟩
 |x::r,R,_,.cons h t=>by
  let ⟨v1,v2,e,a,b⟩:=bZ.cutAt (r:=r) t;exact ⟨_::v1,v2,by rw[e];rfl,.cons h a,b⟩
def Wc {ms:List P1}:∀{Q:aT} {vs:aM},bZ F g vs Q.flatten->bZ F g vs (Q.map (apps ms)).flatten
 | [],_,h=>h
 |r::Q,vs,h=>by
  let ⟨v1,v2,e,a,b⟩:=bZ.cutAt (r:=r) (R:=Q.flatten) h;subst e;exact (Mx a).append (Wc b)
def agK {sz:Nat} (ms:List P1):WB (.rows z e sz Q) (.rows z e sz (Q.map (apps ms))):=λF g h K fp q=>by
 cases q with
 |dD hb=>exact .dD hb
 |rows hb hh hz hu hc q=>
  refine .rows hb hh (λe=> ?_) (λr hr=> ?_) (by rw[iz];exact hc) (by rw[iz];exact Wc q)
  ·intro hq;exact hz e (List.map_eq_nil_iff.1 hq)
  ·let ⟨r0,h0,e0⟩:=dS.1 hr;rw[<-e0,acR];exact hu r0 h0
def bX.box {op:Op} {x:AV} {K:Nat} {b b':Bx} {l:Bool} (hy:bX E B op s (s.set K b) x (some (K,l))) (hw:WB b b'):bX E B op s (s.set K b') x (some (K,l)):=.mk λ{F g J tm hh new} r h1 h2=>by
 have less:vd (s.set K b) (s.set K b'):=⟨λt y hy=>.inr ⟨y,hy,WV.refl y⟩,λk c hc=>by
  rw[show (s.set K b').bs=(K,b')::s.bs from rfl,cr] at hc;rw[show (s.set K b).bs=(K,b)::s.bs from rfl,cr];split at hc
  ·rename_i e;cases hc;rw[ax e];exact ⟨b,rfl,hw⟩
  ·rename_i e;rw[aA e];exact ⟨c,hc,WB.refl c⟩⟩
 let ⟨v,us,a1,a2,a3,a4,a5,a6⟩:=hy.go r h1 h2;refine ⟨v,us,a1,a2,λh' hu=>(a3 h' hu).less less,a4,λk c hc=> ?_,λk hk=>yA (hk.elim .inl λ⟨l,hl⟩=>.inr (by cases hl;rfl))⟩
 let ⟨c0,FE,_⟩:=less.2 k c hc;exact a5 k c0 FE
def aBd {l:Nat} {x:aB} {op:Op} {r:jO} (hB:od bV B) (h1:n1=(l:Int)) (h2:n2=(m:Int)) (hl:l<=m) (hm:m<=1000000) (ms:List P1) (hQ':(List.replicate l x).map (apps ms)=Q') (h:atB E bV s n1 n2 l x Q' op d=some r):l5 E B op s r:=by
 subst hQ';unfold atB at h;split at h
 ·let ⟨p,h3,h⟩:=aj h;split at h
  ·rename_i ha hc;let ⟨h4,h⟩:=aJ h;cases h;intro ho;let ⟨o1,o2,o3,_⟩:=ho;have e1:=vj o1;have e2:=vj o2;have e3:km p.2.zero=x:=by have o3:AV.agg (km p.2.zero)= .agg x:=o3;simpa using o3
   subst e1;subst e2;subst e3;rw[aY,aY] at h4;let ⟨f1,f2⟩:=wZ hB h4.2.2;exact (aaS h3 h4.1 ha hc h1 h2 hl hm f1 f2 h4.2.1).box (agK ms)
  ·cases h
 ·cases h
def PM.va (m:PM) (h:VA F g v x):VA F g v (m.app x):=by
 unfold PM.app;split
 ·exact P1.va _ h
 ·split
  ·cases h with|agg h=>exact .agg (Mx h)
  ·exact h
def PM.wv (m:PM) (x:AV):WV x (m.app x):=.inr λ_ _ _ h=>m.va h
def My:List PM->aB->aB
 |m::ms,x::xs=>m.app x::My ms xs
 |_,xs=>xs
def Oj:∀{ms:List PM} {xs:aB} {vs:aM},bZ F g vs xs->bZ F g vs (My ms xs)
 | [],xs,_,h=>by cases xs<;>exact h
 |m::ms,[],_,h=>h
 |m::ms,x::xs,_,.cons h t=>.cons (m.va h) (Oj t)
inductive PB where
 |same|flat (ms:List P1)|any|Ck (m:P1)|rws (ms:List P1)
def PB.app (m:PB) (b:Bx):Bx:=
 match m with
 | .same=>b
 | .flat ms=>(match b with| .flat e cs=>.flat e (apps ms cs)|b=>b)
 | .any=>(match b with| .rows _ e s Q=>.rows false e s Q|b=>b)
 | .Ck m=>(match b with| .hole e s Q i x=>.hole e s Q i (m.app x)| .tree e s l Q o=>.tree e s l Q (l4 m.app o)|b=>b)
 | .rws ms=>(match b with| .rows z e s Q=>.rows z e s (Q.map (apps ms))|b=>b)
def PB.wb (m:PB) (b:Bx):WB b (m.app b):=λF g h K fp q=>by
 unfold PB.app;split
 ·exact q
 ·split
  ·cases q with|flat hh q=>exact .flat hh (Mx q)
  ·exact q
 ·split
  ·cases q with
   |dD hb=>exact .dD hb
   |rows hb hh hz hu hc q=>exact .rows hb hh (λe=>by cases e) hu hc q
  ·exact q
 ·split
  ·cases q with|hole hb hh hu hc q hi hv hx=>exact .hole hb hh hu hc q hi hv (P1.va _ hx)
  ·cases q with
   |iA hb=>exact .iA hb
   |tree hb hh hu hc q nd ho=>exact .tree hb hh hu hc q nd (ho.map λp hp v hv=>P1.va _ hv)
  ·exact q
 ·split
  ·exact agK _ _ _ _ _ _ q
  ·exact q
def xK (b:Bx):AV:=
 match b with
 | .flat e cs=>.fn e [] cs
 | .rows true e s Q=>.jW e s Q
 | .rows false e s Q=>.slice e s Q
 | .map es=>.cm [.agg (es.map (·.1)),.agg (es.map (·.2))]
 | .iter b pos=>.xu pos (.str b)
 | .hole e s Q i x=>.cm [.jW e s Q,.loc i 0,x]
 | .tree e s l Q o=>.cm (.loc e s:: .agg (uc l):: .slice 0 0 Q::Mq o)
def Qp (h:xK a=xK b):a=b:=by
 unfold xK at h;split at h<;>split at h<;>first|(cases h;done)|skip
 ·injection h with h1 h2 h3;subst h1;subst h3;rfl
 ·injection h with h1 h2 h3;subst h1;subst h2;subst h3;rfl
 ·injection h with h1 h2 h3;subst h1;subst h2;subst h3;rfl
 ·injection h with h1
  injection h1 with h1 h2
  injection h2 with h2 h3
  injection h1 with h1
  injection h2 with h2
  rw[NQ h1 h2]
 ·injection h with h1 h2;injection h2 with h2;subst h1;subst h2;rfl
 ·injection h with h1
  injection h1 with h1 h2
  injection h1 with h3 h4 h5
  injection h2 with h6 h7
  injection h6 with h6 _
  injection h7 with h7 _
  subst h3;subst h4;subst h5;subst h6;subst h7;rfl
 ·injection h with h
  injection h with h1 h
  injection h with h2 h
  injection h with h3 h
  injection h1 with h1 h4
  injection h2 with h2
  injection h3 with _ _ h3
  have h2:=DJ h2;have h:=acq h;subst h1;subst h2;subst h3;subst h4;subst h;rfl
inductive It (E:Env):Type
 |eqv {x y:AV} (h:x=y)
 |idx {rows:aT} {n:Int} {R:aB} (h:ub rows n=some R)
 |idb {n k:Nat} {m:Int} (h:m=(k:Int)) (hk:k<n)
 |row {Q:aT} {j:Nat} {R:aB} (h:Q[j]? =some R)
 |Ck {Q:aT} {j:Nat} {R:aB} {f:Nat} {Q':aT} (h:Q[j]? =some R) (hQ:Q.set j (di R f [.undef])=Q')
 |hrw {Q:aT} {j:Nat} {R r':aB} {Q':aT} (h:Q[j]? =some R) (hQ:Q.set j r'=Q')
 |clo {Q:aT} {j:Nat} {R:aB} {f:Nat} {x:AV} {Q':aT} (K:Nat) (h:Q[j]? =some R) (hQ:Q.set j (di R f [x])=Q')
 |ey (K:Nat) (l:ew)
 |tun (K:Nat)
 |BP {Q:aT} {j f:Nat} {R:aB} {x:Bool} {e' s n:Nat} {rows:aT} {Q':aT} (K K2:Nat) (h:Q[j]? =some R) (hx:R[f]? =some (tL x e' s rows)) (hn:rows.length=n) (hQ:Q.set j (di R f [.undef])=Q')
 |tcl {Q:aT} {j f:Nat} {R:aB} {x:Bool} {e' s n:Nat} {rows:aT} {Q':aT} (K K2:Nat) (h:Q[j]? =some R) (hn:rows.length=n) (hQ:Q.set j (di R f [tL x e' s rows])=Q')
 |tcd {Q:aT} {j f:Nat} {R:aB} {x:AV} {Q':aT} (K:Nat) (h:Q[j]? =some R) (hQ:Q.set j (di R f [x])=Q')
 |IX {Q:aT} {n:Nat} (hn:n=Q.length) (mv:Q.length<=1000000)
 |trw {Q:aT} {j:Nat} {R:aB} (fs:aI) (h:Q[j]? =some R)
 |tfr {Q:aT} {n:Nat} (x:Bool) (K:Nat) (hn:Q.length=n)
 |nz {n:Int} (h:n≠0)
 |cat {a b:ByteArray} (h:a.size+b.size<=1000000)
 |mk {n1 n2:Int} {l m:Nat} {x:aB} {Q':aT} (h1:n1=(l:Int)) (h2:n2=(m:Int)) (hl:l<=m) (hm:m<=1000000) (ms:List P1) (hQ:(List.replicate l x).map (apps ms)=Q')
 |AB {Q:aT} {j:Nat} {R:aB} {f:Nat} {xs:aB} {Q':aT} (h:Q[j]? =some R) (hQ:Q.set j (di R f xs)=Q')
 |nxt {b:ByteArray} {pos:Nat} (h:pos<b.size)
 |fin {b:ByteArray} {pos:Nat} (h:¬pos<b.size)
 |lkp {es:List (AV×AV)} {k x z:AV} (ok:Bool) (h:∃f,pt k es=some f/\Ka ok (some z) f=some x)
 |upd {es Ac:List (AV×AV)} {k x:AV} (h:∃f,pt k es=some f/\Sz es k x f=Ac)
 |nrm (m:PM)
 |laid {x y:Bx} (h:x=y)
 |cut {rows R:aT} {lo hi:Int} {l u:Nat} (h1:lo=(l:Int)) (h2:hi=(u:Int)) (DA:l<=u) (tW:u<=rows.length) (hR:(rows.drop l).take (u-l)=R)
 |Vb {Q:aT} {lo0 n:Nat} {lo hi:Int} {l u:Nat} (h1:lo=(l:Int)) (h2:hi=(u:Int)) (DA:l<=u) (tW:u<=n) (hn:lo0+n<=Q.length)
 |app {Q R Q':aT} {n n':Nat} (hn:n=Q.length) (mv:Q.length<=1000000) (hR:R.length<=1000000) (hQ:Q++R=Q') (hl:Q'.length=n') (sr:Sr R)
 |avr {Q P R Q':aT} {n n':Nat} (hP:Q.take n=P) (hn:n<=Q.length) (mv:n<=1000000) (hR:R.length<=1000000) (hQ:P++R=Q') (hl:Q'.length=n') (sr:Sr R)
 |chr {b:ByteArray} {n:Int} {c:UInt8} (h:ub b.data.toList n=some c)
 |call {f:Nat} {bs cC:bH} {xs:aB} {y:AV} {w:aI} (h:xV E f bs xs y cC w) (ms:List PM) (ps rs:cy)
 |DP {f:Nat} {bs:bH} {xs:aB} {y:AV} (h:MZ E f bs xs y) (ms:List PM) (ps:cy)
 |gx {Q:aT} {n:Nat} (K:Nat) (h:Q.length=n)
 |fO (K K':Nat)
 |shr {Q P:aT} {u:Nat} (K:Nat) (h:Q.take u=P)
 |born (ts:aI) (cs:cy) (K:Nat) (z:Bool) (e sz:Nat)
 |norm (ts:List (Nat×PM)) (bs:List (Nat×PB))
 |seq {x y:AV} (t:Nat) (h:x=y)
 |beq {x y:Bx} (K:Nat) (h:x=y)
def bX.weak {op:Op} (m:PM) (h:bX E B op s s1 x W):bX E B op s s1 (m.app x) W:=.mk λ{F g J tm hh new} r h1 h2=>by
 let ⟨v,us,a,b,c⟩:=h.go r h1 h2;exact ⟨v,us,a,m.va b,c⟩
def ajF (E:Env) (bV:aI) (s:LS) (op:Op) (d:da) (it:It E):Option jO:=
 match it with
 | @It.eqv _ x y _=>au (zx E bV s op d) λr=>some (r.1,y,r.2.2.1,(r.2.1,x)::r.2.2.2)
 | @It.idx _ rows n R _=>alj E s rows n R op
 | @It.idb _ n k m _ _=>alk E s n k m op
 | @It.row _ Q j R _=>alg E s Q j R op
 | @It.Ck _ Q j _ f Q' _ _=>aln E s Q j f Q' op
 | @It.hrw _ Q j _ r' Q' _ _=>alm E s Q j r' Q' op
 | @It.nz _ n _=>atz s n op
 | @It.cat _ a b _=>alr s a b op
 | @It.mk _ n1 n2 l _ x Q' _ _ _ _ _ _=>atB E bV s n1 n2 l x Q' op d
 | @It.AB _ Q j _ f xs Q' _ _=>alf E s Q j f xs Q' op
 | @It.nxt _ b pos _=>alh s b pos op
 | @It.fin _ b pos _=>alo s b pos op
 | @It.lkp _ es k x z ok _=>ali E s es k x z ok op
 | @It.upd _ es Ac k x _=>alc E s es Ac k x op
 | @It.laid _ x y _=>au d λK=>ay (sy bV s K) (au (Jl E s K op) λp=>some (s.set K y,p.2,some (K,true),[(xK p.1,xK x)])) none
 | .nrm m=>au (zx E bV s op d) λr=>some (r.1,m.app r.2.1,r.2.2.1,r.2.2.2)
 | @It.cut _ rows R lo hi _ _ _ _ _ _ _=>alp E s rows lo hi R op
 | @It.Vb _ Q lo0 n lo hi l u _ _ _ _ _=>abm E s Q lo0 n lo hi l u op
 | @It.app _ Q R Q' n n' _ _ _ _ _ sr=>Xy E bV s true Q Q R Q' n n' sr op d
 | @It.avr _ Q P R Q' n n' _ _ _ _ _ _ sr=>Xy E bV s false Q P R Q' n n' sr op d
 | @It.chr _ b n c _=>alq E s b n c op
 | @It.IX _ Q n _ _=>ale E bV s Q n op
 | @It.trw _ Q j R fs _=>ald E s Q j R fs op
 |_=>none
def YP {op:Op} {it:It E} {r:jO} (hB:od bV B) (h:ajF E bV s op d it=some r):l5 E B op s r:=by
 cases it with
 | @eqv x y h0=>
  let ⟨r',h1,h2⟩:=aj (show au (zx E bV s op d) (λr=>some (r.1,y,r.2.2.1,(r.2.1,x)::r.2.2.2))=some r from h)
  cases h2;intro ho;have key:=Dh hB h1 ho.2;have e1:r'.2.1=x:=ho.1;show bX E B op s r'.1 y r'.2.2.1;rw[<-h0,<-e1];exact key
 |idx h0=>exact atD h0 h
 |idb h0 hk=>exact atE h0 hk h
 |row h0=>exact aty h0 h
 |Ck h0 hQ=>exact atH h0 hQ h
 |hrw h0 hQ=>exact atG h0 hQ h
 |nz h0=>exact aBc h0 h
 |cat h0=>exact atL h0 h
 |mk h1 h2 hl hm ms hQ=>exact aBd hB h1 h2 hl hm ms hQ h
 |AB h0 hQ=>exact atx h0 hQ h
 |nxt h0=>exact atA h0 h
 |fin h0=>exact atI h0 h
 |lkp ok h0=>exact atC h0 h
 |upd h0=>exact atu h0 h
 | @laid x y h0=>
  let ⟨K,hd,h⟩:=aj (show au d (λK=>ay (sy bV s K) (au (Jl E s K op) λp=>some (s.set K y,p.2,some (K,true),[(xK p.1,xK x)])) none)=some r from h)
  let ⟨h1,h⟩:=aJ h;let ⟨p,h2,h⟩:=aj h;cases h;intro ho;let ⟨a,b⟩:=wZ hB h1;have e1:p.1=x:=Qp ho.1;have key:=VS a b h2;rw[e1,h0] at key;exact key
 |nrm m=>
  let ⟨r',h1,h2⟩:=aj (show au (zx E bV s op d) (λr=>some (r.1,m.app r.2.1,r.2.2.1,r.2.2.2))=some r from h)
  cases h2;exact λho=>(Dh hB h1 ho).weak m
 |cut h1 h2 DA tW hR=>exact atJ h1 h2 DA tW hR h
 |Vb h1 h2 DA tW hn=>exact aqE h1 h2 DA tW hn h
 |app hn mv hR hQ hl sr=>subst hn;exact abn hB (λ_=>rfl) vf (cF _) mv hR hQ hl h
 |avr hP hn mv hR hQ hl sr=>exact abn hB (λe=>by cases e) hP hn mv hR hQ hl h
 |chr h0=>exact atK h0 h
 |IX hn mv=>exact atw hB hn mv h
 |trw fs h0=>exact atv h0 h
 |call|DP|gx|fO|shr|clo|ey|tun|BP|tcl|tcd|tfr|born|norm|seq|beq=>cases h
end
section
variable {F F':Hf} {g g':Gb} {B:Bs} {J:cS} {s s' s1:LS} {tm:Tf} {h:Hs} {hp:Hf} {E:Env} {nt:Nat} {all l:bS}
variable {K' n':Nat} {vs:aM} {b1:Bx} {f2:aI} {o:dd} {rows:aT} {Y:Type}
def Mf {Y O:Type} (f:Nat->Y->O) (t:Nat):∀l:List (Nat×Y),lk t (l.map λp=>(p.1,f p.1 p.2))=(lk t l).map (f t)
 | []=>rfl
 |(k,x)::l=>by
  rw[fM,cr,cr,Mf f t l];split
  ·rename_i e;subst e;rfl
  ·rfl
def Rel.awj (r:Rel B F g J s tm h) (h0:∀t,ft t .undef= .undef) (h1:∀t v x,VA F g v x->VA F g v (ft t x)) (h2:∀k b fp,fC F g h.hp.get k b fp->fC F g h.hp.get k (fb k b) fp):
  Rel B F g J ⟨s.ts.map λp=>(p.1,ft p.1 p.2),s.bs.map λp=>(p.1,fb p.1 p.2)⟩ tm h:=by
 have back:∀{k b},lk k (s.bs.map λp=>(p.1,fb p.1 p.2))=some b->∃b0,lk k s.bs=some b0/\fb k b0=b:=λ{k b} hb=>by
  rw[Mf] at hb;let ⟨b0,c1,c2⟩:=kP.1 hb;exact ⟨b0,c1,c2⟩
 refine {r with tm:=λt y hy hn=> ?_,bx:=λk b hb=> ?_,dj:=λk k' b b' hb cn=> ?_,nf:=λk b hb=> ?_,l6:=λk b hb=> ?_}
 ·have hy:lk t (s.ts.map λp=>(p.1,ft p.1 p.2))=some y:=hy
  rw[Mf] at hy;let ⟨x,hx,e⟩:=kP.1 hy;by_cases hu:x= .undef
  ·subst hu;rw[h0] at e;exact absurd e.symm hn
  ·let ⟨v,v1,v2⟩:=r.tm t x hx hu;subst e;exact ⟨v,v1,h1 t v x v2⟩
 ·let ⟨b0,c1,c2⟩:=back hb;subst c2;exact h2 k b0 _ (r.bx k b0 c1)
 ·let ⟨b0,c1,_⟩:=back hb;let ⟨b1,d1,_⟩:=back cn;exact r.dj k k' b0 b1 c1 d1
 ·let ⟨b0,c1,_⟩:=back hb;exact r.nf k b0 c1
 ·let ⟨b0,c1,_⟩:=back hb;exact r.l6 k b0 c1
def uQ (K K' k:Nat):Nat:=ay (Nat.beq k K) K' k
def Ub (K K' k:Nat):uQ K K' k=if k=K then K' else k:=by
 unfold uQ;rw[bk];by_cases h:k=K
 ·rw[ax h,ax ((beq_iff _ _).2 h)]
 ·rw[aA h,aA (λe=>h ((beq_iff _ _).1 e))]
def LS.fO (s:LS) (K K':Nat):LS:=⟨s.ts.map λp=>(p.1,nw (uQ K K') p.2),s.bs.map λp=>(uQ K K' p.1,p.2.fO (uQ K K'))⟩
def Fl {K K' k:Nat} {b':Bx}:∀{l:bH},lk K' l=none->lk k (l.map λp=>(uQ K K' p.1,p.2.fO (uQ K K')))=some b'->∃k0 b0,lk k0 l=some b0/\uQ K K' k0=k/\k0≠K'/\b'=b0.fO (uQ K K')
 | [],_,h=>by cases h
 |(j,x)::l,hn,h=>by
  rw[cr] at hn;rw[fM,cr] at h;split at hn
  ·cases hn
  ·rename_i hj;split at h
   ·rename_i e;cases h;exact ⟨j,x,by rw[cr,ax rfl],e.symm,λc=>hj c.symm,rfl⟩
   ·rename_i e;let ⟨k0,b0,a1,a2,a3,a4⟩:=Fl hn h;refine ⟨k0,b0,?_,a2,a3,a4⟩;rw[cr,aA (λc=>e (by rw[<-a2,c])),a1]
def ic.fO (hk:s.free K') (hp:B.pk K=false) (gy:B.pk K'=false) (hn:lk K' s.bs=none):ic B s (s.fO K K'):=.mk λ{F g J tm h} r=>by
 let g2:Gb:=⟨λk=>if k=K' then g.Z K else g.Z k,λk=>if k=K' then g.κ K else g.κ k,λk=>if k=K' then g.O K else g.O k⟩
 let φ2:cS:=λk=>if k=K' then J K else J k
 have one:∀k,k≠K'->g2.Z (uQ K K' k)=g.Z k/\g2.κ (uQ K K' k)=g.κ k/\g2.O (uQ K K' k)=g.O k:=λk gO=>by
  rw[Ub];by_cases e:k=K
  ·subst e;rw[ax rfl];exact ⟨ax rfl,ax rfl,ax rfl⟩
  ·rw[aA e];exact ⟨aA gO,aA gO,aA gO⟩
 have gr:∀ks:aI,K'∉ks->qF g g2 (uQ K K') ks:=λks oC k hm=>one k (λe=>oC (e ▸ hm))
 have ph:∀k,k≠K'->φ2 (uQ K K' k)=J k:=λk gO=>by
  rw[Ub];by_cases e:k=K
  ·subst e;rw[ax rfl];exact ax rfl
  ·rw[aA e];exact aA gO
 refine ⟨F,g2,φ2,{r with tm:=λt y hy bY=> ?_,bx:=λk b hb=> ?_,dj:=λk k' b b' hb cn bY=> ?_,nf:=λk b hb=> ?_,l6:=λk b hb i hi=> ?_,Ip:=λk gO=> ?_}⟩
 ·rw[show (s.fO K K').ts=s.ts.map λp=>(p.1,nw (uQ K K') p.2) from rfl,mm] at hy
  let ⟨x,hx,e⟩:=kP.1 hy;by_cases hu:x= .undef
  ·subst hu;exact absurd e.symm bY
  ·let ⟨v,v1,v2⟩:=r.tm t x hx hu;subst e;exact ⟨v,v1,v2.fO (gr _ (hk.1 t x hx))⟩
 ·let ⟨k0,b0,a1,a2,a3,a4⟩:=Fl hn hb;subst a4;have:=(r.bx k0 b0 a1).fO (g':=g2) (f:=uQ K K') (gr [k0] (by simpa using λe=>a3 e.symm)) (gr _ (hk.2 k0 b0 a3 a1))
  rw[<-ph k0 a3,a2] at this;exact this
 ·let ⟨k0,b0,a1,a2,a3,a4⟩:=Fl hn hb;let ⟨k1,b1,c1,c2,c3,c4⟩:=Fl hn cn;rw[<-a2,<-c2,ph k0 a3,ph k1 c3];exact r.dj k0 k1 b0 b1 a1 c1 (λe=>bY (by rw[<-a2,<-c2,e]))
 ·let ⟨k0,b0,a1,a2,a3,a4⟩:=Fl hn hb;rw[<-a2,ph k0 a3];exact r.nf k0 b0 a1
 ·let ⟨k0,b0,a1,a2,a3,a4⟩:=Fl hn hb;rw[<-a2,ph k0 a3] at hi;rcases r.l6 k0 b0 a1 i hi with c|c
  ·left;have hkK:k0≠K:=λe=>by have:=c.1;rw[e,hp] at this;cases this
   rw[<-a2,Ub,aA hkK];exact c
  ·exact .inr c
 ·have bY:k≠K':=λe=>by rw[e,Bs.Pe gy] at gO;cases gO
  intro j hj;have ej:j=k:=by simpa using hj
  subst ej;let ⟨a1,a2,a3⟩:=r.Ip j gO j (by simp)
  exact ⟨(aA bY).trans a1,(aA bY).trans a2,(aA bY).trans a3⟩
def HP (K sz:Nat) (x:AV):AV:=match x with| .cR=>.ms K sz 0 0|x=>x
def amv (cs:cy) (k K sz:Nat):Nat->aB->aB
 |_,[]=> []
 |i,x::l=>ay (cs.any λq=>Nat.beq q.1 k&&Nat.beq q.2 i) (HP K sz x) x::amv cs k K sz (i+1) l
def XR (cs:cy) (K sz k:Nat) (b:Bx):Bx:=match b with| .flat e l=>.flat e (amv cs k K sz 0 l)| .hole e s Q i x=>.hole e s Q i (ay (cs.any λq=>Nat.beq q.1 k) (HP K sz x) x)| .tree e s l Q o=>.tree e s l Q (l4 (λx=>ay (cs.any λq=>Nat.beq q.1 k) (HP K sz x) x) o)|b=>b
def LS.born (s:LS) (ts:aI) (cs:cy) (K:Nat) (z:Bool) (e sz:Nat):LS:=
 ⟨s.ts.map λp=>(p.1,ay (ke p.1 ts) (HP K sz p.2) p.2),(s.set K (.rows z e sz [])).bs.map λp=>(p.1,XR cs K sz p.1 p.2)⟩
def HO {sz:Nat} (hb:g.O K=false) (h:VA F g v x):VA F g v (HP K sz x):=by
 unfold HP;split
 ·cases h;exact .qI sz hb
 ·exact h
def acH {cs:cy} {k K sz:Nat} (hb:g.O K=false):∀{xs:aB} {vs:aM} {i:Nat},bZ F g vs xs->bZ F g vs (amv cs k K sz i xs)
 | [],_,_,h=>h
 |x::l,_,i,.cons h t=>by
  refine .cons ?_ (acH hb t);rw[bk];split
  ·exact HO hb h
  ·exact h
def avn {sz:Nat} {hp:Hf} (hb:g.O K=false) (q:fC F g hp k b fp):fC F g hp k (XR cs K sz k b) fp:=by
 unfold XR;split
 ·cases q with|flat hh q=>exact .flat hh (acH hb q)
 ·cases q with|hole fT hh hu hc q hi hv hx=>
  refine .hole fT hh hu hc q hi hv ?_;rw[bk];split
  ·exact HO hb hx
  ·exact hx
 ·cases q with
  |iA hb=>exact .iA hb
  |tree fT hh hu hc q nd ho=>
   refine .tree fT hh hu hc q nd (ho.map λp hp v hv=> ?_)
   rw[bk];split
   ·exact HO hb hv
   ·exact hv
 ·exact q
def ic.born {e sz:Nat} (hk:s.free K) (hp:B.pk K=false):ic B s (s.born ts cs K z e sz):=.mk λ{F g J tm h} r=>by
 let g2:Gb:=⟨g.Z,g.κ,λk=>if k=K then false else g.O k⟩
 have hb:g2.O K=false:=ax rfl;have r2:=r.chg (K:=K) (b':=.rows z e sz []) (fo:= []) (fp:= []) (g':=g2) (h':=h) (λi hi=>by cases hi) (λi hi=>by cases hi) (λ_ _ _=>rfl) (cF _) r.bd (λx hx=>.inl hx) (.dD hb)
  (.inr ⟨hk,Bs.Pe hp,λk bY j hj=>by
   have:j=k:=by simpa using hj
   subst this;exact ⟨rfl,rfl,aA bY⟩⟩)
 refine ⟨F,g2,_,r2.awj (ft:=λt x=>ay (ke t ts) (HP K sz x) x) (fb:=λk b=>XR cs K sz k b) (λt=> ?_) (λt v x hv=> ?_) λk b fp q=>avn hb q⟩
 ·rw[bk];split<;>rfl
 ·rw[bk];split
  ·exact HO hb hv
  ·exact hv
def WB.cut {z:Bool} {e:TypeId} {sz u:Nat} {Q:aT}:WB (.rows z e sz Q) (.rows false e sz (Q.take u)):=λF g h K fp q=>by
 cases q with
 |dD hb=>rw[List.take_nil];exact .dD hb
 | @rows _ _ _ _ svs hb hh hz hu hc q=>
  have hle:(Q.take u).length<=Q.length:=by rw[dx];exact Nat.min_le_right _ _
  refine .rows hb hh (λe=>by cases e) (λr hr=>hu r (oH hr)) ?_ ?_
  ·cases hκ:g.κ K with
   |k m=>rw[hκ] at hc;exact ⟨iL hle hc.1,hc.2⟩
   |u e'=>rw[hκ] at hc;exact ⟨hc.1,iL (gz _ hle) hc.2⟩
  ·have:=q.take ((Q.take u).length*sz);rw[nq,eg (gz _ hle),<-rH hu] at this;have e1:Q.take (Q.take u).length=Q.take u:=by
    rw[dx];by_cases hc:u<=Q.length
    ·rw[eg hc]
    ·rw[Nat.min_eq_right (by omega),vf,lF (by omega)]
   rw[e1] at this;exact this
def afQ (h:vs[i]? =some v):dU vs i [v]=vs:=by
 let ⟨bD,he⟩:=cg.1 h;show vs.take i++ [v]++vs.drop (i+1)=vs;rw[<-he,kN];show vs.take i++(vs[i]::vs.drop (i+1))=vs;rw[<-se bD,wD]
def WB.clo {e:TypeId} {sz j f:Nat} {Q:aT} {R:aB} {x:AV} (hj:Q[j]? =some R) (hf:f+1<=sz) (hk:(dE x).isEmpty=true):WB (.hole e sz Q (j*sz+f) x) (.rows false e sz (Q.set j (di R f [x]))):=λF g h K fp q=>by
 cases q with
 | @hole _ _ _ _ _ svs v hb hh hu hc q hi hv hx=>
  have bD:j<Q.length:=(cg.1 hj).1;have hR:R.length=sz:=hu R (cX hj);refine .rows hb hh (λe=>by cases e) (λr hr=> ?_) (by rw[hZ];exact hc) ?_
  ·rcases tE hr with hr|rfl
   ·exact hu r hr
   ·rw[yx (by simp;omega)];exact hR
  ·rw[hZ,zf hu hj (by simpa using hf)]
   have qJ:(svs.take (Q.length*sz))[j*sz+f]? =some v:=by rw[eR,ax hi];exact hv
   have:=zr q (bZ.one (hx.jI (g':=.no) hk)) (j*sz+f);rwa[afQ qJ] at this
def Rel.split (r:Rel B F g J s tm h) {K2:Nat} {b2:Bx} (hb:lk K s.bs=some b) (hk:s.free K2) (hp:B.pn K2=false) (hpK:∀i,B.ps K i\/B.nx<=i->B.ps K2 i\/B.nx<=i) (hn:lk K2 s.bs=none) (hg:∀k,k≠K2->kg g g' [k]) (h1:fC F g' h.hp.get K b1 f1) (h2:fC F g' h.hp.get K2 b2 f2) (s1:∀i∈f1,i∈J K) (s2:∀i∈f2,i∈J K) (d:∀i∈f1,i∉f2):Rel B F g' (λk=>if k=K2 then f2 else if k=K then f1 else J k) ⟨s.ts,(K2,b2)::(K,b1)::ea K s.bs⟩ tm h:=by
 have bY:K≠K2:=λe=>by rw[e,hn] at hb;cases hb
 have zN:∀{k c},lk k ((K2,b2)::(K,b1)::ea K s.bs)=some c->(k=K2/\c=b2)\/(k≠K2/\k=K/\c=b1)\/(k≠K2/\k≠K/\lk k s.bs=some c):=λ{k c} hc=>by
  rw[cr,cr,ib] at hc;split at hc
  ·cases hc;exact .inl ⟨by assumption,rfl⟩
  ·split at hc
   ·cases hc;exact .inr (.inl ⟨by assumption,by assumption,rfl⟩)
   ·exact .inr (.inr ⟨by assumption,by assumption,hc⟩)
 have gs:∀ks:aI,K2∉ks->kg g g' ks:=λks oC k hk=>hg k (λe=>oC (e ▸ hk)) k (by simp)
 have sub:∀{k c},lk k ((K2,b2)::(K,b1)::ea K s.bs)=some c->∀i∈(if k=K2 then f2 else if k=K then f1 else J k),∃k0 c0,lk k0 s.bs=some c0/\i∈J k0/\(k0=k\/k0=K):=λ{k c} hc i hi=>by
  rcases zN hc with ⟨e,_⟩|⟨n1,e,_⟩|⟨n1,n2,hc⟩
  ·rw[ax e] at hi;exact ⟨K,b,hb,s2 i hi,.inr rfl⟩
  ·rw[aA n1,ax e] at hi;exact ⟨K,b,hb,s1 i hi,.inr rfl⟩
  ·rw[aA n1,aA n2] at hi;exact ⟨k,c,hc,hi,.inl rfl⟩
 refine ⟨λt x hx hnu=> ?_,λk c hc=> ?_,λk k' c c' hc wX xz i hi=> ?_,λk c hc i hi=> ?_,r.sub,r.bd,r.nx,r.old,r.f0,r.fn,λk c hc i hi=> ?_,r.lg,λk gO=> ?_⟩
 ·let ⟨v,v1,v2⟩:=r.tm t x hx hnu;exact ⟨v,v1,v2.gb (gs _ (hk.1 t x hx))⟩
 ·rcases zN hc with ⟨e,rfl⟩|⟨n1,e,rfl⟩|⟨n1,n2,hc⟩
  ·rw[ax e,e];exact h2
  ·rw[aA n1,ax e,e];exact h1
  ·rw[aA n1,aA n2];exact (r.bx k c hc).gb (gs _ (by simpa using zl n1)) (gs _ (hk.2 k c n1 hc))
 ·intro mw;rcases zN hc with ⟨e,_⟩|⟨n1,e,_⟩|⟨n1,n2,FE⟩<;>rcases zN wX with ⟨e',_⟩|⟨Is,e',_⟩|⟨Is,n2',UW⟩
  ·exact xz (e.trans e'.symm)
  ·rw[ax e] at hi;rw[aA Is,ax e'] at mw;exact d i mw hi
  ·rw[ax e] at hi;rw[aA Is,aA n2'] at mw;exact r.dj k' K c' b UW hb n2' i mw (s2 i hi)
  ·rw[aA n1,ax e] at hi;rw[ax e'] at mw;exact d i hi mw
  ·exact xz (e.trans e'.symm)
  ·rw[aA n1,ax e] at hi;rw[aA Is,aA n2'] at mw;exact r.dj k' K c' b UW hb n2' i mw (s1 i hi)
  ·rw[aA n1,aA n2] at hi;rw[ax e'] at mw;exact r.dj k K c b FE hb n2 i hi (s2 i mw)
  ·rw[aA n1,aA n2] at hi;rw[aA Is,ax e'] at mw;exact r.dj k K c b FE hb n2 i hi (s1 i mw)
  ·rw[aA n1,aA n2] at hi;rw[aA Is,aA n2'] at mw;exact r.dj k k' c c' FE UW xz i hi mw
 ·let ⟨k0,c0,a1,a2,_⟩:=sub hc i hi;exact r.nf k0 c0 a1 i a2
 ·let ⟨k0,c0,a1,a2,a3⟩:=sub hc i hi;rcases zN hc with ⟨e,_⟩|⟨n1,e,_⟩|⟨n1,n2,hc⟩
  ·rw[ax e] at hi;rw[e];exact hpK i (r.l6 K b hb i (s2 i hi))
  ·rw[aA n1,ax e] at hi;rw[e];exact r.l6 K b hb i (s1 i hi)
  ·rw[aA n1,aA n2] at hi;exact r.l6 k c hc i hi
 ·have xy:k≠K2:=λe=>by rw[e,hp] at gO;cases gO
  intro j hj;have ej:j=k:=by simpa using hj
  subst ej;let ⟨a1,a2,a3⟩:=r.Ip j gO j (by simp)
  let ⟨c1,c2,c3⟩:=hg j xy j (by simp)
  exact ⟨c1.trans a1,c2.trans a2,c3.trans a3⟩
def Rel.join (r:Rel B F g J s tm h) {K2:Nat} {b2:Bx} (hb:lk K s.bs=some b) (nO:lk K2 s.bs=some b2) (hp:∀i,B.ps K2 i\/B.nx<=i->B.ps K i\/B.nx<=i) (bY:K≠K2) (h1:fC F g h.hp.get K b1 f1) (s1:∀i∈f1,i∈J K\/i∈J K2):Rel B F g (λk=>if k=K then f1 else J k) ⟨s.ts,(K,b1)::ea K (ea K2 s.bs)⟩ tm h:=by
 have zN:∀{k c},lk k ((K,b1)::ea K (ea K2 s.bs))=some c->(k=K/\c=b1)\/(k≠K/\k≠K2/\lk k s.bs=some c):=λ{k c} hc=>by
  rw[cr,ib,ib] at hc;split at hc
  ·cases hc;exact .inl ⟨by assumption,rfl⟩
  ·split at hc
   ·cases hc
   ·exact .inr ⟨by assumption,by assumption,hc⟩
 have dis:∀{k c},k≠K->k≠K2->lk k s.bs=some c->∀i∈J k,i∉f1:=λ{k c} n1 n2 hc i hi hf=>by
  rcases s1 i hf with h|h
  ·exact r.dj k K c b hc hb n1 i hi h
  ·exact r.dj k K2 c b2 hc nO n2 i hi h
 refine {r with bx:=λk c hc=> ?_,dj:=λk k' c c' hc wX xz i hi=> ?_,nf:=λk c hc i hi=> ?_,l6:=λk c hc i hi=> ?_}
 ·rcases zN hc with ⟨e,rfl⟩|⟨n1,n2,hc⟩
  ·rw[ax e,e];exact h1
  ·rw[aA n1];exact r.bx k c hc
 ·intro mw;rcases zN hc with ⟨e,_⟩|⟨n1,n2,FE⟩<;>rcases zN wX with ⟨e',_⟩|⟨Is,n2',UW⟩
  ·exact xz (e.trans e'.symm)
  ·rw[ax e] at hi;rw[aA Is] at mw;exact dis Is n2' UW i mw hi
  ·rw[aA n1] at hi;rw[ax e'] at mw;exact dis n1 n2 FE i hi mw
  ·rw[aA n1] at hi;rw[aA Is] at mw;exact r.dj k k' c c' FE UW xz i hi mw
 ·rcases zN hc with ⟨e,rfl⟩|⟨n1,n2,hc⟩
  ·rw[ax e] at hi;exact (s1 i hi).elim (r.nf K b hb i) (r.nf K2 b2 nO i)
  ·rw[aA n1] at hi;exact r.nf k c hc i hi
 ·rcases zN hc with ⟨e,rfl⟩|⟨n1,n2,hc⟩
  ·rw[ax e] at hi;rcases s1 i hi with h|h
   ·rw[e];exact r.l6 K b hb i h
   ·rw[e];exact hp i (r.l6 K2 b2 nO i h)
  ·rw[aA n1] at hi;exact r.l6 k c hc i hi
def ahJ {x x':Bool} {r r':aT} (h:tL x e n r=tL x' e' n' r'):x=x'/\e=e'/\n=n'/\r=r':=by
 cases x<;>cases x'
 ·have h:AV.slice e n r= .slice e' n' r':=h;injection h with a b c
  exact ⟨rfl,a,b,c⟩
 ·cases (show AV.slice e n r= .iW e' n' r' from h)
 ·cases (show AV.iW e n r= .slice e' n' r' from h)
 ·have h:AV.iW e n r= .iW e' n' r':=h;injection h with a b c
  exact ⟨rfl,a,b,c⟩
def aAy {x:Bool} {r:aT}:tL x e n r≠ .undef:=by
 cases x
 ·exact λh=>by cases (show AV.slice e n r= .undef from h)
 ·exact λh=>by cases (show AV.iW e n r= .undef from h)
def HV:ew->Bool
 | []=>true
 | .d::l=>HV l
 |_=>false
def jf.Jr {h:Hf}:∀{l:ew} {vs:aM} {xs:aB},HV l=true->xs.length=l.length->bZ F .no vs xs->jf F h l vs xs []
 | [],_,[],_,_,.nil=>.nil
 | .d::l,_,_::_,ha,hl,.cons hv ht=>by
  have:=jf.cons (TC.d (F:=F) (h:=h) (f:= []) hv λi hi=>by cases hi) (jf.Jr (h:=h) (l:=l) ha (by simpa using hl) ht)
  simpa using this
def TR.Jr {h:Hf} {l:ew} (ha:HV l=true):∀{Q:aT} {vs:aM},(∀r∈Q,r.length=l.length)->bZ F .no vs Q.flatten->TR F h l vs Q []
 | [],vs,_,q=>by cases q;exact .nil
 |r::Q,vs,hu,q=>by
  rw[nn] at q;have q1:=q.take r.length;have q2:=q.drop r.length;rw[OB] at q1;rw[List.drop_left] at q2;have:=TR.cons (jf.Jr (h:=h) ha (hu r (by simp)) q1) (TR.Jr ha (λr' fY=>hu r' (dR _ fY)) q2)
  rw[wD] at this;simpa using this
def aow {sz:Nat} (h1:g.O K=true) (h2:g.κ K=c):VA F g (.sl (g.Z K) 0 n c) (.ms K sz 0 n):=ajS h1 h2
def WB.toTree {sz:Nat} {l:ew} (ha:HV l=true) (hl:l.length=sz):WB (.rows z e sz Q) (.tree e sz l Q []):=λF g h K fp q=>by
 cases q with
 |dD hb=>exact .iA hb
 |rows hb hh hz hu hc q=>exact .tree hb hh hu hc (TR.Jr ha (λr hr=>by rw[hl];exact hu r hr) q) (by simp) trivial
def WB.tun {sz:Nat} {l:ew}:WB (.tree e sz l Q o) (.tree e sz l Q []):=λF g h K fp q=>by
 cases q with
 |iA hb=>exact .iA hb
 |tree hb hh hu hc q nd _=>exact .tree hb hh hu hc q nd trivial
def WB.ayt {sz:Nat} {l:ew}:WB (.rows z e sz []) (.tree e sz l [] []):=λF g h K fp q=>by
 cases q with
 |dD hb=>exact .iA hb
 |rows hb hh hz hu hc q=>exact .tree hb hh hu hc (by simpa using TR.nil) (by simp) trivial
def jf.IV {h:Hf}:∀{l:ew} {vs:aM} {xs:aB} {f:aI},HV l=true->jf F h l vs xs f->bZ F .no vs xs
 |_,_,_,_,_,.nil=>.nil
 | .d::l,_,_,_,ha,.cons q t=>by
  refine .cons ?_ (jf.IV (l:=l) ha t);cases q with
  |d q hf=>exact q
  |any _ hf=>exact .undef _
 | .o _ _::l,_,_,_,ha,.cons q t=>by cases (show false=true from ha)
def TR.IV {h:Hf} {l:ew} (ha:HV l=true):∀{vs:aM} {Q:aT} {f:aI},TR F h l vs Q f->bZ F .no vs Q.flatten
 |_,_,_,.nil=>.nil
 |_,_,_,.cons q t=>by
  rw[nn];exact (q.IV ha).append (t.IV ha)
def aaH (l:ew) (e:TypeId) (n:Nat) (rows:aT):Bx:=ay (HV l) (.rows false e n rows) (.tree e n l rows [])
def TC.open {h:Hf} {x:Bool} {K2:Nat} (q:TC F h (.o x l2) v (tL x e2 xf rows) f0) (nd:f0.Nodup):∃id c bt fK,(∀i∈fK,i∈f0)/\∀g2:Gb,g2.Z K2=id->g2.κ K2=c->g2.O K2=bt->fC F g2 h K2 (aaH l2 e2 xf rows) fK/\VA F g2 v (.ms K2 xf 0 rows.length):=by
 generalize hy:tL x e2 xf rows=y at q;unfold aaH;rw[bk];cases q with
 |any v hf=>exact absurd hy aAy
 |nil hy' hf'=>
  let ⟨_,_,_,er⟩:=ahJ (hy.trans hy');subst er;refine ⟨0,.k 0,false,[],⟨λi hi=>(by cases hi),λg2 _ _ e=>⟨?_,.qI xf e⟩⟩⟩
  split
  ·exact .dD e
  ·exact .iA e
 | @sl _ _ i0 c0 vW e3 s3 nL fp3 _ n3 hy' hn3 hh3 hu3 hc3 q3=>
  let ⟨_,er1,er2,er⟩:=ahJ (hy.trans hy');subst er;subst er1;subst er2;subst hn3;by_cases ha:HV l2=true
  ·refine ⟨i0,c0,true,[i0],λi hi=>by rw[cB.1 hi];exact gw,λg2 AP e4' Cz=>⟨?_,?_⟩⟩
   ·rw[ax ha,<-AP];exact .rows Cz (by rw[AP];exact hh3) (λe=>by cases e) hu3 (by rw[e4'];exact hc3) (q3.IV ha)
   ·have G9:=aow (F:=F) (g:=g2) (K:=K2) (sz:=xf) (n:=rows.length) Cz e4';rwa[AP] at G9
  ·refine ⟨i0,c0,true,i0::fp3,λi hi=>hi,λg2 AP e4' Cz=>⟨?_,?_⟩⟩
   ·rw[aA ha,<-AP];exact .tree Cz (by rw[AP];exact hh3) hu3 (by rw[e4'];exact hc3) q3 (by rw[AP];exact nd) trivial
   ·have G9:=aow (F:=F) (g:=g2) (K:=K2) (sz:=xf) (n:=rows.length) Cz e4';rwa[AP] at G9
def ic.BP {K K2 j f:Nat} {e e2:TypeId} {sz xf:Nat} {l l2:ew} {x:Bool} {Q rows:aT} {R:aB} {o:dd} (hb:lk K s.bs=some (.tree e sz l Q o)) (hj:Q[j]? =some R) (hf:R[f]? =some (tL x e2 xf rows)) (hl:l[f]? =some (.o x l2)) (hk:s.free K2) (hp:B.pn K2=false) (hpK:∀i,B.ps K i\/B.nx<=i->B.ps K2 i\/B.nx<=i) (hn:lk K2 s.bs=none):
  ic B s ⟨s.ts,(K2,aaH l2 e2 xf rows)::(K,.tree e sz l (Q.set j (di R f [.undef])) ((j*sz+f,.ms K2 xf 0 rows.length)::o))::ea K s.bs⟩:=.mk λ{F g J tm h} r=>by
 have bY:K≠K2:=λe=>by rw[e,hn] at hb;cases hb
 have q:=r.bx K _ hb;generalize AM:J K=fp at q;cases q with
 |iA=>cases hj
 | @tree _ _ _ _ _ svs fs fT hh hu hc q nd ho=>
  let ⟨nd1,nd2⟩:=tD.1 nd;let ⟨sh,v,f1,f0,f2,k1,k2,k3,k4,k5⟩:=q.cell hu hj hf;have hR:f<R.length:=(cg.1 hf).1;rw[hl] at k1;cases k1;subst k3;let ⟨n1,n2,n3⟩:=yp.1 nd2;let ⟨n4,n5,n6⟩:=yp.1 n2;have hv:svs[j*sz+f]? =some v:=by
   rw[eR] at k2;split at k2
   ·exact k2
   ·cases k2
  let ⟨id,c,bt,fK,hfK,hopn⟩:=k4.open (K2:=K2) n4;let g2:Gb:=⟨λk=>if k=K2 then id else g.Z k,λk=>if k=K2 then c else g.κ k,λk=>if k=K2 then bt else g.O k⟩
  have g2o:∀k,k≠K2->kg g g2 [k]:=λk hk j hj=>by
   have:j≠K2:=by rw[show j=k by simpa using hj];exact hk
   exact ⟨aA this,aA this,aA this⟩
  let ⟨m1,m2,m3⟩:=g2o K bY K (by simp)
  have hx:=hopn g2 (ax rfl) (ax rfl) (ax rfl);have kt:=k5 v .undef [] (.any v λi hi=>by cases hi)
  have gN:kg g g2 (vN o):=λk gO=>g2o k (λe0=>(hk.2 K _ bY hb) (by subst e0;exact gO)) k (by simp)
  refine ⟨F,g2,_,r.split (b1:=.tree e sz l (Q.set j (di R f [.undef])) ((j*sz+f,.ms K2 xf 0 rows.length)::o)) (b2:=aaH l2 e2 xf rows) (f1:=g.Z K::(f1++([]++f2))) (f2:=fK) hb hk hp hpK hn g2o ?_ hx.1 (λi hi=> ?_) (λi hi=> ?_) λi hi=> ?_⟩
  ·rw[<-m1];have lD:(svs.take (Q.length*sz)).set (j*sz+f) v=svs.take (Q.length*sz):=by
    apply wC;intro i;rw[EG];split
    ·rename_i e0;subst e0;rw[k2];rw[ax (cg.1 k2).1]
    ·rfl
   rw[lD] at kt;refine .tree (m3.trans fT) (by rw[m1];exact hh) (λr' fY=> ?_) (by rw[hZ,m2];exact hc) (by rw[hZ,m8 hR];exact kt) ?_ ⟨⟨v,hv,hx.2⟩,?_⟩
   ·rcases tE fY with fY|e0
    ·exact hu r' fY
    ·rw[e0,m8 hR,hZ];exact hu R (cX hj)
   ·rw[m1];refine tD.2 ⟨λhi=>nd1 ?_,?_⟩
    ·rcases ee.1 hi with hi|hi
     ·exact eJ _ hi
     ·exact ez _ (ez _ (by simpa using hi))
    ·refine yp.2 ⟨n1,by simpa using n5,λa ha b cn e0=>n3 a ha b (ez _ (by simpa using cn)) e0⟩
   ·have:=ho.map (g':=g2) (F':=F) (f:=λx=>x) λp hp v hv=>hv.gb λk gO=>gN k (Dr hp k gO)
    rwa[G6] at this
  ·rw[AM];rcases bB.1 hi with e0|hi
   ·rw[e0];exact gw
   ·rcases ee.1 hi with hi|hi
    ·exact dR _ (eJ _ hi)
    ·exact dR _ (ez _ (ez _ (by simpa using hi)))
  ·rw[AM];exact dR _ (ez _ (eJ _ (hfK i hi)))
  ·rcases bB.1 hi with e0|hi
   ·rw[e0];exact λhf=>nd1 (ez _ (eJ _ (hfK _ hf)))
   ·intro hf;have hf:=hfK i hf;rcases ee.1 hi with hi|hi
    ·exact n3 i hi i (eJ _ hf) rfl
    ·exact n6 i hf i (by simpa using hi) rfl
def anX {hp:Hf} {sz:Nat} {l:ew} {f:aI} (q:fC F g hp K (.tree e sz l R o) f):f.Nodup:=by
 cases q with
 |iA=>simp
 |tree hb hh hu hc q nd ho=>exact nd
def ic.tcl {K K2 j f:Nat} {e e2:TypeId} {sz xf:Nat} {l l2:ew} {x:Bool} {Q rows:aT} {R:aB} {o:dd} (hb:lk K s.bs=some (.tree e sz l Q ((j*sz+f,.ms K2 xf 0 rows.length)::o))) (nO:lk K2 s.bs=some (.tree e2 xf l2 rows [])) (hj:Q[j]? =some R) (hl:l[f]? =some (.o x l2)) (FC:f<sz) (hp:∀i,B.ps K2 i\/B.nx<=i->B.ps K i\/B.nx<=i) (bY:K≠K2):
  ic B s ⟨(s.fa K2).ts,(K,.tree e sz l (Q.set j (di R f [tL x e2 xf rows])) (l4 (jL K2) o))::ea K (ea K2 (s.fa K2).bs)⟩:=.mk λ{F g J tm h} r=>by
 have q:=r.bx K _ hb;have q2:=r.bx K2 _ nO;have hdj:=r.dj K K2 _ _ hb nO bY;have r':=Cq r K2;have nd0:=anX q2;generalize AM:J K=fp at q;cases q with
 | @tree _ _ _ _ _ svs fs fT hh hu hc q nd ho=>
  let ⟨nd1,nd2⟩:=tD.1 nd;let ⟨⟨v,hv,hx⟩,ho⟩:=ho;have hR:R.length=sz:=hu R (cX hj);obtain ⟨xo,hxo⟩:∃xo,R[f]? =some xo:=⟨R[f]'(by omega),dW _⟩
  let ⟨sh,v0,f1,f0,f2,k1,k2,k3,k4,k5⟩:=q.cell hu hj hxo;rw[hl] at k1;cases k1;subst k3;let ⟨n1,n2,n3⟩:=yp.1 nd2;let ⟨n4,n5,n6⟩:=yp.1 n2;have pq:TC F h.hp.get (.o x l2) v (tL x e2 xf rows) (J K2):=by
   generalize J K2=f2 at q2;cases q2 with
   |iA iY=>cases hx with|qI=>exact .nil rfl (λi hi=>by cases hi)|ms _ _ _ FF=>rw[iY] at FF;cases FF|rE _ _ hl=>cases hl
   |tree iY JX hu1 hc1 q1 nd3 ho3=>
    generalize hm:rows.length=m at hx;cases hx with
    |qI _ FF=>rw[iY] at FF;cases FF
    |rE _ _ hl=>cases hl
    |ms _ _ _ FF=>
     subst hm;rw[nV];refine .sl rfl rfl JX hu1 ?_ q1;cases hκ:g.κ K2<;>rw[hκ] at hc1<;>exact hc1
  have hd:∀i∈J K2,i∉g.Z K::(f1++(f0++f2)):=λi hi hf=>hdj i (by rw[AM];exact hf) hi
  have kt:=k5 v _ _ pq;have lD:(svs.take (Q.length*sz)).set (j*sz+f) v=svs.take (Q.length*sz):=by
   apply wC;intro i;rw[EG];split
   ·rename_i e0;subst e0;have bD:=(cg.1 k2).1;rw[ax bD];rw[eR,ax (by rw[dx] at bD;omega),hv]
   ·rfl
  rw[lD] at kt;have lf:∀{k b},lk k s.bs=some b->lk k (s.fa K2).bs=some (b.fa K2):=λ{k b} hb=>by
   rw[show (s.fa K2).bs=s.bs.map λp=>(p.1,p.2.fa K2) from rfl,mm,hb];rfl
  refine ⟨F,g,_,r'.join (b1:=.tree e sz l (Q.set j (di R f [tL x e2 xf rows])) (l4 (jL K2) o)) (f1:=g.Z K::(f1++(J K2++f2))) (lf hb) (lf nO) hp bY ?_ λi hi=> ?_⟩
  ·refine .tree fT hh (λr' fY=> ?_) (by rw[hZ];exact hc) (by rw[hZ,m8 (by omega)];exact kt) (tD.2 ⟨λhi=> ?_,?_⟩) (ho.map λp hp v hv=>Cs hv)
   ·rcases tE fY with fY|e0
    ·exact hu r' fY
    ·rw[e0,m8 (by omega),hZ];exact hR
   ·rcases ee.1 hi with hi|hi
    ·exact nd1 (eJ _ hi)
    ·rcases ee.1 hi with hi|hi
     ·exact hd _ hi gw
     ·exact nd1 (ez _ (ez _ hi))
   ·refine yp.2 ⟨n1,yp.2 ⟨nd0,n5,λa ha b cn e0=> ?_⟩,λa ha b cn e0=> ?_⟩
    ·subst e0;exact hd a ha (dR _ (ez _ (ez _ cn)))
    ·subst e0;rcases ee.1 cn with cn|cn
     ·exact hd a cn (dR _ (eJ _ ha))
     ·exact n3 a ha a (ez _ cn) rfl
  ·rw[AM];rcases bB.1 hi with e0|hi
   ·rw[e0];exact .inl gw
   ·rcases ee.1 hi with hi|hi
    ·exact .inl (dR _ (eJ _ hi))
    ·rcases ee.1 hi with hi|hi
     ·exact .inr hi
     ·exact .inl (dR _ (ez _ (ez _ hi)))
def WB.tcx {sz:Nat} {l:ew} {R:aB} {sh:Sh} (hj:Q[j]? =some R) (hl:l[f]? =some sh) (FC:f<sz) (hc:∀{F:Hf} {g:Gb} {h:Hf} {v:SV} {p:aI},VA F g v x->(∀i∈p,h i≠none)->TC F h sh v y p):WB (.tree e sz l Q ((j*sz+f,x)::o)) (.tree e sz l (Q.set j (di R f [y])) o):=λF g h K fp q=>by
 cases q with
 | @tree _ _ _ _ _ svs fs fT hh hu fG q nd ho=>
  let ⟨⟨v,hv,hx⟩,ho⟩:=ho;have hR:R.length=sz:=hu R (cX hj);obtain ⟨xo,hxo⟩:∃xo,R[f]? =some xo:=⟨R[f]'(by omega),dW _⟩
  let ⟨sh',v0,f1,f0,f2,k1,k2,k3,k4,k5⟩:=q.cell hu hj hxo;rw[hl] at k1;cases k1;subst k3;have kt:=k5 v _ _ (hc hx k4.there);have lD:(svs.take (Q.length*sz)).set (j*sz+f) v=svs.take (Q.length*sz):=by
   apply wC;intro i;rw[EG];split
   ·rename_i e0;subst e0;have bD:=(cg.1 k2).1;rw[ax bD];rw[eR,ax (by rw[dx] at bD;omega),hv]
   ·rfl
  rw[lD] at kt;refine .tree fT hh (λr' fY=> ?_) (by rw[hZ];exact fG) (by rw[hZ,m8 (by omega)];exact kt) nd ho
  rcases tE fY with fY|e0
  ·exact hu r' fY
  ·rw[e0,m8 (by omega),hZ];exact hR
def awf {Y:Type} (l:List (Nat×Y)):List (Nat×Y):=match l with| []=> []|p::l=>p::ea p.1 l
def abg (k:Nat) (l:List (Nat×Y)):lk k (awf l)=lk k l:=by
 cases l with
 |nil=>rfl
 |cons p l=>
  show lk k ((p.1,p.2)::ea p.1 l)=lk k ((p.1,p.2)::l);rw[cr,cr,ib];split
  ·rfl
  ·rfl
def akM {Y:Type}:List (Nat×Y)->List (Nat×Y)
 | []=> []
 |p::l=>p::ea p.1 (akM l)
def UC {Y:Type} (k:Nat):∀l:List (Nat×Y),lk k (akM l)=lk k l
 | []=>rfl
 |p::l=>by
  show lk k ((p.1,p.2)::ea p.1 (akM l))=lk k ((p.1,p.2)::l);rw[cr,cr,ib,UC k l];split
  ·rfl
  ·rfl
def LS.tidy (s:LS):LS:=⟨awf s.ts,akM s.bs⟩
def vd.Xq (h1:∀t,lk t s'.ts=lk t s.ts) (h2:∀k,lk k s'.bs=lk k s.bs):vd s s':=⟨λt y hy=>.inr ⟨y,by rw[<-h1];exact hy,WV.refl y⟩,λk b hb=>⟨b,by rw[<-h2];exact hb,WB.refl b⟩⟩
def LS.Dc:vd s s.tidy:=vd.Xq (λt=>abg t _) λk=>UC k _
def Ux (N:Nat×Nat):List (Nat×Nat)->Option (List Ob)
 | []=>some []
 |q::l=>ay (Nat.beq q.1 N.1) (au (Ux N l) λo=>some (tQ q.2 N.2::o)) none
def Uw {N:Nat×Nat}:∀{l:List (Nat×Nat)} {o:List Ob},Ux N l=some o->fI o->∀q∈l,q=N
 | [],_,_,_,q,hq=>by cases hq
 |p::l,o,h,ho,q,hq=>by
  let ⟨h1,h⟩:=aJ (show ay (Nat.beq p.1 N.1) (au (Ux N l) λo=>some (tQ p.2 N.2::o)) none=some o from h)
  let ⟨o',h2,h⟩:=aj h;cases h;rcases bB.1 hq with e|hq
  ·subst e;have e1:q.1=N.1:=(beq_iff _ _).1 h1;have e2:=mh ho.1;exact ET e1 e2
  ·exact Uw h2 ho.2 q hq
def getM {Y:Type} (d:Y) (t:Nat) (l:List (Nat×Y)):Y:= @Option.rec Y (λ_=>Y) d (λx=>x) (lk t l)
def LS.norm (s:LS) (ts:List (Nat×PM)) (bs:List (Nat×PB)):LS:=⟨s.ts.map λp=>(p.1,(getM (.one .same) p.1 ts).app p.2),s.bs.map λp=>(p.1,(getM .same p.1 bs).app p.2)⟩
def PM.Ws (m:PM):m.app .undef= .undef:=by
 cases m with
 |one m=>cases m<;>rfl
 |agg ms=>rfl
def ic.norm {ts:List (Nat×PM)} {bs:List (Nat×PB)}:ic B s (s.norm ts bs):=.mk λ{F g J tm h} r=>⟨F,g,J,r.awj (ft:=λt x=>(getM (PM.one P1.same) t ts).app x) (fb:=λk b=>(getM PB.same k bs).app b) (λt=>PM.Ws _) (λt v x hv=>PM.va _ hv) λk b fp q=>PB.wb _ b _ _ _ _ _ q⟩
def XF (E:Env) (bV:aI) (s:LS) (it:It E):Option (LS×List Ob):=
 match it with
 | @It.gx _ Q n K _=>au (lk K s.bs) λb=>(match b with
  | .rows z e sz Q'=>ay (!wc K bV) (au (Ux (sz,n) (Uv K s.ts++G3 K s.bs)) λo=>some (s.gx K (ay z (.jW e sz Q) (.slice e sz Q)) (λ_=>.undef),oP Q' Q::o)) none
  |_=>none)
 | .fO K K'=>ay (sy bV s K'&&((lk K' s.bs).isNone && !wc K bV)) (some (s.fO K K',[])) none
 | @It.shr _ Q P u K _=>au (lk K s.bs) λb=>(match b with
  | .rows _ e sz Q'=>some (⟨s.ts,(K,.rows false e sz P)::ea K s.bs⟩,[oP Q' Q])
  |_=>none)
 | @It.clo _ Q j R f x Q' K _ _=>au (lk K s.bs) λb=>(match b with
  | .hole e sz Q0 i0 x0=>ay ((dE x0).isEmpty&&Nat.ble (Nat.add f 1) sz) (some (⟨s.ts,(K,.rows false e sz Q')::ea K s.bs⟩,[oP Q0 Q,(.loc 0 i0,.loc 0 (Nat.add (Nat.mul j sz) f)),(x0,x)])) none
  |_=>none)
 | .ey K l=>au (lk K s.bs) λb=>(match b with
  | .rows _ e sz Q0=>ay (HV l&&Nat.beq l.length sz) (some (⟨s.ts,(K,.tree e sz l Q0 [])::ea K s.bs⟩,[])) (match Q0 with
   | []=>some (⟨s.ts,(K,.tree e sz l [] [])::ea K s.bs⟩,[])
   |_=>none)
  |_=>none)
 | .tun K=>au (lk K s.bs) λb=>(match b with
  | .tree e sz l Q0 _=>some (⟨s.ts,(K,.tree e sz l Q0 [])::ea K s.bs⟩,[])
  |_=>none)
 | @It.BP _ Q j f R x e' s' n rows Q' K K2 _ _ _ _=>au (lk K s.bs) λb=>(match b with
  | .tree e sz l Q0 o=>(match l[f]? with
   |some (.o x' l2)=>ay (ay x x' (!x')&&(alS s K2&&((lk K2 s.bs).isNone&&(!Jm bV K2&&acj bV K K2)))) (some (⟨s.ts,(K2,aaH l2 e' s' rows)::(K,.tree e sz l Q' ((Nat.add (Nat.mul j sz) f,.ms K2 s' 0 n)::o))::ea K s.bs⟩,[oP Q0 Q])) none
   |_=>none)
  |_=>none)
 | @It.tcl _ Q j f R x e' s' n rows Q' K K2 _ _ _=>bE (lk K s.bs) (lk K2 s.bs) λb b2=>(match b,b2 with
  | .tree e sz l Q0 (p::o),.tree e2 s2 l2 R0 []=>(match l[f]? with
   |some (.o x' l2')=>ay (ay x x' (!x')&&(Nat.beq e2 e'&&(Nat.beq s2 s'&&(Nat.ble (f+1) sz&&(!Nat.beq K K2&&acj bV K2 K))))) (some (⟨(s.fa K2).ts,(K,.tree e sz l Q' (l4 (jL K2) o))::ea K (ea K2 (s.fa K2).bs)⟩,[oP Q0 Q,oP R0 rows,(p.2,.ms K2 s' 0 n),(.loc 0 p.1,.loc 0 (Nat.add (Nat.mul j sz) f)),(.agg (uc l2'),.agg (uc l2))])) none
   |_=>none)
  |_,_=>none)
 | @It.tcd _ Q j f R x Q' K _ _=>au (lk K s.bs) λb=>(match b with
  | .tree e sz l Q0 (p::o)=>(match l[f]? with
   |some .d=>ay ((dE x).isEmpty&&Nat.ble (f+1) sz) (some (⟨s.ts,(K,.tree e sz l Q' o)::ea K s.bs⟩,[oP Q0 Q,(p.2,x),(.loc 0 p.1,.loc 0 (Nat.add (Nat.mul j sz) f))])) none
   |_=>none)
  |_=>none)
 | @It.tfr _ Q n x K _=>au (lk K s.bs) λb=>(match b with
  | .tree e sz l Q0 []=>ay (!wc K bV) (au (Ux (sz,n) (Uv K s.ts++G3 K s.bs)) λo=>some (s.gx K (tL x e sz Q) (λ_=>.undef),oP Q0 Q::o)) none
  |_=>none)
 | .born ts cs K z e sz=>ay (sy bV s K) (some (s.born ts cs K z e sz,[])) none
 | .norm ts bs=>some (s.norm ts bs,[])
 | @It.seq _ x y t _=>au (lk t s.ts) λx'=>some (⟨(t,y)::ea t s.ts,s.bs⟩,[(x',x)])
 | @It.beq _ x y K _=>au (lk K s.bs) λx'=>some (⟨s.ts,(K,y)::ea K s.bs⟩,[(xK x',xK x)])
 |_=>none
def auA {it:It E} {p:LS×List Ob} (hB:od bV B) (h:XF E bV s it=some p) (ho:fI p.2):ic B s p.1:=by
 cases it with
 | @gx Q n K hQ=>
  subst hQ;let ⟨b,h1,h⟩:=aj (show au (lk K s.bs) (λb=>(match b with
   | .rows z e sz Q'=>ay (!wc K bV) (au (Ux (sz,Q.length) (Uv K s.ts++G3 K s.bs)) λo=>some (s.gx K (ay z (.jW e sz Q) (.slice e sz Q)) (λ_=>.undef),oP Q' Q::o)) none
   |_=>none))=some p from h)
  split at h
  ·rename_i z e sz Q';let ⟨h2,h⟩:=aJ h;let ⟨o,h3,h⟩:=aj h;cases h;let ⟨o1,o2⟩:=ho;have e1:=jt o1;subst e1;refine .mk λ{F g J tm h} r=> ?_
   have ed:(ay z (.jW e sz Q') (.slice e sz Q'):AV)=Hu (.rows z e sz Q'):=by cases z<;>rfl
   let ⟨F',_,r'⟩:=r.gx (K:=K) (b:=.rows z e sz Q') (D:=Hu (.rows z e sz Q')) (L:=frzL (.rows z e sz Q')) (sz:=sz) (m:=Q'.length) h1 (hB.no K (by simpa using h2)) (Uw h3 o2) λF' hF hi q=>FH hF rfl hi q
   refine ⟨F',g,J,?_⟩;rw[ed];exact r'
  ·cases h
 |fO K K'=>
  let ⟨h1,h⟩:=aJ (show ay (sy bV s K'&&((lk K' s.bs).isNone && !wc K bV)) (some (s.fO K K',[])) none=some p from h);cases h;simp only[aY] at h1;let ⟨k1,k2,k3⟩:=h1;let ⟨f1,f2⟩:=wZ hB k1;exact ic.fO f1 (hB.no K (by simpa using k3)) f2 (by simpa using k2)
 | @shr Q P u K hP=>
  subst hP;let ⟨b,h1,h⟩:=aj (show au (lk K s.bs) (λb=>(match b with
   | .rows _ e sz Q'=>some (⟨s.ts,(K,.rows false e sz (Q.take u))::ea K s.bs⟩,[oP Q' Q])
   |_=>none))=some p from h)
  split at h
  ·rename_i z e sz Q';cases h;have e1:=jt ho.1;subst e1;refine ic.less ⟨λt y hy=>.inr ⟨y,hy,WV.refl y⟩,λk c hc=> ?_⟩
   have hc:lk k ((K,Bx.rows false e sz (Q'.take u))::ea K s.bs)=some c:=hc;rw[cr,ib] at hc;split at hc
   ·rename_i e;cases hc;exact ⟨_,e ▸ h1,WB.cut⟩
   ·exact ⟨c,hc,WB.refl c⟩
  ·cases h
 | @clo Q j R f x Q' K hj hQ=>
  subst hQ;let ⟨b,h1,h⟩:=aj (show au (lk K s.bs) (λb=>(match b with
   | .hole e sz Q0 i0 x0=>ay ((dE x0).isEmpty&&Nat.ble (Nat.add f 1) sz) (some (⟨s.ts,(K,.rows false e sz (Q.set j (di R f [x])))::ea K s.bs⟩,[oP Q0 Q,(.loc 0 i0,.loc 0 (Nat.add (Nat.mul j sz) f)),(x0,x)])) none
   |_=>none))=some p from h)
  split at h
  ·rename_i e sz Q0 i0 x0;let ⟨h2,h⟩:=aJ h;cases h;let ⟨o1,o2,o3,_⟩:=ho;have e1:=jt o1;injection o2 with _ o2
   have o3:x0=x:=o3;rw[aY] at h2;subst e1;subst o2;subst o3;refine ic.less ⟨λt y hy=>.inr ⟨y,hy,WV.refl y⟩,λk c hc=> ?_⟩
   have hc:lk k ((K,Bx.rows false e sz (Q0.set j (di R f [x0])))::ea K s.bs)=some c:=hc;rw[cr,ib] at hc;split at hc
   ·rename_i e;cases hc;exact ⟨_,e ▸ h1,WB.clo hj (fU h2.2) h2.1⟩
   ·exact ⟨c,hc,WB.refl c⟩
  ·cases h
 |tun K=>
  let ⟨b,h1,h⟩:=aj h;split at h
  ·rename_i e sz l Q0 o0;cases h;refine ic.less ⟨λt y hy=>.inr ⟨y,hy,WV.refl y⟩,λk c hc=> ?_⟩
   have hc:lk k ((K,Bx.tree e sz l Q0 [])::ea K s.bs)=some c:=hc;rw[cr,ib] at hc;split at hc
   ·rename_i e;cases hc;exact ⟨_,e ▸ h1,WB.tun⟩
   ·exact ⟨c,hc,WB.refl c⟩
  ·cases h
 |ey K l=>
  let ⟨b,h1,h⟩:=aj h;split at h
  ·rename_i z e sz Q0;rw[bk] at h;split at h
   ·rename_i h2;cases h;rw[aY] at h2;refine ic.less ⟨λt y hy=>.inr ⟨y,hy,WV.refl y⟩,λk c hc=> ?_⟩
    have hc:lk k ((K,Bx.tree e sz l Q0 [])::ea K s.bs)=some c:=hc;rw[cr,ib] at hc;split at hc
    ·rename_i e;cases hc;exact ⟨_,e ▸ h1,WB.toTree h2.1 ((beq_iff _ _).1 h2.2)⟩
    ·exact ⟨c,hc,WB.refl c⟩
   ·split at h
    ·cases h;refine ic.less ⟨λt y hy=>.inr ⟨y,hy,WV.refl y⟩,λk c hc=> ?_⟩
     have hc:lk k ((K,Bx.tree e sz l [] [])::ea K s.bs)=some c:=hc;rw[cr,ib] at hc;split at hc
     ·rename_i e;cases hc;exact ⟨_,e ▸ h1,WB.ayt⟩
     ·exact ⟨c,hc,WB.refl c⟩
    ·cases h
  ·cases h
 | @BP Q j f R x e' s' n rows Q' K K2 hj hx hn hQ=>
  subst hn;subst hQ;let ⟨b,h1,h⟩:=aj h;split at h
  ·rename_i e sz l Q0 o0;split at h
   ·rename_i x' l2 hl;let ⟨h2,h⟩:=aJ h;cases h;have e1:=jt ho.1;subst e1;simp only[aY] at h2;let ⟨k0,k1,k2,k3,k4⟩:=h2;have ex:x'=x:=by cases x<;>cases x'<;>first|rfl|(cases k0;done)
    subst ex;exact ic.BP h1 hj hx hl (auG k1) (hB.pn (by simpa using k3)) (U2 hB k4) (by simpa using k2)
   ·cases h
  ·cases h
 | @tcl Q j f R x e' s' n rows Q' K K2 hj hn hQ=>
  subst hn;subst hQ;let ⟨b,b2,h1,h2,h⟩:=bc h;split at h
  ·rename_i e sz l Q0 p0 o0 e2 s2 l2 R0;split at h
   ·rename_i x' l2' hl;let ⟨h3,h⟩:=aJ h;cases h;let ⟨o1,o2,o3,o4,o5,_⟩:=ho;have e1:=jt o1;have e3:=jt o2;let ⟨q1,q2⟩:=p0;have o3:q2= .ms K2 s' 0 rows.length:=o3;injection o4 with _ o4
    have o4:q1=Nat.add (Nat.mul j sz) f:=o4;injection o5 with o5
    have o5:=DJ o5;simp only[aY] at h3;let ⟨k0,k1,k2,k3,k4,k5⟩:=h3;have ex:x'=x:=by cases x<;>cases x'<;>first|rfl|(cases k0;done)
    have k1:=(beq_iff _ _).1 k1;have k2:=(beq_iff _ _).1 k2;subst ex;subst e1;subst e3;subst o3;subst o4;subst o5;subst k1;subst k2;exact ic.tcl h1 h2 hj hl (fU k3) (U2 hB k5) (λe=>by rw[(beq_iff _ _).2 e] at k4;cases k4)
   ·cases h
  ·cases h
 | @tcd Q j f R x Q' K hj hQ=>
  subst hQ;let ⟨b,h1,h⟩:=aj h;split at h
  ·rename_i e sz l Q0 p0 o0;split at h
   ·rename_i hl;let ⟨h2,h⟩:=aJ h;cases h;let ⟨o1,o2,o3,_⟩:=ho;have e1:=jt o1;let ⟨q1,q2⟩:=p0;have o2:q2=x:=o2;injection o3 with _ o3
    have o3:q1=Nat.add (Nat.mul j sz) f:=o3;rw[aY] at h2;subst e1;subst o2;subst o3;refine ic.less ⟨λt y hy=>.inr ⟨y,hy,WV.refl y⟩,λk c hc=> ?_⟩
    have hc:lk k ((K,Bx.tree e sz l (Q0.set j (di R f [q2])) o0)::ea K s.bs)=some c:=hc;rw[cr,ib] at hc;split at hc
    ·rename_i e;cases hc;exact ⟨_,e ▸ h1,WB.tcx hj hl (fU h2.2) λhv hp=>.d (hv.jI h2.1) hp⟩
    ·exact ⟨c,hc,WB.refl c⟩
   ·cases h
  ·cases h
 | @tfr Q n x K hn=>
  subst hn;let ⟨b,h1,h⟩:=aj h;split at h
  ·rename_i e sz l Q0;let ⟨h2,h⟩:=aJ h;let ⟨o,h3,h⟩:=aj h;cases h;let ⟨o1,o2⟩:=ho;have e1:=jt o1;subst e1;refine .mk λ{F g J tm h} r=> ?_
   let ⟨F',_,r'⟩:=r.gx (K:=K) (b:=.tree e sz l Q0 []) (D:=UZ x (.tree e sz l Q0 [])) (L:=λ_=>.undef) (sz:=sz) (m:=Q0.length) h1 (hB.no K (by simpa using h2)) (Uw h3 o2) λF' hF hi q=>⟨hF,(FH hF rfl hi q).ms,λv off _=>.undef v⟩
   exact ⟨F',g,J,r'⟩
  ·cases h
 |born ts cs K z e sz=>
  let ⟨h1,h⟩:=aJ (show ay (sy bV s K) (some (s.born ts cs K z e sz,[])) none=some p from h);cases h;let ⟨f1,f2⟩:=wZ hB h1;exact ic.born f1 f2
 |norm ts bs=>cases h;exact ic.norm
 | @seq x y t he=>
  let ⟨x',h1,h⟩:=aj (show au (lk t s.ts) (λx'=>some (⟨(t,y)::ea t s.ts,s.bs⟩,[(x',x)]))=some p from h)
  cases h;have e1:x'=x:=ho.1;subst he;subst e1;refine ic.less (vd.Xq (λk=> ?_) λ_=>rfl)
  show lk k ((t,x')::ea t s.ts)=_;rw[cr,ib];split
  ·rename_i e;rw[e,h1]
  ·rfl
 | @beq x y K he=>
  let ⟨x',h1,h⟩:=aj (show au (lk K s.bs) (λx'=>some (⟨s.ts,(K,y)::ea K s.bs⟩,[(xK x',xK x)]))=some p from h)
  cases h;have e1:x'=x:=Qp ho.1;subst he;subst e1;refine ic.less (vd.Xq (λ_=>rfl) λk=> ?_)
  show lk k ((K,x')::ea K s.bs)=_;rw[cr,ib];split
  ·rename_i e;rw[e,h1]
  ·rfl
 |_=>cases h
abbrev Sc (E:Env):=List (Nat×It E)
def FG (E:Env) (bV:aI):Sc E->LS->List Ob->LS×List Ob×Sc E
 | [],s,o=>(s,o,[])
 |p::l,s,o=>match p.1 with
  |0=>(match XF E bV s p.2 with
   |some q=>FG E bV l q.1 (q.2++o)
   |none=>(s,o,p::l))
  |_+1=>(s,o,p::l)
def J6 {bV:aI} (hB:od bV B):∀(sc:Sc E) (s:LS) (o:List Ob),fI (FG E bV sc s o).2.1->fI o/\ic B s (FG E bV sc s o).1
 | [],s,o,ho=>⟨ho,ic.refl⟩
 |(0,it)::l,s,o,ho=>by
  have e:FG E bV ((0,it)::l) s o=(match XF E bV s it with
   |some q=>FG E bV l q.1 (q.2++o)
   |none=>(s,o,(0,it)::l)):=rfl
  rw[e] at ho ⊢;cases hq:XF E bV s it with
  |some q=>
   rw[hq] at ho;let ⟨h1,h2⟩:=J6 hB l q.1 (q.2++o) ho;let ⟨h3,h4⟩:=qg h1;exact ⟨h4,(auA hB hq h3).trans h2⟩
  |none=>
   rw[hq] at ho;exact ⟨ho,ic.refl⟩
 |(k+1,it)::l,s,o,ho=>⟨ho,ic.refl⟩
def aaY:bH->bH->Option (List Ob)
 | [],[]=>some []
 |p::l,q::m=>ay (Nat.beq p.1 q.1) (au (aaY l m) λo=>some ((xK p.2,xK q.2)::o)) none
 |_,_=>none
def Uy:∀{l m:bH} {o:List Ob},aaY l m=some o->fI o->l=m
 | [],[],_,_,_=>rfl
 | [],_::_,_,h,_=>by cases h
 |_::_,[],_,h,_=>by cases h
 |p::l,q::m,o,h,ho=>by
  let ⟨h1,h⟩:=aJ (show ay (Nat.beq p.1 q.1) (au (aaY l m) λo=>some ((xK p.2,xK q.2)::o)) none=some o from h)
  let ⟨o',h2,h⟩:=aj h;cases h;have e1:p.1=q.1:=(beq_iff _ _).1 h1;have e2:p.2=q.2:=Qp ho.1;rw[Uy h2 ho.2,ET e1 e2]
def ajX (bV:aI) (s:LS):cy->Bool
 | []=>true
 |q::l=>sy bV s q.1&&((lk q.1 s.bs).isNone&&ajX bV s l)
def ahN {bV:aI} (hB:od bV B):∀{rs:cy},ajX bV s rs=true->∀q∈rs,s.free q.1/\B.pk q.1=false/\lk q.1 s.bs=none
 | [],_,q,hq=>by cases hq
 |p::l,h,q,hq=>by
  have h:(sy bV s p.1&&((lk p.1 s.bs).isNone&&ajX bV s l))=true:=h;rw[aY,aY] at h;rcases bB.1 hq with e|hq
  ·subst e;let ⟨f1,f2⟩:=wZ hB h.1;exact ⟨f1,f2,by simpa using h.2.1⟩
  ·exact ahN hB h.2.2 q hq
def unB (bV:aI) (s:LS) (al:cy):cy->Bool
 | []=>true
 |q::l=>ay (lA q.2) true (!Jm bV q.1&&(DG q.1 s.ts&&s.bs.all λp=>kz al p.1|| !ke q.1 p.2.keys))&&unB bV s al l
def anW {bV:aI} (hB:od bV B) {al:cy}:∀{l:cy},unB bV s al l=true->∀q∈l,lA q.2=false->B.pn q.1=false/\(∀t x,lk t s.ts=some x->q.1∉dE x)/\∀k b,lk k s.bs=some b->lk k al=none->q.1∉b.keys
 | [],_,q,hq,_=>by cases hq
 |p::l,h,q,hq,he=>by
  have h:(ay (lA p.2) true (!Jm bV p.1&&(DG p.1 s.ts&&s.bs.all λb=>kz al b.1|| !ke p.1 b.2.keys))&&unB bV s al l)=true:=h
  rw[aY] at h;rcases bB.1 hq with e|hq
  ·subst e;have h1:=h.1;rw[he] at h1;have h1:(!Jm bV q.1&&(DG q.1 s.ts&&s.bs.all λb=>kz al b.1|| !ke q.1 b.2.keys))=true:=h1
   rw[aY,aY] at h1;refine ⟨hB.pn (by simpa using h1.1),Hy h1.2.1,λk b hb hn=> ?_⟩
   have:=(dV.1 h1.2.2) _ (nX hb);rcases (oG _ _).mp this with c|c
   ·let ⟨j,hj⟩:=wj c;rw[hn] at hj;cases hj
   ·exact wP (by simpa using c)
  ·exact anW hB h.2 q hq he
def axo (bV:aI) (ps al:cy):Bool:=al.all λq=>ps.all λq'=>ay (Nat.beq (fN q'.2) (fN q.2)) (acj bV q'.1 q.1) true
def auJ (hB:od bV B) {ps al:cy} (h:axo bV ps al=true):∀q∈al,∀q'∈ps,fN q'.2=fN q.2->∀i,B.ps q'.1 i\/B.nx<=i->B.ps q.1 i\/B.nx<=i:=λq hq q' AJ e=>by
 have:=(dV.1 ((dV.1 h) q hq)) q' AJ;rw[(beq_iff _ _).2 e] at this;exact U2 hB this
def XQ (bV:aI) (s s0:LS) (op:Op) (f:Nat) (bs cC:bH) (xs:aB) (y:AV) (ms:List PM) (ps rs:cy):Option (bH×AV×List Ob):=
 au (ir op) λc=>(match c.callee with
  | .value o=>(match bM s.ts o with
   | .fn f' fi ca=>ay (Nat.beq f' f&&(jS (jw s.ts c.args.toList)&&(tv (ps++rs)&&(ti s0.bs (ps++rs) ps ps&&(lO ps (eW (fi++jw s.ts c.args.toList++ca))&&(ajX bV s0 rs&&(A8 ps cC (ps++rs) (ps++rs)&&(lO (oi (ps++rs)) (dE y)&&(unB bV s0 (ps++rs) ps&&axo bV ps (ps++rs))))))))))
    (bE (te s0.bs (ps++rs) ps) (G1 cC (ps++rs) (ps++rs)) λb ob=>au (aaY b bs) λo=>some (ob,nw (jU (ps++rs)) y,(.agg (My ms (l3 (oD (ps++rs)) (fi++jw s.ts c.args.toList++ca))),.agg xs)::o)) none
   |_=>none)
  |_=>none)
def Qn {op:Op} {ms:List PM} {ps rs:cy} (hB:od bV B) (h:XQ bV s s0 op f bs cC xs y ms ps rs=some q) (ho:fI q.2.2) (hC:xV E f bs xs y cC w):
  ∃c o fi ca,ir op=some c/\c.callee= .value o/\bM s.ts o= .fn f fi ca/\jS (jw s.ts c.args.toList)=true/\tv (ps++rs)=true/\te s0.bs (ps++rs) ps=some bs/\ti s0.bs (ps++rs) ps ps=true/\lO ps (eW (fi++jw s.ts c.args.toList++ca))=true/\(∀q∈rs,s0.free q.1/\B.pk q.1=false/\lk q.1 s0.bs=none)/\
   (∀q∈ps,lA q.2=false->B.pn q.1=false/\(∀t x,lk t s0.ts=some x->q.1∉dE x)/\∀k b,lk k s0.bs=some b->lk k (ps++rs)=none->q.1∉b.keys)/\(∀q∈ps++rs,∀q'∈ps,fN q'.2=fN q.2->∀i,B.ps q'.1 i\/B.nx<=i->B.ps q.1 i\/B.nx<=i)/\
   xV E f bs (l3 (oD (ps++rs)) (fi++jw s.ts c.args.toList++ca)) y cC w/\G1 cC (ps++rs) (ps++rs)=some q.1/\A8 ps cC (ps++rs) (ps++rs)=true/\lO (oi (ps++rs)) (dE y)=true/\q.2.1=nw (jU (ps++rs)) y:=by
 unfold XQ at h;let ⟨c,h1,h⟩:=aj h;split at h
 ·rename_i o hc;split at h
  ·rename_i f' fi ca hf;let ⟨h2,h⟩:=aJ h;let ⟨b,ob,h3,h4,h⟩:=bc h;let ⟨o',h5,h⟩:=aj h;cases h;simp only[aY] at h2;let ⟨k1,k2,k3,k4,k5,k6,k7,k8,k9,k10⟩:=h2;have e1:f'=f:=(beq_iff _ _).1 k1;subst e1;let ⟨o1,o2⟩:=ho;have e2:=Uy h5 o2;subst e2;have e3:My ms (l3 (oD (ps++rs)) (fi++jw s.ts c.args.toList++ca))=xs:=by
    have:=o1;simpa using this
   exact ⟨c,o,fi,ca,h1,hc,hf,k2,k3,h3,k4,k5,ahN hB k6,anW hB k9,auJ hB k10,.mk λdK has=>hC.go dK (e3 ▸ Oj has),h4,k7,k8,rfl⟩
  ·cases h
 ·cases h
def acF (s:LS) (op:Op) (f:Nat) (bs:bH) (xs:aB) (y:AV) (ms:List PM) (ps:cy):Option (AV×List Ob):=
 au (ir op) λc=>(match c.callee with
  | .value o=>(match bM s.ts o with
   | .fn f' fi ca=>ay (Nat.beq f' f&&(jS (jw s.ts c.args.toList)&&(tv (ps++ [])&&(ti s.bs (ps++ []) ps ps&&lO ps (eW (fi++jw s.ts c.args.toList++ca))))))
    (au (te s.bs (ps++ []) ps) λb=>au (aaY b bs) λo=>some (nw (jU (ps++ [])) y,(.agg (My ms (l3 (oD (ps++ [])) (fi++jw s.ts c.args.toList++ca))),.agg xs)::o)) none
   |_=>none)
  |_=>none)
def agz {op:Op} {ms:List PM} {ps:cy} {q:AV×List Ob} (h:acF s op f bs xs y ms ps=some q) (ho:fI q.2) (hC:MZ E f bs xs y):
  ∃c o fi ca,ir op=some c/\c.callee= .value o/\bM s.ts o= .fn f fi ca/\jS (jw s.ts c.args.toList)=true/\tv (ps++ [])=true/\te s.bs (ps++ []) ps=some bs/\ti s.bs (ps++ []) ps ps=true/\lO ps (eW (fi++jw s.ts c.args.toList++ca))=true/\
   MZ E f bs (l3 (oD (ps++ [])) (fi++jw s.ts c.args.toList++ca)) y/\q.1=nw (jU (ps++ [])) y:=by
 unfold acF at h;let ⟨c,h1,h⟩:=aj h;split at h
 ·rename_i o hc;split at h
  ·rename_i f' fi ca hf;let ⟨h2,h⟩:=aJ h;let ⟨b,h3,h⟩:=aj h;let ⟨o',h5,h⟩:=aj h;cases h;simp only[aY] at h2;let ⟨k1,k2,k3,k4,k5⟩:=h2;have e1:f'=f:=(beq_iff _ _).1 k1;subst e1;let ⟨o1,o2⟩:=ho;have e2:=Uy h5 o2;subst e2;have e3:My ms (l3 (oD (ps++ [])) (fi++jw s.ts c.args.toList++ca))=xs:=by
    have:=o1;simpa using this
   exact ⟨c,o,fi,ca,h1,hc,hf,k2,k3,h3,k4,k5,.mk λdK has=>hC.go dK (e3 ▸ Oj has),rfl⟩
  ·cases h
 ·cases h
abbrev yZ (E:Env):=Option (LS×List Ob×Sc E)
def NK (E:Env) (bV:aI) (p:Oper) (s:LS) (sc:Sc E) (o:List Ob) (ih:LS->Sc E->List Ob->yZ E):yZ E:=
 ay (Fe p.op) (au (zx E bV s p.op p.dst) λr=>ih (r.1.cM p.dst r.2.1).tidy sc (r.2.2.2++o)) none
def TY (E:Env) (bV:aI) (p:Oper) (s:LS) (it:It E) (sc:Sc E) (o:List Ob) (ih:LS->Sc E->List Ob->yZ E):yZ E:=
 match it with
 | @It.call _ f bs cC xs y w _ ms ps rs=>au (XQ bV s (LS.Bc (kz (ps++rs)) (BO ps) s) p.op f bs cC xs y ms ps rs) λq=>ih (LS.cM ⟨(LS.Bc (kz (ps++rs)) (BO ps) s).ts,q.1++(LS.Bc (kz (ps++rs)) (BO ps) s).bs⟩ p.dst q.2.1).tidy sc (q.2.2++o)
 |it=>ay (Fe p.op) (au (ajF E bV s p.op p.dst it) λr=>ih (r.1.cM p.dst r.2.1).tidy sc (r.2.2.2++o)) none
def ahM (E:Env) (bV:aI) (p:Oper) (s:LS) (sc:Sc E) (o:List Ob) (ih:LS->Sc E->List Ob->yZ E):yZ E:=
 match sc with
 | []=>NK E bV p s [] o ih
 |q::l=>(match q.1 with
  |0=>TY E bV p s q.2 l o ih
  |k+1=>NK E bV p s ((k,q.2)::l) o ih)
def ajV (E:Env) (nt:Nat) (bV:aI) (all:bS) (p:Oper) (ih:LS->Sc E->List Ob->yZ E) (q:LS×List Ob×Sc E):yZ E:=
 ay (fS nt p.dst) (au (qL all p q.1.ts) λw=>ay w (ahM E bV p q.1 q.2.2 q.2.1 ih) (ih (q.1.cM p.dst (.cm [])).tidy q.2.2 q.2.1)) none
def aab (E:Env) (nt:Nat) (bV:aI) (all:bS):bS->LS->Sc E->List Ob->yZ E
 | []=>λs sc o=>some (s,o,sc)
 |p::l=>λs sc o=>ajV E nt bV all p (aab E nt bV all l) (FG E bV sc s o)
def QC (E:Env) (nt:Nat) (B:Bs) (all l:bS) (ih:LS->Sc E->List Ob->yZ E):Prop:=
 ∀s sc o r,ih s sc o=some r->fI r.2.1->fI o/\ou E nt B all l s r.1
def Nc {sc:Sc E} {o:List Ob} {ih:LS->Sc E->List Ob->yZ E} {r:LS×List Ob×Sc E} (hB:od bV B) (l9:QC E nt B all l ih) (hd:fS nt p.dst=true) (hw:qL all p s.ts=some true) (h:NK E bV p s sc o ih=some r) (ho:fI r.2.1):fI o/\ou E nt B all (p::l) s r.1:=by
 let ⟨h1,h⟩:=aJ h;let ⟨q,h2,h⟩:=aj h;let ⟨k1,k2⟩:=l9 _ _ _ _ h ho;let ⟨k3,k4⟩:=qg k1;exact ⟨k4,.op hd hw h1 (Dh hB h2 k3) (.ghost (ic.less LS.Dc) k2)⟩
def ajW {it:It E} {sc:Sc E} {o:List Ob} {ih:LS->Sc E->List Ob->yZ E} {r:LS×List Ob×Sc E} (hB:od bV B) (l9:QC E nt B all l ih) (hd:fS nt p.dst=true) (hw:qL all p s.ts=some true) (h:TY E bV p s it sc o ih=some r) (ho:fI r.2.1):fI o/\ou E nt B all (p::l) s r.1:=by
 unfold TY at h;split at h
 ·rename_i f bs cC xs y w hC ms ps rs;let ⟨q,h2,h⟩:=aj h;let ⟨k1,k2⟩:=l9 _ _ _ _ h ho;let ⟨k3,k4⟩:=qg k1;let ⟨c,w,fi,ca,c1,c2,c3,c4,c5,c6,c7,c8,c9,c10,c11,c12,c13,c14,c15,c16⟩:=Qn hB h2 k3 hC;exact ⟨k4,.call (λr=>Kc _ _ r) hd hw c1 c2 c3 rfl c4 c5 c6 c7 c8 c9 c10 c11 c12 c13 c14 c15 (.ghost (ic.less LS.Dc) (c16 ▸ k2))⟩
 ·let ⟨h1,h⟩:=aJ h;let ⟨q,h2,h⟩:=aj h;let ⟨k1,k2⟩:=l9 _ _ _ _ h ho;let ⟨k3,k4⟩:=qg k1;exact ⟨k4,.op hd hw h1 (YP hB h2 k3) (.ghost (ic.less LS.Dc) k2)⟩
def asJ {ih:LS->Sc E->List Ob->yZ E} (hB:od bV B) (l9:QC E nt B all l ih):QC E nt B all (p::l) (λs sc o=>ajV E nt bV all p ih (FG E bV sc s o)):=by
 intro s sc o r h ho;have key:∀q:LS×List Ob×Sc E,ajV E nt bV all p ih q=some r->fI q.2.1/\ou E nt B all (p::l) q.1 r.1:=λq h=>by
  let ⟨hd,h⟩:=aJ h;let ⟨w,hw,h⟩:=aj h;rw[bk] at h;split at h
  ·rename_i e;subst e;unfold ahM at h;split at h
   ·exact Nc hB l9 hd hw h ho
   ·split at h
    ·exact ajW hB l9 hd hw h ho
    ·exact Nc hB l9 hd hw h ho
  ·rename_i e;have e:w=false:=by simpa using e
   subst e;let ⟨k1,k2⟩:=l9 _ _ _ _ h ho;exact ⟨k1,.skip hd hw (.ghost (ic.less LS.Dc) k2)⟩
 let ⟨k1,k2⟩:=key _ h;let ⟨k3,k4⟩:=J6 hB sc s o k1;exact ⟨k3,.ghost k4 k2⟩
def VN {bV:aI} (hB:od bV B):∀l:bS,QC E nt B all l (aab E nt bV all l)
 | []=>λs sc o r h ho=>by
  have h:some (s,o,sc)=some r:=h;cases h;exact ⟨ho,.nil⟩
 |p::l=>asJ hB (VN hB l)
end
section
variable {F F':Hf} {g g':Gb} {B:Bs} {J:cS} {s s' s1:LS} {tm:cq} {h:Hs} {hp:Hf} {E:Env} {nt:Nat}
variable {W cur nc M:Nat} {vs zn:List LS} {laid:cy} {j8:List PI} {all l:bS} {o:Oper}
variable {wk:aI}
def DR.same {tm:Tf} (D:DR B base W cur nc vs laid pp g J Fs lim tm h) (hl:zn.length=vs.length) (hs:∀(j:Nat) (s':LS),zn[j]? =some s'->∃s,vs[j]? =some s/\(∀t,lk t s'.ts=lk t s.ts)/\∀k,lk k s'.bs=lk k s.bs):DR B base W cur nc zn laid pp g J Fs lim tm h:=by
 refine {D with r:=λj s hj=> ?_,up:=λj j' s s' hle h1 h2=> ?_,fb:=λj s hj=> ?_,bb:=λj s hj k b hb=> ?_,lm:=λj s hj=> ?_,top:=hl.trans D.top,pi:=λq hq=> ?_,pr:=λq hq j s hj k b hb=> ?_,pf:=λq hq i hi j s hj=> ?_}
 ·let ⟨s0,a,b,c⟩:=hs j s hj;exact (D.r j s0 a).less (vd.Xq b c)
 ·let ⟨s0,a,b,c⟩:=hs j s h1;let ⟨AD,a',b',c'⟩:=hs j' s' h2;let ⟨u1,u2⟩:=D.up j j' s0 AD hle a a';exact ⟨u1,λk b0 hb=>by rw[c'];exact u2 k b0 (by rw[<-c];exact hb)⟩
 ·let ⟨s0,a,_,_⟩:=hs j s hj;exact D.fb j s0 a
 ·let ⟨s0,a,_,c⟩:=hs j s hj;exact D.bb j s0 a k b (by rw[<-c];exact hb)
 ·let ⟨s0,a,_,_⟩:=hs j s hj;exact D.lm j s0 a
 ·let ⟨p1,p2,p3,p4,p5⟩:=D.pi q hq;refine ⟨p1,p2,p3,p4,λhn=> ?_⟩
  let ⟨q1,q2,q3,q4⟩:=p5 hn;refine ⟨q1,q2,q3,λj s hj bD=> ?_⟩
  let ⟨s0,a,_,_⟩:=hs j s hj;exact q4 j s0 a bD
 ·let ⟨s0,a,_,c⟩:=hs j s hj;exact D.pr q hq j s0 a k b (by rw[<-c];exact hb)
 ·let ⟨s0,a,_,_⟩:=hs j s hj;exact D.pf q hq i hi j s0 a
def gT.tidy (hl:gT E nt B all W cur nc M (vs.map LS.tidy) laid j8 l s'):gT E nt B all W cur nc M vs laid j8 l s':=λ{base pp g J Fs lim tm h} hp D=>hl hp (D.same (iz _) λj s' hj=>by
 rw[kK] at hj;let ⟨s0,a,b⟩:=kP.1 hj;subst b;exact ⟨s0,a,λt=>abg t _,λk=>UC k _⟩)
structure xU where
 cur:Nat
 nc:Nat
 M:Nat
 vs:List LS
 laid:cy
 j8:List PI
def Cf (m nc:Nat):List PI->Nat
 | []=>nc
 |p::l=>ay (jQ m p.i) (Cf m nc l) (match p.n with|0=>Cf m nc l|n+1=>ay (Nat.ble n (Cf m nc l)) n (Cf m nc l))
def Pp (a b:aI):Bool:=a.all λk=> !ke k b
def JK (v m:Nat) (rk wk:aI) (call wn:Bool) (p:PI):Bool:=
 ay (jQ m p.i) true ((Nat.beq p.n 0||(Nat.ble (Nat.succ v) p.n&&(!call&&wn)))&&((!call||p.wn)&&(Pp wk p.rk&&(Pp wk p.wk&&Pp rk p.wk))))
def Jv {a b:aI} (h:Pp a b=true):∀k∈a,k∉b:=λk hk hb=>by
 have:=dV.1 h k hk;rw[(qx k b).2 hb] at this;cases this
def JJ {v:Nat} {call wn:Bool} {p:PI} (h:JK v m rk wk call wn p=true):D9 v m rk wk call wn p:=by
 unfold JK at h;rw[bk] at h;split at h
 ·rename_i hb;exact .inl hb
 ·right;simp only[aY,oG,Sw] at h;let ⟨h1,h2,h3,h4,h5⟩:=h;refine ⟨λhn=> ?_,λhc=> ?_,λk hk=>⟨Jv h3 k hk,Jv h4 k hk⟩,Jv h5⟩
  ·rcases h1 with h1|⟨h1,h6,h7⟩
   ·exact absurd ((beq_iff _ _).1 h1) hn
   ·exact ⟨fU h1,h6,h7⟩
  ·rcases h2 with h2|h2
   ·rw[hc] at h2;cases h2
   ·exact h2
def laidB (m:Nat) (ks:aI) (laid:cy):Bool:=laid.all λq=> !ke q.1 ks||jQ m q.2
def NW {laid:cy} (h:laidB m ks laid=true):∀k j,k∈ks->(k,j)∈laid->jQ m j=true:=λk j hk hj=>by
 have:=dV.1 h (k,j) hj;simp only[oG,Sw] at this;rcases this with c|c
 ·rw[(qx k ks).2 hk] at c;cases c
 ·exact c
def wkB (a b:WK):Bool:=
 match a,b with
 |none,none=>true
 |some p,some q=>Nat.beq p.1 q.1&&(p.2==q.2)
 |_,_=>false
def aCd {a b:WK} (h:wkB a b=true):a=b:=by
 unfold wkB at h;split at h
 ·rfl
 ·rw[aY] at h;have e1:=(beq_iff _ _).1 h.1;have e2:=wE.1 h.2;rw[ET e1 e2]
 ·cases h
def xn (f:LS->Option jO) (x:AV) (Wk:WK) (d:da):List LS->Nat->Option (List LS×List Ob)
 | []=>λ_=>some ([],[])
 |s::l=>λv=>(match v with
  |0=>bE (f s) (xn f x Wk d l 0) λr q=>ay (wkB r.2.2.1 Wk) (some (r.1.cM d x::q.1,(r.2.1,x)::(r.2.2.2++q.2))) none
  |v+1=>au (xn f x Wk d l v) λq=>some ((s.Ba Wk).cM d .undef::q.1,q.2))
def UB {op:Op} {f:LS->Option jO} {x:AV} {Wk:WK} {d:da} (hf:∀s r,f s=some r->l5 E B op s r):∀{vs:List LS} {v:Nat} {q:List LS×List Ob},xn f x Wk d vs v=some q->fI q.2->q.1.length=vs.length/\(∀(j:Nat) (s:LS),vs[j]? =some s->v<=j->∃t,q.1[j]? =some (t.cM d x)/\bX E B op s t x Wk)/\∀(j:Nat) (s:LS),vs[j]? =some s->j<v->q.1[j]? =some ((s.Ba Wk).cM d .undef)
 | [],v,q,h,_=>by
  have h:some ([],[])=some q:=h;cases h;exact ⟨rfl,λj s hj=>by simp at hj,λj s hj=>by simp at hj⟩
 |s::l,0,q,h,ho=>by
  let ⟨r,q',h1,h2,h⟩:=bc (show bE (f s) (xn f x Wk d l 0) (λr q=>ay (wkB r.2.2.1 Wk) (some (r.1.cM d x::q.1,(r.2.1,x)::(r.2.2.2++q.2))) none)=some q from h)
  let ⟨h3,h⟩:=aJ h;cases h;let ⟨o1,o2⟩:=ho;let ⟨o3,o4⟩:=qg o2;let ⟨i1,i2,i3⟩:=UB hf h2 o4;refine ⟨by simp[i1],λj s' hj hle=> ?_,λj s' hj bD=>by omega⟩
  cases j with
  |zero=>
   have e:s=s':=by simpa using hj
   subst e;refine ⟨r.1,rfl,?_⟩;have:=hf s r h1 o3;have e1:r.2.1=x:=o1;rw[e1,aCd h3] at this;exact this
  |succ j=>exact i2 j s' (by simpa using hj) (pU _)
 |s::l,v+1,q,h,ho=>by
  let ⟨q',h2,h⟩:=aj (show au (xn f x Wk d l v) (λq=>some ((s.Ba Wk).cM d .undef::q.1,q.2))=some q from h)
  cases h;let ⟨i1,i2,i3⟩:=UB hf h2 ho;refine ⟨by simp[i1],λj s' hj hle=> ?_,λj s' hj bD=> ?_⟩
  ·cases j with
   |zero=>omega
   |succ j=>exact i2 j s' (by simpa using hj) (by omega)
  ·cases j with
   |zero=>
    have e:s=s':=by simpa using hj
    subst e;rfl
   |succ j=>exact i3 j s' (by simpa using hj) (by omega)
abbrev ve (E:Env):=Option (LS×List Ob×Sc E)
def amk (W:Nat) (o:Oper) (d:xU) (sc:Sc E) (ob:List Ob) (f:LS->Option jO) (ih:xU->Sc E->List Ob->ve E):ve E:=
 au (d.vs[Cf (fw W d.M o) d.nc d.j8]?) λsl=>bE (f sl) (Ft sl.ts sl.bs o.op) λr rk=>
  ay (laidB (fw W d.M o) (rk++vJ r.2.2.1) d.laid&&d.j8.all (JK (Cf (fw W d.M o) d.nc d.j8) (fw W d.M o) rk (vJ r.2.2.1) false (IQ r.2.2.1)))
   (au (xn f r.2.1 r.2.2.1 o.dst d.vs (Cf (fw W d.M o) d.nc d.j8)) λq=>ih ⟨Nat.succ d.cur,d.nc,uB W d.M d.cur (fw W d.M o),q.1.map LS.tidy,Xx r.2.2.1 d.cur d.laid,⟨d.cur,0,rk,vJ r.2.2.1,IQ r.2.2.1⟩::d.j8⟩ sc (q.2++ob)) none
def acD (K:Nat) (laid:cy) (j8:List PI):Bool:=(laid.all λq=> !Nat.beq q.1 K)&&j8.all λp=> !ke K p.rk && !ke K p.wk
def aww (w:aI) (ps al laid:cy) (j8:List PI):Bool:=al.all λq=>ps.all λq'=>ay (Nat.beq (fN q'.2) (fN q.2)) (ay (Nat.beq q'.1 q.1) true (ay (ke q'.1 (qG w ps)) (ke q.1 (qG w ps)) true&&acD q'.1 laid j8)) true
def arf {laid:cy} {j8:List PI} (h:acD K laid j8=true):(∀j,(K,j)∉laid)/\∀p∈j8,K∉p.rk/\K∉p.wk:=by
 have h:=qZ.1 (show ((laid.all λq=> !Nat.beq q.1 K)&&j8.all λp=> !ke K p.rk && !ke K p.wk)=true from h)
 refine ⟨λj hj=> ?_,λp hp=> ?_⟩
 ·have:=(dV.1 h.1) _ hj;rw[show Nat.beq (K,j).1 K=true from (beq_iff _ _).2 rfl] at this;cases this
 ·have:=(dV.1 h.2) p hp;rw[aY] at this;exact ⟨wP (by simpa using this.1),wP (by simpa using this.2)⟩
def atk {ps al laid:cy} {j8:List PI} (h:aww w ps al laid j8=true):∀q∈al,∀q'∈ps,fN q'.2=fN q.2->q'.1=q.1\/((q'.1∈qG w ps->q.1∈qG w ps)/\(∀j,(q'.1,j)∉laid)/\∀p∈j8,q'.1∉p.rk/\q'.1∉p.wk):=λq hq q' AJ e=>by
 have:=(dV.1 ((dV.1 h) q hq)) q' AJ;rw[(beq_iff _ _).2 e] at this;have this:ay (Nat.beq q'.1 q.1) true (ay (ke q'.1 (qG w ps)) (ke q.1 (qG w ps)) true&&acD q'.1 laid j8)=true:=this;rw[bk] at this;split at this
 ·rename_i e;exact .inl ((beq_iff _ _).1 e)
 ·rw[aY] at this;refine .inr ⟨λhm=> ?_,arf this.2⟩
  have h1:=this.1;rw[(qx _ _).2 hm] at h1;exact (qx _ _).1 h1
def aqV {p:Nat->Bool} {s:LS} (k:Nat):(∃b,lk k (s.Mn p K).bs=some b)↔∃b,lk k s.bs=some b:=by
 have key:∀l:bH,(∃b,lk k (l.map λq=>(q.1,ay (p q.1) q.2 (q.2.fa K)))=some b)↔∃b,lk k l=some b:=λl=>by
  induction l with
  |nil=>exact Iff.rfl
  |cons q l ih=>
   rw[fM,cr,show q::l=(q.1,q.2)::l from rfl,cr];by_cases hk:k=q.1
   ·rw[ax hk,ax hk];exact ⟨λ_=>⟨_,rfl⟩,λ_=>⟨_,rfl⟩⟩
   ·rw[aA hk,aA hk];exact ih
 exact key s.bs
def Wa {p:Nat->Bool}:∀{l:aI} {s:LS} (k:Nat),(∃b,lk k (LS.Bc p l s).bs=some b)↔∃b,lk k s.bs=some b
 | [],_,_=>Iff.rfl
 |K::l,s,k=>(Wa (l:=l) (s:=s.Mn p K) k).trans (aqV k)
def amj (E:Env) (bV:aI) (W:Nat) (o:Oper) (d:xU) (st:LS) (it:It E) (sc:Sc E) (ob:List Ob) (ih:xU->Sc E->List Ob->ve E):ve E:=
 match it with
 | @It.call _ f bs cC xs y w _ ms ps rs=>ay (aww w ps (ps++rs) d.laid d.j8&&laidB (fw W d.M o) (ps.map (·.1)) d.laid&&d.j8.all (JK d.nc (fw W d.M o) [] (qG w ps) true false))
   (au (XQ bV st (LS.Bc (kz (ps++rs)) (BO ps) st) o.op f bs cC xs y ms ps rs) λq=>ih ⟨Nat.succ d.cur,Nat.succ d.nc,uB W d.M d.cur (fw W d.M o),((d.vs.map λs=>(s.zd ps rs).cM o.dst .undef)++ [LS.cM ⟨(LS.Bc (kz (ps++rs)) (BO ps) st).ts,q.1++(LS.Bc (kz (ps++rs)) (BO ps) st).bs⟩ o.dst q.2.1]).map LS.tidy,d.laid,⟨d.cur,Nat.succ d.nc,[],qG w ps,false⟩::d.j8⟩ sc (q.2.2++ob)) none
 | @It.DP _ f bs xs y _ ms ps=>ay (laidB (fw W d.M o) (ps.map (·.1)) d.laid&&d.j8.all (JK d.nc (fw W d.M o) [] [] true true))
   (au (acF st o.op f bs xs y ms ps) λq=>ih ⟨Nat.succ d.cur,Nat.succ d.nc,uB W d.M d.cur (fw W d.M o),((d.vs.map λs=>s.cM o.dst .undef)++ [st.cM o.dst q.1]).map LS.tidy,d.laid,⟨d.cur,Nat.succ d.nc,[],[],true⟩::d.j8⟩ sc (q.2++ob)) none
 |it=>ay (ir o.op).isNone (amk W o d sc ob (λs=>ajF E bV s o.op o.dst it) ih) none
def ami (E:Env) (bV:aI) (W:Nat) (o:Oper) (d:xU) (sc:Sc E) (ob:List Ob) (ih:xU->Sc E->List Ob->ve E):ve E:=ay (ir o.op).isNone (amk W o d sc ob (λs=>zx E bV s o.op o.dst) ih) none
def axU (E:Env) (bV:aI) (W:Nat) (o:Oper) (d:xU) (st:LS) (sc:Sc E) (ob:List Ob) (ih:xU->Sc E->List Ob->ve E):ve E:=
 match sc with
 | []=>ami E bV W o d [] ob ih
 |q::l=>(match q.1 with
  |0=>amj E bV W o d st q.2 l ob ih
  |k+1=>ami E bV W o d ((k,q.2)::l) ob ih)
def axV (E:Env) (nt:Nat) (bV:aI) (all:bS) (W:Nat) (o:Oper) (d:xU) (sc:Sc E) (ob:List Ob) (ih:xU->Sc E->List Ob->ve E):ve E:=
 ay (Nat.ble (Nat.succ d.cur) W&&(fS nt o.dst&&nj d.cur (jv o))) (au (d.vs[d.nc]?) λst=>au (qL all o st.ts) λw=>
  ay w (axU E bV W o d st sc ob ih) (ih ⟨Nat.succ d.cur,d.nc,uB W d.M d.cur (fw W d.M o),(d.vs.map λs=>s.cM o.dst (.cm [])).map LS.tidy,d.laid,⟨d.cur,0,[],[],true⟩::d.j8⟩ sc ob)) none
def U6 (E:Env) (nt:Nat) (bV:aI) (all:bS) (W:Nat):bS->xU->Sc E->List Ob->ve E
 | []=>λd sc ob=>au (d.vs[d.nc]?) λs=>some (s,ob,sc)
 |o::l=>λd sc ob=>axV E nt bV all W o d sc ob (U6 E nt bV all W l)
def Gv (E:Env) (nt:Nat) (B:Bs) (all:bS) (W:Nat) (l:bS) (ih:xU->Sc E->List Ob->ve E):Prop:=
 ∀d sc o r,ih d sc o=some r->fI r.2.1->fI o/\gT E nt B all W d.cur d.nc d.M d.vs d.laid d.j8 l r.1
def acv {f:LS->Option jO} {d:xU} {sc:Sc E} {ih:xU->Sc E->List Ob->ve E} {r:LS×List Ob×Sc E} (l9:Gv E nt B all W l ih) (hf:∀s r,f s=some r->l5 E B o.op s r) (hc:ir o.op=none) (iT:d.cur<W) (hd:(fS nt o.dst&&nj d.cur (jv o))=true) (ig:d.vs[d.nc]? =some st) (hw:qL all o st.ts=some true) (h:amk W o d sc ob f ih=some r) (ho:fI r.2.1):fI ob/\gT E nt B all W d.cur d.nc d.M d.vs d.laid d.j8 (o::l) r.1:=by
 let ⟨sl,h1,h⟩:=aj h;let ⟨r0,rk,h2,h3,h⟩:=bc h;let ⟨h4,h⟩:=aJ h;let ⟨q,h5,h⟩:=aj h;let ⟨k1,k2⟩:=l9 _ _ _ _ h ho;let ⟨k3,k4⟩:=qg k1;let ⟨m1,m2,m3⟩:=UB hf h5 k3;rw[aY] at h4;refine ⟨k4,gT.op iT hd ig hw hc h1 m1 m2 m3 h3 (λk j hk hj=>NW h4.1 k j (ee.2 hk) hj) (λp hp=>JJ (dV.1 h4.2 p hp)) (gT.tidy k2)⟩
def auY {d:xU} {it:It E} {sc:Sc E} {ih:xU->Sc E->List Ob->ve E} {r:LS×List Ob×Sc E} (hB:od bV B) (l9:Gv E nt B all W l ih) (iT:d.cur<W) (hd:(fS nt o.dst&&nj d.cur (jv o))=true) (ig:d.vs[d.nc]? =some st) (hw:qL all o st.ts=some true) (h:amj E bV W o d st it sc ob ih=some r) (ho:fI r.2.1):fI ob/\gT E nt B all W d.cur d.nc d.M d.vs d.laid d.j8 (o::l) r.1:=by
 unfold amj at h;split at h
 ·rename_i f bs cC xs y w hC ms ps rs;let ⟨h4,h⟩:=aJ h;let ⟨q,h2,h⟩:=aj h;let ⟨k1,k2⟩:=l9 _ _ _ _ h ho;let ⟨k3,k4⟩:=qg k1;let ⟨c,w,fi,ca,c1,c2,c3,c4,c5,c6,c7,c8,c9,c10,c11,c12,c13,c14,c15,c16⟩:=Qn hB h2 k3 hC;rw[aY,aY] at h4;have l2:=atk h4.1.1;refine ⟨k4,gT.call (λr=>Kc _ _ r) Wa iT hd ig hw c1 c2 c3 rfl c4 c5 c6 c7 c8 c9 c10 l2 c11 c12 c13 c14 c15 (NW h4.1.2) (λp hp=>JJ (dV.1 h4.2 p hp)) (gT.tidy (c16 ▸ k2))⟩
 ·rename_i f bs xs y hC ms ps;let ⟨h4,h⟩:=aJ h;let ⟨q,h2,h⟩:=aj h;let ⟨k1,k2⟩:=l9 _ _ _ _ h ho;let ⟨k3,k4⟩:=qg k1;let ⟨c,w,fi,ca,c1,c2,c3,c4,c5,c6,c7,c8,c12,c16⟩:=agz h2 k3 hC;rw[aY] at h4;refine ⟨k4,gT.DP iT hd ig hw c1 c2 c3 rfl c4 c5 c6 c7 c8 c12 (NW h4.1) (λp hp=>JJ (dV.1 h4.2 p hp)) (gT.tidy (c16 ▸ k2))⟩
 ·let ⟨h1,h⟩:=aJ h;exact acv l9 (λs r hr=>YP hB hr) (by simpa using h1) iT hd ig hw h ho
def acu {d:xU} {sc:Sc E} {ih:xU->Sc E->List Ob->ve E} {r:LS×List Ob×Sc E} (hB:od bV B) (l9:Gv E nt B all W l ih) (iT:d.cur<W) (hd:(fS nt o.dst&&nj d.cur (jv o))=true) (ig:d.vs[d.nc]? =some st) (hw:qL all o st.ts=some true) (h:ami E bV W o d sc ob ih=some r) (ho:fI r.2.1):fI ob/\gT E nt B all W d.cur d.nc d.M d.vs d.laid d.j8 (o::l) r.1:=by
 let ⟨h1,h⟩:=aJ h;exact acv l9 (λs r hr=>Dh hB hr) (by simpa using h1) iT hd ig hw h ho
def auX {ih:xU->Sc E->List Ob->ve E} (hB:od bV B) (l9:Gv E nt B all W l ih):Gv E nt B all W (o::l) (λd sc ob=>axV E nt bV all W o d sc ob ih):=by
 intro d sc ob r h ho;let ⟨h1,h⟩:=aJ h;let ⟨st,ig,h⟩:=aj h;let ⟨w,hw,h⟩:=aj h;rw[aY] at h1;have iT:d.cur<W:=fU h1.1;rw[bk] at h;split at h
 ·rename_i e;subst e;unfold axU at h;split at h
  ·exact acu hB l9 iT h1.2 ig hw h ho
  ·split at h
   ·exact auY hB l9 iT h1.2 ig hw h ho
   ·exact acu hB l9 iT h1.2 ig hw h ho
 ·rename_i e;have e:w=false:=by simpa using e
  subst e;let ⟨k1,k2⟩:=l9 _ _ _ _ h ho;exact ⟨k1,gT.skip iT h1.2 ig hw (gT.tidy k2)⟩
def Qe {bV:aI} (hB:od bV B):∀l:bS,Gv E nt B all W l (U6 E nt bV all W l)
 | []=>λd sc o r h ho=>by
  let ⟨s,h1,h⟩:=aj (show au (d.vs[d.nc]?) (λs=>some (s,o,sc))=some r from h)
  cases h;exact ⟨ho,gT.nil h1⟩
 |o::l=>auX hB (Qe hB l)
end
section
variable {F F':Hf} {g g':Gb} {B:Bs} {J:cS} {s s' s1:LS} {E:Env} {nt:Nat}
variable {o:List Ob} {Y:Type}
def Di:Code->Nat->Code
 | .seq a _,0=>a
 | .seq _ b,_=>b
 | .cond _ a _,0=>a
 | .cond _ _ b,_=>b
 | .block _ c,_=>c
 | .loop c,_=>c
 |_,_=>.skip
def vX (c:Code):aI->Code
 | []=>c
 |i::p=>Di (vX c p) i
inductive KP where
 |code (p:aI) (c:Code)|block (id:Nat)|loop (p:aI) (c:Code)
def KP.ki:KP->KI
 | .code _ c=>.code c
 | .block id=>.block id
 | .loop _ c=>.loop c
def lM (c:Code):aI->List KP
 | []=> []
 |i::p=>
  match vX c p with
  | .seq _ b=>(match i with|0=>.code (1::p) b::lM c p|_=>lM c p)
  | .block id _=>.block id::lM c p
  | .loop b=>.loop p b::lM c p
  |_=>lM c p
structure Fx (E:Env) where
 fn:Func
 code:Code
 bV:aI
 outs:aI
inductive Md where
 |dK (c:Code) (p:aI) (nD:Bool)|out (e:Ex)
inductive Stop where
 |at (p:aI) (s:LS)|ret (y:AV) (bs:bH)
abbrev D5:=List (aI×List (Nat×PM)×List (Nat×PB))
def eqP:aI->aI->Bool
 | []=>λq=>(match q with| []=>true|_=>false)
 |a::p=>λq=>(match q with| []=>false|b::q=>ay (Nat.beq a b) (eqP p q) false)
def ace (p:aI):D5->Option (List (Nat×PM)×List (Nat×PB))
 | []=>none
 |x::l=>ay (eqP x.1 p) (some x.2) (ace p l)
def L7 (s:LS):List (Nat×PM)->dd
 | []=> []
 |q::l=>(q.1,q.2.app (Dj (lk q.1 s.ts)))::L7 s l
def Pk (s:LS):List (Nat×PB)->Option bH
 | []=>some []
 |q::l=>bE (lk q.1 s.bs) (Pk s l) λb r=>some ((q.1,q.2.app b)::r)
def Pg {t:Nat} {y:AV}:∀{l:List (Nat×PM)},lk t (L7 s l)=some y->y= .undef\/∃x,lk t s.ts=some x/\WV x y
 | [],h=>by cases h
 |(u,m)::l,h=>by
  rw[show L7 s ((u,m)::l)=(u,m.app (Dj (lk u s.ts)))::L7 s l from rfl,cr] at h;split at h
  ·rename_i e;cases h;subst e;cases hx:lk t s.ts with
   |none=>left;exact PM.Ws m
   |some x=>exact .inr ⟨x,rfl,m.wv x⟩
  ·exact Pg h
def Pj {k:Nat} {b':Bx}:∀{l:List (Nat×PB)} {r:bH},Pk s l=some r->lk k r=some b'->∃b,lk k s.bs=some b/\WB b b'
 | [],r,h,hk=>by
  have h:some []=some r:=h;cases h;cases hk
 |(u,m)::l,r,h,hk=>by
  let ⟨b,r',h1,h2,h⟩:=bc (show bE (lk u s.bs) (Pk s l) (λb r=>some ((u,m.app b)::r))=some r from h)
  cases h;rw[cr] at hk;split at hk
  ·rename_i e;cases hk;subst e;exact ⟨b,h1,m.wb b⟩
  ·exact Pj h2 hk
def aoU {lt:List (Nat×PM)} {lb:List (Nat×PB)} {r:bH} (h:Pk s lb=some r):vd s ⟨L7 s lt,r⟩:=⟨λt y hy=>Pg hy,λk b' hk=>Pj h hk⟩
def Ph (s:LS):aI->Option bH
 | []=>some []
 |k::l=>bE (lk k s.bs) (Ph s l) λb r=>some ((k,b)::r)
def aaA {k:Nat} {b:Bx}:∀{l:aI} {r:bH},Ph s l=some r->lk k r=some b->lk k s.bs=some b
 | [],r,h,hk=>by
  have h:some []=some r:=h;cases h;cases hk
 |u::l,r,h,hk=>by
  let ⟨b,r',h1,h2,h⟩:=bc (show bE (lk u s.bs) (Ph s l) (λb r=>some ((u,b)::r))=some r from h)
  cases h;rw[cr] at hk;split at hk
  ·rename_i e;cases hk;subst e;exact h1
  ·exact aaA h2 hk
abbrev AA:=Option (Stop×List Ob)
def retX (X:Fx E) (s:LS) (o:List Ob):AA:=
 bE (aag E s X.fn.results.toList) (Ph s X.outs) λys bs=>ay (jS ys) (some (.ret (akE ys) bs,o)) none
def asK (X:Fx E) (s:LS) (sc:Sc E) (o:List Ob):AA:=(λq:LS×List Ob×Sc E=>retX X q.1 q.2.1) (FG E X.bV sc s o)
abbrev HY (E:Env):=Md->List KP->LS->Sc E->List Ob->AA
def asP (X:Fx E) (ih:HY E) (ops:bS) (n:Nat) (draw:Bool) (ks:List KP) (s:LS) (sc:Sc E) (o:List Ob):AA:=
 ay draw ((λq:LS×List Ob×Sc E=>au (U6 E X.fn.ntmps X.bV ops n ops ⟨0,0,0,[q.1],[],[]⟩ q.2.2 q.2.1) λr=>ih (.out .normal) ks r.1 r.2.2 r.2.1) (FG E X.bV sc s o))
  (au (aab E X.fn.ntmps X.bV ops ops s sc o) λr=>ih (.out .normal) ks r.1 r.2.2 r.2.1)
def Qa (X:Fx E) (ih:HY E) (c:Code) (p:aI) (ks:List KP) (s:LS) (sc:Sc E) (o:List Ob):AA:=
 match c with
 | .skip=>ih (.out .normal) ks s sc o
 | .seq a b=>ih (.dK a (0::p) true) (.code (1::p) b::ks) s sc o
 | .region _ ops draw=>asP X ih ops.toList ops.size draw ks s sc o
 | .cond x a b=>(match bM s.ts x with
  | .bool true=>ih (.dK a (0::p) true) ks s sc o
  | .bool false=>ih (.dK b (1::p) true) ks s sc o
  |_=>none)
 | .block id c=>ih (.dK c (0::p) true) (.block id::ks) s sc o
 | .loop c=>ih (.dK c (0::p) true) (.loop p c::ks) s sc o
 | .exit id=>ih (.out (.exit id)) ks s sc o
 | .ret=>asK X s sc o
 |_=>none
def abh (X:Fx E) (ih:HY E) (e:Ex) (ks:List KP) (s:LS) (sc:Sc E) (o:List Ob):AA:=
 match ks with
 | []=>ay (PK e) (asK X s sc o) none
 | .code p c::ks=>ay (mT e) (ih (.dK c p true) ks s sc o) (ih (.out e) ks s sc o)
 | .block id::ks=>ih (.out (leave id e)) ks s sc o
 | .loop p c::ks=>ay (mT e) (ih (.dK (.loop c) p true) ks s sc o) (ih (.out e) ks s sc o)
def aHP (X:Fx E) (p:aI) (lt:List (Nat×PM)) (lb:List (Nat×PB)) (q:LS×List Ob×Sc E):AA:=au (Pk q.1 lb) λbs=>some (.at p ⟨L7 q.1 lt,bs⟩,q.2.1)
def TW (X:Fx E) (S:D5) (ih:HY E) (m:Md) (ks:List KP) (s:LS) (sc:Sc E) (o:List Ob):AA:=
 match m with
 | .dK c p nD=>ay nD (match ace p S with
  |some l=>aHP X p l.1 l.2 (FG E X.bV sc s o)
  |none=>Qa X ih c p ks s sc o) (Qa X ih c p ks s sc o)
 | .out e=>abh X ih e ks s sc o
def runK (X:Fx E) (S:D5) (n:Nat):HY E:=Nat.rec (λ_ _ _ _ _=>none) (λ_ ih=>TW X S ih) n
def qP (X:Fx E) (S:D5) (p:aI) (s:LS) (sc:Sc E):AA:=runK X S 100000 (.dK (vX X.code p) p false) (lM X.code p) s sc []
def AtQ (X:Fx E) (B:Bs) (p:aI) (s:LS) (Q:Ex->LS->Prop):Prop:=Wk E X.fn.ntmps B (vX X.code p) ((lM X.code p).map KP.ki) s Q
def At (X:Fx E) (p:aI) (s:LS) (y:AV) (cC:bH):Prop:=∀B,od X.bV B->AtQ X B p s (avy E X.fn y cC)
def KOK (X:Fx E):List KP->Prop
 | []=>True
 | .code p c::ks=>c=vX X.code p/\ks=lM X.code p/\KOK X ks
 | .loop p c::ks=>Code.loop c=vX X.code p/\ks=lM X.code p/\KOK X ks
 | .block _::ks=>KOK X ks
def JE (X:Fx E):∀p,KOK X (lM X.code p)
 | []=>trivial
 |i::p=>by
  have ih:=JE X p;unfold lM;split
  ·rename_i a b hc;split
   ·exact ⟨by simp[vX,hc,Di],by simp[lM,hc],ih⟩
   ·exact ih
  ·exact ih
  ·rename_i b hc;exact ⟨hc.symm,rfl,ih⟩
  ·exact ih
def MdOK (X:Fx E) (ks:List KP):Md->Prop
 | .dK c p _=>c=vX X.code p/\ks=lM X.code p
 | .out _=>True
def Holds (X:Fx E) (B:Bs) (ks:List KP) (s:LS) (Q:Ex->LS->Prop):Md->Prop
 | .dK c _ _=>Wk E X.fn.ntmps B c (ks.map KP.ki) s Q
 | .out e=>ll E X.fn.ntmps B e (ks.map KP.ki) s Q
def QA (X:Fx E) (B:Bs) (Q:Ex->LS->Prop):Stop->Prop
 | .at p s=>AtQ X B p s Q
 | .ret y bs=>∀e s,avy E X.fn y bs e s->Q e s
def ll.ret {Q:Ex->LS->Prop} (h:Q .ret s):∀ks:List KI,ll E nt B .ret ks s Q
 | []=>ll.nil h
 | .code _::ks=>ll.axY rfl (ll.ret h ks)
 | .block id::ks=>ll.block (ll.ret h ks)
 | .loop _::ks=>ll.awv rfl (ll.ret h ks)
def XS (X:Fx E) (B:Bs) (Q:Ex->LS->Prop) (ih:HY E):Prop:=
 ∀m ks s sc o r,ih m ks s sc o=some r->fI r.2->KOK X ks->MdOK X ks m->QA X B Q r.1->fI o/\Holds X B ks s Q m
def ahP {X:Fx E} {Q:Ex->LS->Prop} {sc:Sc E} {r:Stop×List Ob} (hB:od X.bV B) (h:asK X s sc o=some r) (ho:fI r.2) (hp:QA X B Q r.1):fI o/\∃s1,ic B s s1/\∀e,PK e=true->Q e s1:=by
 let ⟨ys,bs,h1,h2,h⟩:=bc (show bE (aag E (FG E X.bV sc s o).1 X.fn.results.toList) (Ph (FG E X.bV sc s o).1 X.outs) (λys bs=>ay (jS ys) (some (.ret (akE ys) bs,(FG E X.bV sc s o).2.1)) none)=some r from h)
 let ⟨h3,h⟩:=aJ h;cases h;let ⟨k1,k2⟩:=J6 hB sc s o ho;exact ⟨k1,_,k2,λe he=>hp e _ ⟨he,⟨ys,h1,h3,rfl⟩,λk b hk=>aaA h2 hk⟩⟩
def aAC {X:Fx E} {Q:Ex->LS->Prop} {ih:HY E} {id:Nat} {ops:fk} {draw:Bool} {ks:List KP} {sc:Sc E} {r:Stop×List Ob} (hB:od X.bV B) (l9:XS X B Q ih) (h:asP X ih ops.toList ops.size draw ks s sc o=some r) (ho:fI r.2) (hk:KOK X ks) (hp:QA X B Q r.1):
  fI o/\Wk E X.fn.ntmps B (.region id ops draw) (ks.map KP.ki) s Q:=by
 unfold asP at h;cases draw with
 |true=>
  let ⟨q,h1,h⟩:=aj h;let ⟨q1,q2⟩:=l9 _ _ _ _ _ _ h ho hk trivial hp;let ⟨q3,q4⟩:=Qe hB _ _ _ _ _ h1 q1;let ⟨q5,q6⟩:=J6 hB sc s o q3;exact ⟨q5,Wk.Z8 q6 (Wk.drawn q4 q2)⟩
 |false=>
  let ⟨q,h1,h⟩:=aj h;let ⟨q1,q2⟩:=l9 _ _ _ _ _ _ h ho hk trivial hp;let ⟨q3,q4⟩:=VN hB _ _ _ _ _ h1 q1;exact ⟨q3,Wk.region q4 q2⟩
def Wh {X:Fx E} {Q:Ex->LS->Prop} {ih:HY E} {c:Code} {p:aI} {ks:List KP} {sc:Sc E} {r:Stop×List Ob} (hB:od X.bV B) (l9:XS X B Q ih) (h:Qa X ih c p ks s sc o=some r) (ho:fI r.2) (hk:KOK X ks) (h1:c=vX X.code p) (h2:ks=lM X.code p) (hp:QA X B Q r.1):
  fI o/\Wk E X.fn.ntmps B c (ks.map KP.ki) s Q:=by
 unfold Qa at h;split at h
 ·let ⟨q1,q2⟩:=l9 _ _ _ _ _ _ h ho hk trivial hp;exact ⟨q1,Wk.skip q2⟩
 ·rename_i a b;let ⟨q1,q2⟩:=l9 _ _ _ _ _ _ h ho ⟨by simp[vX,<-h1,Di],by simp[lM,<-h1,h2],hk⟩ ⟨by simp[vX,<-h1,Di],by simp[lM,<-h1,h2]⟩ hp
  exact ⟨q1,Wk.seq q2⟩
 ·exact aAC hB l9 h ho hk hp
 ·rename_i x a b;split at h
  ·rename_i hv;let ⟨q1,q2⟩:=l9 _ _ _ _ _ _ h ho hk ⟨by simp[vX,<-h1,Di],by simp[lM,<-h1,h2]⟩ hp
   exact ⟨q1,Wk.amo hv q2⟩
  ·rename_i hv;let ⟨q1,q2⟩:=l9 _ _ _ _ _ _ h ho hk ⟨by simp[vX,<-h1,Di],by simp[lM,<-h1,h2]⟩ hp
   exact ⟨q1,Wk.amp hv q2⟩
  ·cases h
 ·rename_i id c;let ⟨q1,q2⟩:=l9 _ _ _ _ _ _ h ho hk ⟨by simp[vX,<-h1,Di],by simp[lM,<-h1,h2]⟩ hp
  exact ⟨q1,Wk.block q2⟩
 ·rename_i c;let ⟨q1,q2⟩:=l9 _ _ _ _ _ _ h ho ⟨h1,h2,hk⟩ ⟨by simp[vX,<-h1,Di],by simp[lM,<-h1,h2]⟩ hp
  exact ⟨q1,Wk.loop q2⟩
 ·let ⟨q1,q2⟩:=l9 _ _ _ _ _ _ h ho hk trivial hp;exact ⟨q1,Wk.exit q2⟩
 ·let ⟨q1,s1,q2,q3⟩:=ahP hB h ho hp;exact ⟨q1,Wk.ret (ll.Z8 q2 (ll.ret (q3 _ rfl) _))⟩
 ·cases h
def apx {X:Fx E} {Q:Ex->LS->Prop} {ih:HY E} {e:Ex} {ks:List KP} {sc:Sc E} {r:Stop×List Ob} (hB:od X.bV B) (l9:XS X B Q ih) (h:abh X ih e ks s sc o=some r) (ho:fI r.2) (hk:KOK X ks) (hp:QA X B Q r.1):fI o/\ll E X.fn.ntmps B e (ks.map KP.ki) s Q:=by
 unfold abh at h;split at h
 ·let ⟨he,h⟩:=aJ h;let ⟨q1,s1,q2,q3⟩:=ahP hB h ho hp;exact ⟨q1,ll.Z8 q2 (ll.nil (q3 e he))⟩
 ·rename_i p c ks;let ⟨k1,k2,k3⟩:=hk;rw[bk] at h;split at h
  ·rename_i he;let ⟨q1,q2⟩:=l9 _ _ _ _ _ _ h ho k3 ⟨k1,k2⟩ hp;rw[Dl he];exact ⟨q1,ll.code q2⟩
  ·rename_i he;let ⟨q1,q2⟩:=l9 _ _ _ _ _ _ h ho k3 trivial hp;exact ⟨q1,ll.axY (by simpa using he) q2⟩
 ·rename_i id ks;let ⟨q1,q2⟩:=l9 _ _ _ _ _ _ h ho hk trivial hp;exact ⟨q1,ll.block q2⟩
 ·rename_i p c ks;let ⟨k1,k2,k3⟩:=hk;rw[bk] at h;split at h
  ·rename_i he;let ⟨q1,q2⟩:=l9 _ _ _ _ _ _ h ho k3 ⟨k1,k2⟩ hp;rw[Dl he];exact ⟨q1,ll.loop q2⟩
  ·rename_i he;let ⟨q1,q2⟩:=l9 _ _ _ _ _ _ h ho k3 trivial hp;exact ⟨q1,ll.awv (by simpa using he) q2⟩
def TX (X:Fx E) (S:D5) (Q:Ex->LS->Prop) (hB:od X.bV B):∀n,XS X B Q (runK X S n)
 |0=>λm ks s sc o r h=>by
  have h:none=some r:=h;cases h
 |n+1=>λm ks s sc o r h ho hk hm hp=>by
  have ih:=TX X S Q hB n;have h:TW X S (runK X S n) m ks s sc o=some r:=h;cases m with
  |out e=>exact apx hB ih h ho hk hp
  |dK c p nD=>
   let ⟨m1,m2⟩:=hm;unfold TW at h;dsimp only at h;rw[bk] at h;split at h
   ·split at h
    ·rename_i l hl;let ⟨bs,h1,h⟩:=aj h;cases h;let ⟨k1,k2⟩:=J6 hB sc s o ho;subst m1;subst m2;exact ⟨k1,Wk.Z8 (k2.trans (ic.less (aoU (lt:=l.1) h1))) hp⟩
    ·exact Wh hB ih h ho hk m1 m2 hp
   ·exact Wh hB ih h ho hk m1 m2 hp
def lsA (s:LS):aB:=.agg (s.ts.map λp=>.xu p.1 p.2)::s.bs.map λp=>.xu p.1 (xK p.2)
def awd:∀{a b:dd},(a.map λp=>AV.xu p.1 p.2)=(b.map λp=>AV.xu p.1 p.2)->a=b
 | [],[],_=>rfl
 | [],_::_,h=>by cases h
 |_::_,[],h=>by cases h
 |p::a,q::b,h=>by
  rw[fM,fM,Ly] at h;let ⟨h1,h2⟩:=h;injection h1 with h3 h4
  rw[awd h2,ET h3 h4]
def amu:∀{a b:bH},(a.map λp=>AV.xu p.1 (xK p.2))=(b.map λp=>AV.xu p.1 (xK p.2))->a=b
 | [],[],_=>rfl
 | [],_::_,h=>by cases h
 |_::_,[],h=>by cases h
 |p::a,q::b,h=>by
  rw[fM,fM,Ly] at h;let ⟨h1,h2⟩:=h;injection h1 with h3 h4
  rw[amu h2,ET h3 (Qp h4)]
def aDL {a b:LS} (h:lsA a=lsA b):a=b:=by
 unfold lsA at h;injection h with h1 h2
 injection h1 with h1
 cases a with|mk t1 b1=>
 cases b with|mk t2 b2=>
 have e1:t1=t2:=awd h1;have e2:b1=b2:=amu h2;rw[e1,e2]
def ptA:aI->aB
 | []=> []
 |i::p=>.loc i 0::ptA p
def aoO:∀{a b:aI},ptA a=ptA b->a=b
 | [],[],_=>rfl
 | [],_::_,h=>by cases h
 |_::_,[],h=>by cases h
 |p::a,q::b,h=>by
  have h:AV.loc p 0::ptA a= .loc q 0::ptA b:=h;injection h with h1 h2
  injection h1 with h1
  rw[aoO h2,h1]
def LG:Stop->AV
 | .at p s=>.fn 0 (ptA p) (lsA s)
 | .ret y bs=>.fn 1 [y] (bs.map λp=>.xu p.1 (xK p.2))
def asr {a b:Stop} (h:LG a=LG b):a=b:=by
 cases a with
 | «at» p s=>
  cases b with
  | «at» p' s'=>
   have h:AV.fn 0 (ptA p) (lsA s)= .fn 0 (ptA p') (lsA s'):=h;injection h with _ h1 h2
   rw[aoO h1,aDL h2]
  |ret y bs=>
   have h:AV.fn 0 _ _= .fn 1 _ _:=h;injection h with h0
   cases h0
 |ret y bs=>
  cases b with
  | «at» p' s'=>
   have h:AV.fn 1 _ _= .fn 0 _ _:=h;injection h with h0
   cases h0
  |ret y' cC=>
   have h:AV.fn 1 [y] _= .fn 1 [y'] _:=h;injection h with _ h1 h2
   injection h1 with h1
   rw[h1,amu h2]
def GQ (r:AA):aB:= @Option.rec (Stop×List Ob) (λ_=>aB) [.undef] (λq=>LG q.1::acb q.2) r
def GR (st:Stop) (r:AA):aB:= @Option.rec (Stop×List Ob) (λ_=>aB) [] (λq=>LG st::Z2 q.2) r
def aoA {st:Stop} {r:AA} (h:GQ r=GR st r):∃o,r=some (st,o)/\fI o:=by
 cases r with
 |none=>cases h
 |some q=>
  have h:LG q.1::acb q.2=LG st::Z2 q.2:=h;injection h with h1 h2
  exact ⟨q.2,by rw[<-asr h1],aaX h2⟩
def aaa {X:Fx E} {S:D5} {p p':aI} {s s':LS} {sc:Sc E} (h:GQ (qP X S p s sc)=GR (.at p' s') (qP X S p s sc)) (k:At X p' s' y cC):At X p s y cC:=λB hB=>by
 obtain ⟨o,h1,h2⟩:=aoA h;exact (TX X S _ hB _ _ _ _ _ _ _ h1 h2 (JE X p) ⟨rfl,rfl⟩ (k B hB)).2
def ahL {X:Fx E} {S:D5} {p:aI} {s:LS} {sc:Sc E} (h:GQ (qP X S p s sc)=GR (.ret y cC) (qP X S p s sc)):At X p s y cC:=λB hB=>by
 obtain ⟨o,h1,h2⟩:=aoA h;exact (TX X S _ hB _ _ _ _ _ _ _ h1 h2 (JE X p) ⟨rfl,rfl⟩ λe s h=>h).2
def ams {X:Fx E} (hk:MC E f X.fn X.code) (hn:Nat.ble xs.length X.fn.ntmps=true) (hp:xq bs=X.bV) (h:At X [] ⟨zg 0 xs,bs⟩ y cC):bP E f bs xs y cC:=
 aBq hk hn λB hB=>h B (hp ▸ hB)
def att {b:Bool} {x y:Option Y} {r:Y} (h:(if b=true then x else y)=some r) (k1:b=true->x=some r->G) (k2:b=false->y=some r->G):G:=by
 cases b with
 |true=>exact k1 rfl (by simpa using h)
 |false=>exact k2 rfl (by simpa using h)
def arn {O:Type} {x:Option O} {f:O->Option Y} {r:Y} (h:x.bind f=some r) (k:∀y,x=some y->f y=some r->G):G:=by
 cases x with
 |none=>simp at h
 |some y=>exact k y rfl h
end
section
def idx {Y:Type} (xs:List Y) (i:Int):Option Y:=if 0<=i then xs[i.toNat]? else none
def app {Y:Type} (xs ys:List Y):Option (List Y):=if xs.length<=1000000/\ys.length<=1000000 then some (xs++ys) else none
def Kx {Y:Type} (xs:List Y) (n:Nat) (ys:List Y):Option (List Y):=if n<=xs.length/\n<=1000000/\ys.length<=1000000 then some (xs.take n++ys) else none
def cut {Y:Type} (xs:List Y) (lo hi:Option Int):Option (List Y):=
 if 0<=lo.getD 0/\0<=hi.getD 0/\(lo.getD 0).toNat<=(hi.map Int.toNat).getD xs.length/\(hi.map Int.toNat).getD xs.length<=xs.length then
  some ((xs.take ((hi.map Int.toNat).getD xs.length)).drop (lo.getD 0).toNat) else none
def ave (n:Nat) (lo hi:Option Int):Option (Nat×Nat):=
 if 0<=lo.getD 0/\0<=hi.getD 0/\(lo.getD 0).toNat<=(hi.map Int.toNat).getD n/\(hi.map Int.toNat).getD n<=n then
  some ((lo.getD 0).toNat,(hi.map Int.toNat).getD n) else none
def cat (a b:ByteArray):Option ByteArray:=if a.size+b.size<=1000000 then some (a++b) else none
def Hb (s:ByteArray) (i:Int):Option UInt8:=if 0<=i then s.data.toList[i.toNat]? else none
def quo (k:IntKind) (a b:Int):Option Int:=if b=0 then none else some (k.wrap (a.tdiv b))
def rem (a b:Int):Option Int:=if b=0 then none else some (a.tmod b)
def fE (n:Nat) (i:Int):da:=if 0<=i/\i.toNat<n then some i.toNat else none
def setAt {Y:Type} (xs:List Y) (i:Nat) (x:Y):Option (List Y):=if i<xs.length then some (xs.set i x) else none
def B0 {Y:Type} (n:Int) (x:Y):Option (List Y):=if 0<=n/\n<=1000000 then some (List.replicate n.toNat x) else none
def mO {O:Type} (m:List (ByteArray×O)) (k:ByteArray) (d:O):O:=match m with| []=>d|p::m=>if k=p.1 then p.2 else mO m k d
def ny {O:Type} (m:List (ByteArray×O)) (k:ByteArray) (v:O):List (ByteArray×O):=match m with| []=> [(k,v)]|p::m=>if k=p.1 then (k,v)::m else p::ny m k v
abbrev bh (x:Int):Int:=IntKind.i64.wrap x
def nilAt {Y:Type} (xs:List (List Y)) (j:Nat):Option Unit:=match xs[j]? with|some []=>some ()|_=>none
def lZ (a b:Nat):Option Unit:=if a=b then some () else none
def yB {a b:Nat} {u:Unit} (h:lZ a b=some u):a=b:=by
 unfold lZ at h;split at h
 ·assumption
 ·cases h
structure RowsK {Y:Type} (enc:Y->aB) (rows:List Y->aT):Prop where
 map:∀xs,rows xs=xs.map enc
section
variable {Y:Type} {enc:Y->aB} {rows:List Y->aT} {E:Env}
variable {vs r' r0:aB} {hi:Option Int} {l:ew} {g:Nat}
def RowsK.len (R:RowsK enc rows) (xs:List Y):(rows xs).length=xs.length:=by rw[R.map,iz]
def RowsK.lenI (R:RowsK enc rows) (xs:List Y):AV.int .i64 ((rows xs).length:Int)= .int .i64 (xs.length:Int):=by rw[R.len]
def RowsK.get (R:RowsK enc rows) {xs:List Y} {x:Y} (h:xs[j]? =some x):(rows xs)[j]? =some (enc x):=by rw[R.map,kK,h];rfl
def RowsK.isE (R:RowsK enc rows) (xs:List Y):(rows xs).isEmpty=xs.isEmpty:=by rw[R.map];cases xs<;>rfl
def RowsK.idx' (R:RowsK enc rows) {xs:List Y} {n:Int} {x:Y} (h:idx xs n=some x):ub (rows xs) n=some (enc x):=by
 unfold Go.bQ.idx at h;unfold ub;split at h
 ·rename_i h0;rw[ax h0];exact R.get h
 ·cases h
def RowsK.idx (R:RowsK enc rows) {xs:List Y} {n:Int} {x:Y} (h:idx xs n=some x):It E:=.idx (R.idx' h)
def RowsK.row (R:RowsK enc rows) {xs:List Y} {j:Nat} {x:Y} (h:xs[j]? =some x):It E:=.row (R.get h)
def acJ {i:Int} (h:fE n i=some k):i=(k:Int)/\k<n:=by
 unfold fE at h;split at h
 ·rename_i h0;cases h;exact ⟨by omega,h0.2⟩
 ·cases h
def dO {n:Nat} {i:Int} {k:Nat} (h:fE n i=some k):It E:=.idb (acJ h).1 (acJ h).2
def qa {xs zs:List Y} {y:Y} (h:setAt xs i y=some zs):zs=xs.set i y/\i<xs.length:=by
 unfold setAt at h;split at h
 ·cases h;exact ⟨rfl,by assumption⟩
 ·cases h
def nv {xs zs:List Y} {y:Y} (h:setAt xs i y=some zs):zs.length=xs.length:=by rw[(qa h).1,hZ]
def RowsK.set' (R:RowsK enc rows) {xs zs:List Y} {x y:Y} (h1:setAt xs j y=some zs) (he:di (enc x) f vs=enc y):(rows xs).set j (di (enc x) f vs)=rows zs:=by
 rw[(qa h1).1,he,R.map,R.map,w6]
def RowsK.AB (R:RowsK enc rows) {xs zs:List Y} {j:Nat} {x y:Y} (f:Nat) (vs:aB) (h0:xs[j]? =some x) (h1:setAt xs j y=some zs) (he:di (enc x) f vs=enc y:=by kernel_rfl):It E:=.AB (f:=f) (xs:=vs) (R.get h0) (R.set' h1 he)
def yX {xs ys zs:List Y} (h:app xs ys=some zs):xs.length<=1000000/\ys.length<=1000000/\zs=xs++ys:=by
 unfold app at h;split at h
 ·rename_i h0;cases h;exact ⟨h0.1,h0.2,rfl⟩
 ·cases h
def RowsK.app (R:RowsK enc rows) {xs ys zs:List Y} (h:app xs ys=some zs) (sr:Sr (rows ys)):It E:=
 .app (Q:=rows xs) (R:=rows ys) (Q':=rows zs) (n:=xs.length) (n':=zs.length) (R.len xs).symm (by rw[R.len];exact (yX h).1) (by rw[R.len];exact (yX h).2.1) (by rw[(yX h).2.2,R.map,R.map,R.map,pT]) (R.len zs) sr
def D0 {xs ys zs:List Y} (h:Kx xs n ys=some zs):n<=xs.length/\n<=1000000/\ys.length<=1000000/\zs=xs.take n++ys:=by
 unfold Kx at h;split at h
 ·rename_i h0;cases h;exact ⟨h0.1,h0.2.1,h0.2.2,rfl⟩
 ·cases h
def RowsK.Kx (R:RowsK enc rows) {xs ys zs:List Y} {n:Nat} (h:Kx xs n ys=some zs) (sr:Sr (rows ys)):It E:=
 .avr (Q:=rows xs) (P:=rows (xs.take n)) (R:=rows ys) (Q':=rows zs) (n:=n) (n':=zs.length) (by rw[R.map,R.map,zm]) (by rw[R.len];exact (D0 h).1) (D0 h).2.1 (by rw[R.len];exact (D0 h).2.2.1) (by rw[(D0 h).2.2.2,R.map,R.map,R.map,pT]) (R.len zs) sr
def RowsK.sr (R:RowsK enc rows) {xs:List Y} {lo n:Nat} (hn:lo+n<=xs.length):Sr (rows ((xs.drop lo).take n)):=.box (Q:=rows xs) (lo:=lo) (n:=n) (by rw[R.map,R.map,zm,ES]) (by rw[R.len];exact hn)
def RowsK.tK (R:RowsK enc rows) (xs:List Y):Sr (rows xs):=.box (Q:=rows xs) (lo:=0) (n:=xs.length) (by rw[pJ,<-R.len,vf]) (by rw[R.len];omega)
def acy {xs zs:List Y} (h:cut xs lo hi=some zs):∃l u:Nat,lo.getD 0=(l:Int)/\hi.getD (xs.length:Nat)=(u:Int)/\l<=u/\u<=xs.length/\zs=(xs.drop l).take (u-l):=by
 unfold cut at h;split at h
 ·rename_i h0;cases h;let ⟨a,b,c,d⟩:=h0;refine ⟨(lo.getD 0).toNat,(hi.map Int.toNat).getD xs.length,by omega,?_,c,d,by rw[sf]⟩
  cases hi with
  |none=>rfl
  |some v=>have:0<=v:=b;show v=((v.toNat:Nat):Int);omega
 ·cases h
def RowsK.cut (R:RowsK enc rows) {xs zs:List Y} {lo hi:Option Int} (h:cut xs lo hi=some zs):It E:=
 .cut (rows:=rows xs) (R:=rows zs) (lo:=lo.getD 0) (hi:=hi.getD ((rows xs).length:Nat)) (l:=(lo.getD 0).toNat) (u:=(hi.map Int.toNat).getD xs.length)
  (by let ⟨l,u,a,b,c,d,e⟩:=acy h;omega)
  (by
   let ⟨l,u,a,b,c,d,e⟩:=acy h;cases hi with
   |none=>show (((rows xs).length:Nat):Int)=_;rw[R.len];rfl
   |some v=>have b:v=(u:Int):=b;show v=((v.toNat:Nat):Int);omega)
  (by
   unfold Go.bQ.cut at h;split at h; ·rename_i h0;exact h0.2.2.1
   ·cases h)
  (by
   unfold Go.bQ.cut at h;split at h; ·rename_i h0;rw[R.len];exact h0.2.2.2
   ·cases h)
  (by
   unfold Go.bQ.cut at h;split at h; ·cases h;rw[R.map,R.map,<-sf,ES,zm]
   ·cases h)
def DL {p:Nat×Nat} (h:ave n lo hi=some p):lo.getD 0=(p.1:Int)/\hi.getD (n:Nat)=(p.2:Int)/\p.1<=p.2/\p.2<=n:=by
 unfold ave at h;split at h
 ·rename_i h0;cases h;let ⟨a,b,c,d⟩:=h0;refine ⟨by show _=(((lo.getD 0).toNat:Nat):Int);omega,?_,c,d⟩
  cases hi with
  |none=>rfl
  |some v=>have:0<=v:=b;show v=((v.toNat:Nat):Int);omega
 ·cases h
def RowsK.Vb (R:RowsK enc rows) {xs:List Y} {lo0 n:Nat} {lo hi:Option Int} {p:Nat×Nat} (h:ave n lo hi=some p) (hn:lo0+n<=xs.length):It E:=
 .Vb (Q:=rows xs) (lo0:=lo0) (n:=n) (lo:=lo.getD 0) (hi:=hi.getD (n:Nat)) (l:=p.1) (u:=p.2) (DL h).1 (DL h).2.1 (DL h).2.2.1 (DL h).2.2.2 (by rw[R.len];exact hn)
def tM {n:Int} {x:Y} {zs:List Y} (h:B0 n x=some zs):n=(n.toNat:Int)/\n.toNat<=1000000/\zs=List.replicate n.toNat x:=by
 unfold B0 at h;split at h
 ·rename_i h0;cases h;exact ⟨by omega,by omega,rfl⟩
 ·cases h
def RowsK.made (R:RowsK enc rows) {n:Int} {x:Y} {zs:List Y} (z:aB) (ms:List P1) (h:B0 n x=some zs) (he:apps ms z=enc x:=by kernel_rfl):It E:=
 .mk (n1:=n) (n2:=n) (l:=n.toNat) (m:=n.toNat) (x:=z) (Q':=rows zs) (tM h).1 (tM h).1 (cF _) (tM h).2.1 ms (by rw[(tM h).2.2,R.map,List.map_replicate,List.map_replicate,he])
def RowsK.aHX (R:RowsK enc rows) {n:Int} {x:Y} {zs:List Y} (z:aB) (h:B0 n x=some zs):It E:=
 .mk (n1:=0) (n2:=n) (l:=0) (m:=n.toNat) (x:=z) (Q':=rows []) rfl (tM h).1 (pU _) (tM h).2.1 [] (by rw[R.map];rfl)
def RowsK.clo (R:RowsK enc rows) {xs zs:List Y} {j:Nat} {x y:Y} (K:Nat) (f:Nat) (q:AV) (u:AV) (h0:xs[j]? =some x) (h1:setAt xs j y=some zs) (he:di (di (enc x) f [u]) f [q]=enc y:=by kernel_rfl):It E:=
 .clo (Q:=(rows xs).set j (di (enc x) f [u])) (R:=di (enc x) f [u]) (f:=f) (x:=q) (Q':=rows zs) K (by
  have hj:=R.get h0;have bD:=(cg.1 hj).1;rw[uw bD]) (by rw[pI,he,(qa h1).1,R.map,R.map,w6])
def RowsK.atS (R:RowsK enc rows) {xs:List Y} {x:Y} (h:xs[j]? =some x):((rows xs).set j r)[j]? =some r:=by
 rw[uw (by rw[R.len];exact (cg.1 h).1)]
def RowsK.BP {O:Type} {dD:List O->aT} {yT:O->aB} (R:RowsK enc rows) (N:RowsK yT dD) {xs:List Y} {j:Nat} {x:Y} (K K2 f:Nat) (b:Bool) (e' s:Nat) (y:List O) (h:xs[j]? =some x) (hx:(enc x)[f]? =some (tL b e' s (dD y))):It E:=
 .BP (Q:=rows xs) (j:=j) (f:=f) (R:=enc x) (x:=b) (e':=e') (s:=s) (n:=y.length) (rows:=dD y) (Q':=(rows xs).set j (di (enc x) f [.undef])) K K2 (R.get h) hx (N.len y) rfl
def RowsK.asG (R:RowsK enc rows) {xs zs:List Y} {y:Y} (h:setAt xs j y=some zs) (hr:r'=enc y):((rows xs).set j r).set j r'=rows zs:=by
 rw[pI,hr,(qa h).1,R.map,R.map,w6]
def RowsK.at2 (R:RowsK enc rows) {xs zs:List Y} {y:Y} (h:setAt xs j y=some zs):((rows xs).set j r)[j]? =some r:=by
 rw[uw (by rw[R.len];exact (qa h).2)]
def RowsK.tcd (R:RowsK enc rows) {xs zs:List Y} {j:Nat} {x z:Y} (K f:Nat) (q:AV) (h:setAt xs j z=some zs) (hx:di (di (enc x) f [.undef]) f [q]=enc z):It E:=
 .tcd (Q:=(rows xs).set j (di (enc x) f [.undef])) (j:=j) (f:=f) (R:=di (enc x) f [.undef]) (x:=q) (Q':=rows zs) K (R.at2 h) (R.asG h hx)
def RowsK.IX (R:RowsK enc rows) {xs ys zs:List Y} (h:Go.bQ.app xs ys=some zs):It E:=.IX (Q:=rows xs) (n:=xs.length) (R.len xs).symm (by rw[R.len];exact (yX h).1)
def RowsK.trw (R:RowsK enc rows) {xs:List Y} {j:Nat} {x:Y} (fs:aI) (h:xs[j]? =some x):It E:=.trw (Q:=rows xs) (j:=j) (R:=enc x) fs (R.get h)
def RowsK.vK {O:Type} {dD:List O->aT} {yT:O->aB} (R:RowsK enc rows) (N:RowsK yT dD) {xs:List Y} {j:Nat} {x:Y} {r:aB} (K K2 f:Nat) (b:Bool) (e' s:Nat) (y:List O) (h:xs[j]? =some x) (r':aB) (hx:r[f]? =some (tL b e' s (dD y)):=by kernel_rfl) (hr:di r f [.undef]=r':=by kernel_rfl):It E:=
 .BP (Q:=(rows xs).set j r) (j:=j) (f:=f) (R:=r) (x:=b) (e':=e') (s:=s) (n:=y.length) (rows:=dD y) (Q':=(rows xs).set j r') K K2 (R.atS h) hx (N.len y) (by rw[hr,pI])
def RowsK.oh {O:Type} {dD:List O->aT} {yT:O->aB} (R:RowsK enc rows) (N:RowsK yT dD) {xs:List Y} {j:Nat} {x:Y} (K K2 f:Nat) (b:Bool) (e' s:Nat) (y:List O) (h:xs[j]? =some x) (r':aB) (hx:(enc x)[f]? =some (tL b e' s (dD y)):=by kernel_rfl) (hr:di (enc x) f [.undef]=r':=by kernel_rfl):It E:=
 .BP (Q:=rows xs) (j:=j) (f:=f) (R:=enc x) (x:=b) (e':=e') (s:=s) (n:=y.length) (rows:=dD y) (Q':=(rows xs).set j r') K K2 (R.get h) hx (N.len y) (by rw[hr])
def RowsK.jr {O:Type} {dD:List O->aT} {yT:O->aB} (R:RowsK enc rows) (N:RowsK yT dD) {xs zs:List Y} {j:Nat} {z:Y} {r:aB} (K K2 f:Nat) (b:Bool) (e' s:Nat) (y:List O) (h:setAt xs j z=some zs) (r':aB) (hr:di r f [tL b e' s (dD y)]=r':=by kernel_rfl):It E:=
 .tcl (Q:=(rows xs).set j r) (j:=j) (f:=f) (R:=r) (x:=b) (e':=e') (s:=s) (n:=y.length) (rows:=dD y) (Q':=(rows xs).set j r') K K2 (R.at2 h) (N.len y) (by rw[hr,pI])
def RowsK.ij {O:Type} {dD:List O->aT} {yT:O->aB} (R:RowsK enc rows) (N:RowsK yT dD) {xs zs:List Y} {j:Nat} {z:Y} {r:aB} (K K2 f:Nat) (b:Bool) (e' s:Nat) (y:List O) (h:setAt xs j z=some zs) (hr:di r f [tL b e' s (dD y)]=enc z:=by kernel_rfl):It E:=
 .tcl (Q:=(rows xs).set j r) (j:=j) (f:=f) (R:=r) (x:=b) (e':=e') (s:=s) (n:=y.length) (rows:=dD y) (Q':=rows zs) K K2 (R.at2 h) (N.len y) (R.asG h hr)
def RowsK.ajA (R:RowsK enc rows) {xs zs:List Y} {j:Nat} {z:Y} {r:aB} (K f:Nat) (q:AV) (h:setAt xs j z=some zs) (hr:di r f [q]=enc z:=by kernel_rfl):It E:=
 .tcd (Q:=(rows xs).set j r) (j:=j) (f:=f) (R:=r) (x:=q) (Q':=rows zs) K (R.at2 h) (R.asG h hr)
def RowsK.Ao (R:RowsK enc rows) {xs:List Y} {j:Nat} {x:Y} (fs:aI) (r:aB) (h:xs[j]? =some x):It E:=.trw (Q:=(rows xs).set j r) (j:=j) (R:=r) fs (R.atS h)
def RowsK.rowS (R:RowsK enc rows) {xs:List Y} {j:Nat} {x:Y} (r:aB) (h:xs[j]? =some x):It E:=.row (Q:=(rows xs).set j r) (j:=j) (R:=r) (R.atS h)
def RowsK.UN (R:RowsK enc rows) {xs:List Y} {j:Nat} {x:Y} (f:Nat) (r r':aB) (h:xs[j]? =some x) (hr:di r f [.undef]=r':=by kernel_rfl):It E:=.Ck (Q:=(rows xs).set j r) (f:=f) (j:=j) (R:=r) (Q':=(rows xs).set j r') (R.atS h) (by rw[hr,pI])
def RowsK.abO (R:RowsK enc rows) {xs:List Y} {j:Nat} {x:Y} (f:Nat) (r':aB) (h:xs[j]? =some x) (hr:di (enc x) f [.undef]=r':=by kernel_rfl):It E:=.Ck (Q:=rows xs) (f:=f) (j:=j) (R:=enc x) (Q':=(rows xs).set j r') (R.get h) (by rw[hr])
def RowsK.hrwS (R:RowsK enc rows) {xs:List Y} {j:Nat} {x:Y} (r r':aB) (h:xs[j]? =some x):It E:=.hrw (Q:=(rows xs).set j r) (j:=j) (R:=r) (r':=r') (Q':=(rows xs).set j r') (R.atS h) (by rw[pI])
def RowsK.apS (R:RowsK enc rows) {xs zs:List Y} {y:Y} (h:Go.bQ.app xs [y]=some zs):rows xs++ [r]=(rows zs).set xs.length r:=by
 rw[(yX h).2.2,R.map,R.map,pT,uv _ _ (by rw[iz];exact cF _),iz,oJ]
 rfl
def RowsK.apL (R:RowsK enc rows) {xs zs:List Y} {y:Y} (h:Go.bQ.app xs [y]=some zs):xs.length+1=zs.length:=by
 rw[(yX h).2.2,eQ];rfl
def gone (l:ew) (g:Nat) (Q:aT):aT:=(Q.take g).map (mR l)++Q.drop g
def aDU:Q=gone l 0 Q:=rfl
def abY (h:Q[g]? =some r):(gone l g Q)[g]? =some r:=by
 have bD:=(cg.1 h).1;unfold gone;rw[qW (by rw[iz,dx];omega),iz,dx,fD,eg (by omega),oJ,nu]
 exact h
def auB (h:Q[g]? =some r):(gone l g Q).set g (mR l r)=gone l (g+1) Q:=by
 have bD:=(cg.1 h).1;have hr:Q[g]=r:=(cg.1 h).2;have hl:((Q.take g).map (mR l)).length=g:=by rw[iz,dx];omega
 unfold gone;rw[uv _ _ (by omega),hl,oJ,se bD,wB,dW bD,hr]
 simp
def abZ {u:Unit} (hg:lZ j g=some u) (h:Q[j]? =some r0):((gone l g Q).set j r)[j]? =some r:=by
 have:=yB hg;subst this;rw[uw];exact (cg.1 (abY h)).1
def RowsK.aCh {O:Type} {dD:List O->aT} {yT:O->aB} (R:RowsK enc rows) (N:RowsK yT dD) {xs:List Y} {j g:Nat} {x:Y} {u:Unit} (l:ew) (hg:lZ j g=some u) (K K2 f:Nat) (b:Bool) (e' s:Nat) (y:List O) (h:xs[j]? =some x) (r':aB) (hx:(enc x)[f]? =some (tL b e' s (dD y)):=by kernel_rfl) (hr:di (enc x) f [.undef]=r':=by kernel_rfl):It E:=
 .BP (Q:=gone l g (rows xs)) (j:=j) (f:=f) (R:=enc x) (x:=b) (e':=e') (s:=s) (n:=y.length) (rows:=dD y) (Q':=(gone l g (rows xs)).set j r') K K2 (by have:=yB hg;subst this;exact abY (R.get h)) hx (N.len y) (by rw[hr])
def RowsK.anY {O:Type} {dD:List O->aT} {yT:O->aB} (R:RowsK enc rows) (N:RowsK yT dD) {xs:List Y} {j g:Nat} {x:Y} {u:Unit} (l:ew) (hg:lZ j g=some u) (r:aB) (K K2 f:Nat) (b:Bool) (e' s:Nat) (y:List O) (h:xs[j]? =some x) (r':aB) (hx:r[f]? =some (tL b e' s (dD y)):=by kernel_rfl) (hr:di r f [.undef]=r':=by kernel_rfl):It E:=
 .BP (Q:=(gone l g (rows xs)).set j r) (j:=j) (f:=f) (R:=r) (x:=b) (e':=e') (s:=s) (n:=y.length) (rows:=dD y) (Q':=(gone l g (rows xs)).set j r') K K2 (abZ hg (R.get h)) hx (N.len y) (by rw[hr,pI])
def RowsK.aHN (R:RowsK enc rows) {xs:List Y} {j g:Nat} {x:Y} {u:Unit} (l:ew) (hg:lZ j g=some u) (fs:aI) (r:aB) (h:xs[j]? =some x):It E:=.trw (Q:=(gone l g (rows xs)).set j r) (j:=j) (R:=r) fs (abZ hg (R.get h))
def RowsK.alP (R:RowsK enc rows) {xs zs:List Y} {z:Y} {u:Unit} (hg:lZ j g=some u) (h:setAt xs j z=some zs) (hr:mR l (enc z)=r:=by kernel_rfl):(gone l g (rows xs)).set j r=gone l (g+1) (rows zs):=by
 have:=yB hg;subst this;let ⟨e,bD⟩:=qa h;have hz:zs[j]? =some z:=by rw[e,uw bD]
 rw[<-auB (R.get hz),hr];have e2:gone l j (rows zs)=(gone l j (rows xs)).set j (enc z):=by
  have hl:(rows xs).length=xs.length:=R.len xs;unfold gone;rw[e,R.map,w6,<-R.map,List.take_set_of_le (cF _)];rw[uv _ _ (by rw[iz,dx];omega),iz,dx,eg (by omega),oJ]
  rw[List.drop_set,aA (by omega),oJ]
 rw[e2,pI]
def RowsK.tfr (R:RowsK enc rows) (b:Bool) (K:Nat) (xs:List Y):It E:=.tfr (Q:=rows xs) (n:=xs.length) b K (R.len xs)
def RowsK.Ck (R:RowsK enc rows) {xs:List Y} {j:Nat} {x:Y} (f:Nat) (h0:xs[j]? =some x):It E:=.Ck (f:=f) (R.get h0) rfl
def RowsK.gx (R:RowsK enc rows) (K:Nat) (xs:List Y):It E:=.gx (Q:=rows xs) (n:=xs.length) K (R.len xs)
def RowsK.rws {enc':Y->aB} {A2:List Y->aT} (R:RowsK enc rows) (R':RowsK enc' A2) {ms:List P1} (h:∀x,apps ms (enc x)=enc' x) (xs:List Y):(rows xs).map (apps ms)=A2 xs:=by
 rw[R.map,R'.map,EJ];exact Bv λx _=>h x
end
def wo (n:Nat) (hi:Int):da:=if 0<=hi/\hi.toNat<=n then some hi.toNat else none
def HJ (n:Nat) (lo:Int):da:=if 0<=lo/\lo.toNat<=n then some lo.toNat else none
def Ad {hi:Int} (h:wo n hi=some u):hi=(u:Int)/\u<=n:=by
 unfold wo at h;split at h
 ·rename_i h0;cases h;exact ⟨by omega,h0.2⟩
 ·cases h
def Kp {lo:Int} (h:HJ n lo=some u):lo=(u:Int)/\u<=n:=by
 unfold HJ at h;split at h
 ·rename_i h0;cases h;exact ⟨by omega,h0.2⟩
 ·cases h
def aBo {lo:Int} (h:HJ n lo=some u) (le:n<=m):0+u+(n-u)<=m:=by
 have:=(Kp h).2;omega
section
variable {Y:Type} {enc:Y->aB} {rows:List Y->aT} {E:Env}
def RowsK.wo (R:RowsK enc rows) {xs:List Y} {n u:Nat} {hi:Int} (h:wo n hi=some u) (le:n<=xs.length):It E:=
 .Vb (Q:=rows xs) (lo0:=0) (n:=n) (lo:=0) (hi:=hi) (l:=0) (u:=u) rfl (Ad h).1 (pU _) (Ad h).2 (by rw[R.len];omega)
def RowsK.HJ (R:RowsK enc rows) {xs:List Y} {n u:Nat} {lo:Int} (h:HJ n lo=some u) (le:n<=xs.length):It E:=
 .Vb (Q:=rows xs) (lo0:=0) (n:=n) (lo:=lo) (hi:=(n:Int)) (l:=u) (u:=n) (Kp h).1 rfl (Kp h).2 (cF _) (by rw[R.len];omega)
def RowsK.take (R:RowsK enc rows) (xs:List Y) (u:Nat):(rows xs).take u=rows (xs.take u):=by rw[R.map,R.map,zm]
def IY {xs:List Y} (h:u<=xs.length):(xs.take u).length=u:=by rw[dx];omega
def RowsK.ayv (R:RowsK enc rows) {xs:List Y} (h:u<=xs.length):(rows (xs.take u)).length=u:=by rw[R.len];exact IY h
def asL {n:Int} {x:Y} {zs:List Y} (h:B0 n x=some zs):n.toNat=zs.length:=by rw[(tM h).2.2,Bu]
end
def int_eq {k:IntKind} {a b:Int} (h:(a==b)=true):AV.int k a= .int k b:=by rw[eq_of_beq h]
def HL {a b c:ByteArray} (h:cat a b=some c):a.size+b.size<=1000000/\a++b=c:=by
 unfold cat at h;split at h
 ·rename_i h0;cases h;exact ⟨h0,rfl⟩
 ·cases h
def Dv {s:ByteArray} {i:Int} {c:UInt8} (h:Hb s i=some c):ub s.data.toList i=some c:=h
def aaj {a b c:Int} (h:rem a b=some c):b≠0/\a.tmod b=c:=by
 unfold rem at h;split at h
 ·cases h
 ·rename_i h0;cases h;exact ⟨h0,rfl⟩
def gG {O:Type} (f:O->AV) (m:List (ByteArray×O)):List (AV×AV):=m.map λp=>(.str p.1,f p.2)
def Wd {O:Type} {f:O->AV} {k:ByteArray} {d:O}:∀m:List (ByteArray×O),∃r,pt (.str k) (gG f m)=some r/\Ka false (some (f d)) r=some (f (mO m k d))
 | []=>⟨none,rfl,rfl⟩
 |p::m=>by
  let ⟨r,h1,h2⟩:=Wd (f:=f) (k:=k) (d:=d) m;have step:pt (.str k) (gG f (p::m))=(match some (decide (k=p.1)) with
   |some true=>some (some (0,f p.2))
   |some false=>(match pt (.str k) (gG f m) with|some (some q)=>some (some (q.1+1,q.2))|r=>r)
   |none=>none):=rfl
  by_cases hk:k=p.1
  ·refine ⟨some (0,f p.2),by rw[step];simp[hk],?_⟩
   show some (f p.2)=some (f (mO (p::m) k d));unfold mO;rw[ax hk]
  ·have hg:mO (p::m) k d=mO m k d:=by rw[mO,aA hk]
   rw[hg];cases r with
   |none=>exact ⟨none,by rw[step];simp[hk,h1],h2⟩
   |some q=>exact ⟨some (q.1+1,q.2),by rw[step];simp[hk,h1],h2⟩
def Ke {O:Type} {f:O->AV} {k:ByteArray} {v:O}:∀m:List (ByteArray×O),∃r,pt (.str k) (gG f m)=some r/\Sz (gG f m) (.str k) (f v) r=gG f (ny m k v)
 | []=>⟨none,rfl,rfl⟩
 |p::m=>by
  let ⟨r,h1,h2⟩:=Ke (f:=f) (k:=k) (v:=v) m;have step:pt (.str k) (gG f (p::m))=(match some (decide (k=p.1)) with
   |some true=>some (some (0,f p.2))
   |some false=>(match pt (.str k) (gG f m) with|some (some q)=>some (some (q.1+1,q.2))|r=>r)
   |none=>none):=rfl
  by_cases hk:k=p.1
  ·refine ⟨some (0,f p.2),by rw[step];simp[hk],?_⟩
   unfold ny;rw[ax hk];rfl
  ·have hg:ny (p::m) k v=p::ny m k v:=by rw[ny,aA hk]
   rw[hg];have hc:gG f (p::ny m k v)=(.str p.1,f p.2)::gG f (ny m k v):=rfl;have yg:gG f (p::m)=(.str p.1,f p.2)::gG f m:=rfl;cases r with
   |none=>exact ⟨none,by rw[step];simp[hk,h1],by rw[hc,<-h2,yg];rfl⟩
   |some q=>exact ⟨some (q.1+1,q.2),by rw[step];simp[hk,h1],by rw[hc,<-h2,yg];rfl⟩
def Bf {k:ByteArray} {d b:Bool} {m:List (ByteArray×Bool)} (h:mO m k d=b):∃r,pt (.str k) (gG AV.bool m)=some r/\Ka false (some (.bool d)) r=some (.bool b):=h ▸ Wd m
def bP.cast {E:Env} {y':AV} (h:bP E f bs xs y cC) (e:y=y'):bP E f bs xs y' cC:=e ▸ h
def agA {E:Env} {a b:Bool} (h:bP E f bs xs (.bool a) cC) (e:a=b):bP E f bs xs (.bool b) cC:=e ▸ h
def bP.CB {E:Env} {s:Nat} (h:bP E f bs xs (.ms K s 0 n) cC) (hl:lk K cC=some (.rows z e s Q)) (hn:gi K bs=false) (hq:Q.length=n) (hb:G3 K cC= []):
  bP E f bs xs (ay z (.jW e s Q) (.slice e s Q)) ((ea K cC).map λp=>(p.1,Bx.gx K (ay z (.jW e s Q) (.slice e s Q)) (λ_=>.undef) p.2)):=.mk λ{F g J hh aa} dK has=>by
 subst hq;obtain ⟨F',g',φ',h1,v,go,hv,r⟩:=h.go dK has;have hp:(u9 F g J bs hh).pk K=false:=hn;have ed:(ay z (.jW e s Q) (.slice e s Q):AV)=Hu (.rows z e s Q):=by cases z<;>rfl
 have r0:=r.put (d:=0) (v:=v) (x:=.ms K s 0 Q.length) (tm':=λt=>if t=0 then some v else none) (λt=>rfl) λ_=>hv
 obtain ⟨F2,hF,r2⟩:=r0.gx (K:=K) (b:=.rows z e s Q) (D:=Hu (.rows z e s Q)) (L:=λ_=>.undef) (sz:=s) (m:=Q.length) hl hp (λq hq=>by
  rcases ee.1 hq with hq|hq
  ·have hq:q∈ay (Nat.beq K K) (ay (Nat.beq 0 0) [(s,Q.length)] []) []++ []:=hq;rw[show Nat.beq K K=true from (beq_iff _ _).2 rfl] at hq;have hq:q∈ [(s,Q.length)]:=by simpa using hq
   simpa using hq
  ·have hq:q∈G3 K cC:=hq;rw[hb] at hq;cases hq) λF' hF hi q=>⟨hF,(FH hF rfl hi q).ms,λv off _=>.undef v⟩
 have bY:Hu (.rows z e s Q)≠ .undef:=by cases z<;>(intro hc;cases hc)
 have e0:Hv K (Hu (.rows z e s Q)) (λ_=>.undef) (.ms K s 0 Q.length)=Hu (.rows z e s Q):=by
  show ay (Nat.beq K K) (ay (Nat.beq 0 0) _ _) _=_;rw[show Nat.beq K K=true from (beq_iff _ _).2 rfl];rfl
 obtain ⟨v',v1,v2⟩:=r2.tm 0 _ (show lk 0 [((0:Nat),Hv K (Hu (.rows z e s Q)) (λ_=>.undef) (.ms K s 0 Q.length))]=some _ from by rw[cr,ax rfl]) (by rw[e0];exact bY)
 have ev:v=v':=by simpa using v1
 subst ev;rw[e0] at v2;refine ⟨F2,g',φ',h1,v,go,by rw[ed];exact v2,?_⟩
 rw[ed];exact {r2 with tm:=λt x hx _=>(by cases hx)}
def bP.done {E:Env} (hd:Bg k E.done=some v) (hv:∀F g,VA F g v y):bP E k [] [] y []:=.mk λ{F g J h aa} dK has=>by
 cases has;exact ⟨F,g,J,⟨h.hp,h.nx,[]⟩,v,df.done hd,hv F g,dK⟩
def bP.cmp {E:Env} {a b:ByteArray} (hg:E.fn.get k=some fn) (hb:fn.body=none) (hn:(fn.name== "internal/bytealg.abigen_runtime_cmpstring")=true):bP E k [] [.str a,.str b] (.int .i64 (CD a b)) []:=.mk λ{F g J h aa} dK has=>by
 cases has with|cons h1 t1=>
 cases t1 with|cons h2 t2=>
 cases t2;cases h1;cases h2;refine ⟨F,g,J,⟨h.hp,h.nx,[]⟩,.int .i64 (.lit (CD a b)),?_,.int _ _,dK⟩;refine .step ⟨0,λn _=> ?_⟩
 show Ht E (run E n) k (E.fn.get k) [.str a,.str b] h=_;rw[hg];show @Option.rec Code (λ_=>Out) (ack fn [.str a,.str b] h) _ fn.body=_
 rw[hb];show ay (fn.name== "internal/bytealg.abigen_runtime_cmpstring") (Out.res (.int .i64 (.lit (CD a b))) h) (Out.fail fn.name)=_;rw[hn];rfl
def Nx {E:Env} {X:Fx E} {s:LS} (hk:MC E f X.fn X.code) (hn:Nat.ble xs.length X.fn.ntmps=true) (hp:xq bs=X.bV) (hs:(⟨zg 0 xs,bs⟩:LS)=s) (h:At X [] s y cC):bP E f bs xs y cC:=ams hk hn hp (hs ▸ h)
end
section
variable {F F':Hf} {g g':Gb} {E:Env}
variable {Y:Type} {s:Nat} {z':Bool}
mutual
def xl:AV->Bool
 | .slice _ _ _=>false
 | .jW _ _ _=>false
 | .iW _ _ _=>false
 | .iw _=>false
 | .agg cs=>lK cs
 | .cm vs=>lK vs
 | .fn _ a c=>lK a&&lK c
 | .xu _ x=>xl x
 |_=>true
def lK:aB->Bool
 | []=>true
 |x::l=>xl x&&lK l
end
mutual
def VA.CJ:∀{x:AV} {v:SV},VA F g v x->xl x=true->VA F' g v x
 | .slice _ _ _,_,_,h=>by cases h
 | .jW _ _ _,_,_,h=>by cases h
 | .iW _ _ _,_,_,h=>by cases h
 | .iw _,_,_,h=>by cases h
 | .agg cs,_,hv,h=>by cases hv with|agg q=>exact .agg (bZ.CJ q h)
 | .cm cs,_,hv,h=>by cases hv with|cm q=>exact .cm (bZ.CJ q h)
 | .fn i a c,_,hv,h=>by
  have h:(lK a&&lK c)=true:=h;rw[aY] at h;cases hv with|fn _ h1 h2=>exact .fn i (bZ.CJ h1 h.1) (bZ.CJ h2 h.2)
 | .xu _ _,_,hv,_=>by cases hv
 | .bool _,_,hv,_=>by cases hv;exact .bool _
 | .int _ _,_,hv,_=>by cases hv;exact .int _ _
 | .str _,_,hv,_=>by cases hv;exact .str _
 | .cR,_,hv,_=>by cases hv;exact .cR
 | .il,_,hv,_=>by cases hv;exact .il
 | .gL,_,hv,_=>by cases hv;exact .gL
 | .iS,_,hv,_=>by cases hv;exact .iS
 | .loc _ _,_,hv,_=>by cases hv;exact .loc _ _
 | .el _ _ _ _,_,hv,_=>by cases hv with|el _ _ _ hb=>exact .el _ _ _ hb
 | .ms _ _ _ _,_,hv,_=>by
  cases hv with
  |qI _ hb=>exact .qI _ hb
  |ms _ _ _ hb=>exact .ms _ _ _ hb
  |rE _ _ hl=>exact .rE _ _ hl
 | .mp _,_,hv,_=>by cases hv;exact .mp _
 | .it _,_,hv,_=>by cases hv;exact .it _
 | .undef,v,_,_=>.undef v
def bZ.CJ:∀{xs:aB} {vs:aM},bZ F g vs xs->lK xs=true->bZ F' g vs xs
 | [],_,hv,_=>by cases hv;exact .nil
 |x::l,_,hv,h=>by
  have h:(xl x&&lK l)=true:=h;rw[aY] at h;cases hv with|cons a b=>exact .cons (VA.CJ a h.1) (bZ.CJ b h.2)
end
def Nf:∀{Q:aT},(∀r∈Q,lK r=true)->lK Q.flatten=true
 | [],_=>rfl
 |r::Q,h=>by
  have ap:∀{a b:aB},lK a=true->lK b=true->lK (a++b)=true:=λ{a}=>by
   induction a with
   |nil=>exact λ_ h=>h
   |cons x l ih=>
    intro b h1 h2;have h1:(xl x&&lK l)=true:=h1;rw[aY] at h1;show (xl x&&lK (l++b))=true;rw[aY];exact ⟨h1.1,ih h1.2 h2⟩
  exact ap (h r (by simp)) (Nf λr hr=>h r (by simp[hr]))
def RowsK.xl {enc:Y->aB} {rows:List Y->aT} (R:RowsK enc rows) (h:∀x,lK (enc x)=true) (xs:List Y):∀r∈rows xs,lK r=true:=by
 rw[R.map];intro r hr;let ⟨x,_,e⟩:=dS.1 hr;rw[<-e];exact h x
def bP.aIa {m:P1} {RK s':Nat} (h:bP E f [] IP y [(RK,.rows z' e' s' Q')]) (hy:xl y=true) (Fz:((dE y).all λj=>Nat.beq j RK)=true) (hx:ze k (m.app (ay z (.jW e s Q) (.slice e s Q))) (λ_=>.undef) xs=IP) (hq:Q.length=n) (ho:A6 k xs= [(s,n)]) (hnr:(iu RK||Nat.beq (fN RK) (fN k))=false) (hd:∀r∈Q',lK r=true):
  bP E f [(k,.rows z e s Q)] xs y [(k,.rows z e s Q),(RK,.rows z' e' s' Q')]:=.mk λ{F g J hh aa} dK has=>by
 subst hq;subst hx;have bY:RK≠k:=λe=>by rw[(beq_iff _ _).2 (bA fN e),Bool.or_true] at hnr;cases hnr
 have hb:lk k [(k,Bx.rows z e s Q)]=some (.rows z e s Q):=by rw[cr,ax rfl]
 have atU:=dK.bx k _ hb;let F1:Hf:=λi=>if i∈J k then hh.hp.get i else F i
 have nf:∀i∈J k,F i=none:=dK.nf k _ hb;have hF:gq F F1:=λid o hi=>by
  show (if id∈J k then hh.hp.get id else F id)=some o
  split
  ·exact dK.sub id o hi
  ·exact hi
 have uX:gq F1 hh.hp.get:=λid o hi=>by
  have hi:(if id∈J k then hh.hp.get id else F id)=some o:=hi
  split at hi
  ·exact hi
  ·exact dK.sub id o hi
 have ed:(ay z (.jW e s Q) (.slice e s Q):AV)=Hu (.rows z e s Q):=by cases z<;>rfl
 have zv:adC F F1 g k (m.app (ay z (.jW e s Q) (.slice e s Q))) (λ_=>.undef) s Q.length:=by
  rw[ed];have:=FH (x:=false) (F:=F) (F':=F1) (g:=g) (hp:=hh.hp.get) (K:=k) (b:=.rows z e s Q) (fp:=J k) hF rfl (λi hi=>ax hi) atU
  exact ⟨hF,λv hv=>m.va (this.ms v hv),λv off _=>.undef v⟩
 have Oa:yi F1 g J [] hh:=by
  refine ⟨λt x hx=>(by cases hx),λk b hb=>(by cases hb),λk k' b b' hb=>(by cases hb),λk b hb=>(by cases hb),uX,dK.bd,cF _,λx _ _=>rfl,gq.refl _,λid o hi=>.inl hi,λk b hb=>(by cases hb),λx hx=>(by cases hx),λk hk=> ?_⟩
  exact λ_ _=>⟨rfl,rfl,rfl⟩
 have abV:bZ F1 g aa (ze k (m.app (ay z (.jW e s Q) (.slice e s Q))) (λ_=>.undef) xs):=bZ.gx zv has λq hq=>by
  rw[ho] at hq;simpa using hq
 let ⟨F2,g2,φ2,h1,v,go,hv,r⟩:=h.go Oa abV;have hRK:lk RK [(RK,Bx.rows z' e' s' Q')]=some (.rows z' e' s' Q'):=by rw[cr,ax rfl]
 have q2:=r.bx RK _ hRK;have akO:∀i∈φ2 RK,hh.nx<=i:=λi hi=>(r.l6 RK _ hRK i hi).elim (λc=>by
  let ⟨_,_,_,hn,_⟩:=mV c;cases hn) λc=>c
 have aaO:∀i∈J k,i<hh.nx:=λi hi=>by
  by_cases bD:i<hh.nx
  ·exact bD
  ·exact absurd (dK.bd i (show hh.nx<=i by omega)) (atU.there i hi)
 have keep:∀x,x<hh.nx->h1.hp.get x=hh.hp.get x:=λx hx=>r.old x hx λk' hp=>by
  let ⟨_,_,_,hn,_⟩:=mV hp;cases hn
 let g3:Gb:=⟨λj=>if j=RK then g2.Z j else g.Z j,λj=>if j=RK then g2.κ j else g.κ j,λj=>if j=RK then g2.O j else g.O j⟩
 have g3n:∀j,j≠RK->kg g g3 [j]:=λj hj i hi=>by
  have e:i≠RK:=by rw[show i=j by simpa using hi];exact hj
  exact ⟨aA e,aA e,aA e⟩
 have g3k:kg g g3 [k]:=g3n k (zl bY);have g3o:kg g2 g3 [RK]:=λj hj=>by
  have e:j=RK:=by simpa using hj
  exact ⟨ax e,ax e,ax e⟩
 have zN:∀{j b},lk j [(k,Bx.rows z e s Q),(RK,Bx.rows z' e' s' Q')]=some b->(j=k/\b= .rows z e s Q)\/(j=RK/\j≠k/\b= .rows z' e' s' Q'):=λ{j b} hj=>by
  rw[cr,cr] at hj;split at hj
  ·cases hj;exact .inl ⟨by assumption,rfl⟩
  ·split at hj
   ·cases hj;exact .inr ⟨by assumption,by assumption,rfl⟩
   ·cases hj
 have asq:gq F h1.hp.get:=λid o hi=>r.sub id o (r.f0 id o (hF id o hi))
 have flt:∀i o,F i=some o->i<hh.nx:=λi o hi=>by
  by_cases bD:i<hh.nx
  ·exact bD
  ·have:=dK.sub i o hi;rw[dK.bd i (show hh.nx<=i by omega)] at this;cases this
 refine ⟨F,g3,λj=>if j=k then J k else φ2 j,h1,v,go,?_,?_⟩
 ·exact (hv.CJ hy).gb (λj hj=>g3o j (cB.2 ((beq_iff _ _).1 (dV.1 Fz j hj))))
 ·refine ⟨λt x hx=>(by cases hx),λj b hj=> ?_,λj j' b b' hj jB DC i hi=> ?_,λj b hj i hi=> ?_,asq,r.bd,r.nx,λx hx _=>keep x hx,gq.refl _,λid o hi=>.inl hi,λj b hj i hi=> ?_,λx hx=> ?_,λj hj=> ?_⟩
  ·rcases zN hj with ⟨rfl,rfl⟩|⟨rfl,hjk,rfl⟩
   ·rw[ax rfl];exact fC.keep (gq.refl F) (atU.gb g3k (λ_ hc=>by cases hc)) λi hi=>keep i (aaO i hi)
   ·rw[aA hjk];have:fC F g2 h1.hp.get j (.rows z' e' s' Q') (φ2 j):=by
     generalize φ2 j=fp at q2 ⊢;cases q2 with
     |dD fT=>exact .dD fT
     |rows fT hh0 hz hu hc q=>exact .rows fT hh0 hz hu hc (bZ.CJ q (Nf hd))
    exact this.gb g3o (λ_ hc=>by cases hc)
  ·rcases zN hj with ⟨rfl,rfl⟩|⟨rfl,hjk,rfl⟩<;>rcases zN jB with ⟨rfl,rfl⟩|⟨rfl,hjk',rfl⟩
   ·exact absurd rfl DC
   ·rw[ax rfl] at hi;rw[aA hjk'];exact λhc=>by have:=akO i hc;have:=aaO i hi;omega
   ·rw[aA hjk] at hi;rw[ax rfl];exact λhc=>by have:=akO i hi;have:=aaO i hc;omega
   ·exact absurd rfl DC
  ·rcases zN hj with ⟨rfl,rfl⟩|⟨rfl,hjk,rfl⟩
   ·rw[ax rfl] at hi;exact nf i hi
   ·rw[aA hjk] at hi;cases hf:F i with
    |none=>rfl
    |some o=>have:=flt i o hf;have:=akO i hi;omega
  ·rcases zN hj with ⟨rfl,rfl⟩|⟨rfl,hjk,rfl⟩
   ·rw[ax rfl] at hi;exact .inl (nC hb hi)
   ·rw[aA hjk] at hi;exact .inr (akO i hi)
  ·rcases r.lg x hx with ⟨k',hp⟩|hp
   ·let ⟨_,_,_,hn,_⟩:=mV hp;cases hn
   ·exact .inr hp
  ·have hj:(iu j||(Nat.beq (fN k) (fN j)||false))=true:=Bs.akz hj;rw[Bool.or_false] at hj;exact g3n j λe=>by
    rw[e] at hj;rcases (oG _ _).mp hj with c|c
    ·rw[c] at hnr;cases hnr
    ·rw[(beq_iff _ _).2 ((beq_iff _ _).1 c).symm,Bool.or_true] at hnr;cases hnr
def bP.lend {m:P1} {RK s' n':Nat} (h:bP E f [] IP (.ms RK s' 0 n') [(RK,.rows z' e' s' Q')]) (hx:ze k (m.app (ay z (.jW e s Q) (.slice e s Q))) (λ_=>.undef) xs=IP) (hq:Q.length=n) (ho:A6 k xs= [(s,n)]) (hnr:(iu RK||Nat.beq (fN RK) (fN k))=false) (hd:∀r∈Q',lK r=true):
  bP E f [(k,.rows z e s Q)] xs (.ms RK s' 0 n') [(k,.rows z e s Q),(RK,.rows z' e' s' Q')]:=h.aIa rfl (by rw[dV];intro j hj;rw[beq_iff];simpa[dE] using hj) hx hq ho hnr hd
end
section
variable {F F':Hf} {g g':Gb} {E:Env}
variable {o:dd} {hp:Hf} {s:Nat} {l:ew} {o2:Out} {bx:bH} {Y:Type}
def bxE:Bx->Nat
 | .rows _ e _ _=>e
 | .tree e _ _ _ _=>e
 |_=>0
def zy (x:AV):AV:=ay (dE x).isEmpty x .undef
def immB (lo:aI) (b:Bx):AV:=zy ((ay (ke (bxE b) lo) (P1.sx 0 0) (P1.sl 0 0)).app (UZ false b))
def NH:aB->dd->aB
 |l,[]=>l
 |l,p::o=>NH (l.set p.1 p.2) o
def uD (sz:Nat) (Q:aT) (o:dd):aT:=ry sz Q.length (NH Q.flatten o)
def axn (f:AV->AV):Bx->Bx
 | .tree e s l Q (p::o)=>.tree e s l (uD s Q (l4 f (p::o))) []
 |b=>b
def Z7:∀{o:dd} {l:aB},(NH l o).length=l.length
 | [],_=>rfl
 |p::o,l=>by
  show (NH (l.set p.1 p.2) o).length=_;rw[Z7,hZ]
def Ql {sz:Nat}:∀{Q:aT},(∀r∈Q,r.length=sz)->ry sz Q.length Q.flatten=Q
 | [],_=>rfl
 |r::Q,h=>by
  have hr:=h r gw;show ((r++Q.flatten).take sz)::ry sz Q.length ((r++Q.flatten).drop sz)=_;rw[yl hr,Ss hr,Ql λr' h'=>h r' (dR _ h')]
def aBk {sz:Nat} (hu:∀r∈Q,r.length=sz):(uD sz Q o).length=Q.length/\(∀r∈uD sz Q o,r.length=sz)/\(uD sz Q o).flatten=NH Q.flatten o:=
 Of (by rw[Z7,Hz hu])
def asS:aB->dd->aB
 |r,[]=>r
 |r,p::o=>asS (r.set p.1 p.2) o
def Jp (j sz:Nat):dd->dd
 | []=> []
 |p::o=>(Nat.add (Nat.mul j sz) p.1,p.2)::Jp j sz o
def aci {sz j:Nat} {Q:aT} (hu:∀r∈Q,r.length=sz) (hj:j<Q.length):∀{o:dd} {r:aB},r.length=sz->(o.all λp=>Nat.ble (Nat.succ p.1) sz)=true->uD sz (Q.set j r) (Jp j sz o)=Q.set j (asS r o)
 | [],r,hr,_=>by
  have h1:∀r'∈Q.set j r,r'.length=sz:=λr' fY=>(tE fY).elim (hu r') λe=>by rw[e];exact hr
  have:=Ql h1;exact this
 |p::o,r,hr,ho=>by
  have ho:=qZ.1 (show (Nat.ble (Nat.succ p.1) sz&&o.all λp=>Nat.ble (Nat.succ p.1) sz)=true from ho)
  have hp:p.1<sz:=fU ho.1;have h1:∀r'∈Q.set j r,r'.length=sz:=λr' fY=>(tE fY).elim (hu r') λe=>by rw[e];exact hr
  have hjr:(Q.set j r)[j]? =some r:=by rw[uw hj]
  have e1:(Q.set j r).flatten.set (j*sz+p.1) p.2=(Q.set j (r.set p.1 p.2)).flatten:=by
   have h2:=zf (xs:= [p.2]) h1 hjr (show p.1+1<=sz from hp);rw[pI,m8 (by omega)] at h2
   rw[h2];rw[m8];rw[Hz h1,hZ];have:(j+1)*sz<=Q.length*sz:=gz _ (by omega)
   rw[eK,kO] at this;omega
  have ih:=aci hu hj (o:=o) (r:=r.set p.1 p.2) (by rw[hZ];exact hr) ho.2
  have:uD sz (Q.set j r) (Jp j sz (p::o))=uD sz (Q.set j (r.set p.1 p.2)) (Jp j sz o):=by
   unfold uD;rw[hZ,hZ];show ry sz Q.length (NH ((Q.set j r).flatten.set (j*sz+p.1) p.2) (Jp j sz o))=_;rw[e1]
  rw[this,ih];rfl
def xt (lo:aI) (bs:bH):Nat->AV->AV
 |0,x=>zy x
 |n+1,x=>match x with
  | .agg cs=>.agg (cs.map (xt lo bs n))
  | .fn i a c=>.fn i (a.map (xt lo bs n)) (c.map (xt lo bs n))
  | .loc K off=>(match lk K bs with
   |some (.flat _ cs)=>ay (Nat.ble off cs.length) (zy (.iw ((cs.map λx=>zy (xt lo bs n x)).drop off))) .undef
   |_=>.undef)
  | .ms K s l m=>(match lk K bs with
   |some b=>ay (jI b&&(Nat.beq l 0&&Nat.beq (J8 b).1 s)) (immB lo (axn (λx=>zy (xt lo bs n x)) b)) .undef
   |none=>.undef)
  |x=>zy x
def auj:Bx->aB
 | .tree _ _ _ _ o=>o.map (·.2)
 |_=> []
def mn (bs:bH):Nat->AV->List (Nat×Nat)
 |0,_=> []
 |n+1,x=>match x with
  | .agg cs=>lj (mn bs n) cs
  | .fn _ a c=>lj (mn bs n) a++lj (mn bs n) c
  | .loc K _=>(match lk K bs with
   |some (.flat _ cs)=>lj (mn bs n) cs
   |_=> [])
  | .ms K _ _ m=>(match lk K bs with
   |some b=>((J8 b).2,m)::lj (mn bs n) (auj b)
   |none=> [])
  |_=> []
where lj (f:AV->List (Nat×Nat)):aB->List (Nat×Nat)
 | []=> []
 |x::l=>f x++lj f l
def jV:List (Nat×Nat)->Prop
 | []=>True
 |p::l=>p.1=p.2/\jV l
def jV.app:∀{a b:List (Nat×Nat)},jV (a++b)->jV a/\jV b
 | [],_,h=>⟨trivial,h⟩
 |_::_,_,h=>⟨⟨h.1,(jV.app h.2).1⟩,(jV.app h.2).2⟩
def aaz (x:AV):(dE (zy x)).isEmpty=true:=by
 unfold zy;rw[bk];split
 ·assumption
 ·rfl
def Ff (h:VA F g v x):VA F g v (zy x):=by
 unfold zy;rw[bk];split
 ·exact h
 ·exact .undef v
def VT {Y:Type} (f:Y->AV):∀l:List Y,(eW (l.map λx=>zy (f x))).isEmpty=true
 | []=>rfl
 |x::l=>by
  show (dE (zy (f x))++eW (l.map λx=>zy (f x))).isEmpty=true
  rw[ER.1 (aaz (f x)),nr];exact VT f l
def bZ.xn {f:AV->AV} {q:AV->List (Nat×Nat)} (hf:∀{v x},jV (q x)->VA F g v x->VA F' g v (f x)):∀{vs xs},jV (mn.lj q xs)->bZ F g vs xs->bZ F' g vs (xs.map f)
 |_,_,_,.nil=>.nil
 |_,_,ho,.cons h t=>.cons (hf (jV.app ho).1 h) (bZ.xn hf (jV.app ho).2 t)
def ahK:∀{o:dd} {vs:aM} {xs:aB},bZ F' g' vs xs->(∀p∈o,∀v,vs[p.1]? =some v->VA F' g' v p.2)->bZ F' g' vs (NH xs o)
 | [],_,_,h,_=>h
 |p::o,vs,xs,h,ho=>by
  refine ahK (o:=o) ?_ λq hq=>ho q (dR _ hq)
  by_cases bD:p.1<vs.length
  ·exact h.asF (dW bD) (ho p gw _ (dW bD))
  ·rw[agH (by rw[<-h.length];omega)]
   exact h
def V0 {f:AV->AV}:∀{o:dd} {p:Nat×AV},p∈l4 f o->∃x,(p.1,x)∈o/\p.2=f x
 | [],_,h=>by cases h
 |q::l,p,h=>by
  rcases bB.1 h with rfl|h
  ·exact ⟨q.2,gw,rfl⟩
  ·let ⟨x,h1,h2⟩:=V0 h;exact ⟨x,dR _ h1,h2⟩
def aiN {svs:aM}:∀{o:dd},C1 F g svs o->∀{i:Nat} {x:AV},(i,x)∈o->∃v,svs[i]? =some v/\VA F g v x
 |p::l,h,i,x,hm=>by
  rcases bB.1 hm with rfl|hm
  ·exact h.1
  ·exact aiN h.2 hm
def aIp {f:AV->AV} (hF:gq F F') (hi:∀i∈fp,F' i=hp i) (q:fC F g hp K (.tree e s l Q o) fp) (hf:∀i x,(i,x)∈o->∀v,VA F g v x->VA F' .no v (f x)) (v:SV) (hv:VA F g v (.ms K s 0 Q.length)):VA F' g v (UZ false (.tree e s l (uD s Q (l4 f o)) [])):=by
 show VA F' g v (tL false e s (uD s Q (l4 f o)));cases q with
 |iA hb=>
  have hv:VA F g v (.ms K s 0 0):=hv;cases hv with
  |qI=>exact .p8 e s
  |rE _ _ h0=>cases h0
  |ms _ _ _ cn=>rw[hb] at cn;cases cn
 | @tree _ _ _ _ _ svs fs hb hh hu hc q nd ho=>
  let ⟨f1,f2,f3⟩:=aBk (o:=l4 f o) hu;generalize hm:Q.length=m at hv;cases hv with
  |qI s cn=>rw[hb] at cn;cases cn
  |rE _ _ h0=>cases h0
  |ms _ _ _ cn=>
   subst hm;have hF0:=(hi (g.Z K) (by simp)).trans hh
   have hl:=gE hc;have hd:=q.data hF λi h=>hi i (dR _ h)
   have Iz:C7 e Q.length (uP (g.κ K) 0):=by have:=FM hc;cases hκ:g.κ K<;>rw[hκ] at this<;>exact this
   rw[nV];refine .slice (jd hF0) Iz f1.symm f2 (by omega) ?_
   rw[pJ,f3];refine ahK hd λp gy v' qJ=> ?_
   let ⟨x,x1,x2⟩:=V0 gy;let ⟨v0,w1,w2⟩:=aiN ho x1;rw[eR] at qJ;split at qJ
   ·rw[w1] at qJ;cases qJ;rw[x2];exact hf _ _ x1 _ w2
   ·cases qJ
def UG {lo:aI} {bs:bH} {hp:Hf} {J:cS} (hF:gq F F') (hb:∀k b,lk k bs=some b->fC F g hp k b (J k)) (hi:∀k b,lk k bs=some b->∀i∈J k,F' i=hp i):∀(n:Nat) {v:SV} {x:AV},jV (mn bs n x)->VA F g v x->VA F' g v (xt lo bs n x)
 |0,v,x,_,h=>Ff (h.mono hF)
 |n+1,v,x,ho,h=>by
  have ih:∀{v:SV} {x:AV},jV (mn bs n x)->VA F g v x->VA F' g v (xt lo bs n x):=λho h=>UG hF hb hi n ho h
  cases x with
  |agg cs=>cases h with|agg h=>exact .agg (h.xn ih ho)
  |fn i a c=>cases h with|fn _ h1 h2=>exact .fn i (h1.xn ih (jV.app ho).1) (h2.xn ih (jV.app ho).2)
  |loc K off=>
   show VA F' g v (match lk K bs with
    |some (.flat _ cs)=>ay (Nat.ble off cs.length) (zy (.iw ((cs.map λx=>zy (xt lo bs n x)).drop off))) .undef
    |_=>.undef)
   split
   ·rename_i e cs hK;have ho:jV (mn.lj (mn bs n) cs):=by
     have ho:jV (match lk K bs with
      |some (.flat _ cs)=>mn.lj (mn bs n) cs
      |_=> []):=ho
     rw[hK] at ho;exact ho
    rw[bk];split
    ·rename_i hle;have hle:=fU hle;have q:=hb K _ hK;have hi:=hi K _ hK;generalize J K=fp at q hi;cases q with
     | @flat _ _ svs hh q=>
     cases h with
     |loc=>
     have q2:bZ F' g svs (cs.map λx=>zy (xt lo bs n x)):=q.xn (λho h=>Ff (ih ho h)) ho
     have hlen:=q.length;refine Ff (.iw (e:=e) (svs:=svs) (jd ((hi _ (by simp)).trans hh)) ?_ ?_)
     ·rw[gJ,iz];omega
     ·have:=(q2.jI (g':=.no) (VT _ _)).drop off;rw[lF (by rw[gJ,gJ,iz];omega)]
      exact this
    ·exact .undef v
   ·exact .undef v
  |ms K s l m=>
   show VA F' g v (match lk K bs with
    |some b=>ay (jI b&&(Nat.beq l 0&&Nat.beq (J8 b).1 s)) (immB lo (axn (λx=>zy (xt lo bs n x)) b)) .undef
    |none=>.undef)
   split
   ·rename_i b hK;have ho:jV (match lk K bs with
     |some b=>((J8 b).2,m)::mn.lj (mn bs n) (auj b)
     |none=> []):=ho
    rw[hK] at ho;have e4:(J8 b).2=m:=ho.1;have ho2:jV (mn.lj (mn bs n) (auj b)):=ho.2;rw[bk];split
    ·rename_i hc;simp only[aY] at hc;let ⟨c1,c2,c3⟩:=hc;have e2:l=0:=(beq_iff _ _).1 c2;have e3:(J8 b).1=s:=(beq_iff _ _).1 c3;subst e2;subst e3;subst e4;refine Ff (P1.va _ ?_);have old:VA F' g v (UZ false b):=(FH (x:=false) hF c1 (hi K b hK) (hb K b hK)).ms v h;cases b with
     |tree e s l Q o=>
      cases o with
      |nil=>exact old
      |cons p o=>
       have ho2:jV (mn.lj (mn bs n) ((p::o).map (·.2))):=ho2
       refine aIp (o:=p::o) hF (hi K _ hK) (hb K _ hK) (λi x hx v' qJ=> ?_) v h
       have key:∀(o:dd),jV (mn.lj (mn bs n) (o.map (·.2)))->(i,x)∈o->jV (mn bs n x):=λo=>by
        induction o with
        |nil=>exact λ_ hm=>by cases hm
        |cons q o ih=>
         intro h1 hm;rcases bB.1 hm with e|hm
         ·rw[show x=q.2 from bA Prod.snd e];exact (jV.app h1).1
         ·exact ih (jV.app h1).2 hm
       exact (Ff (ih (key _ ho2 hx) qJ)).jI (aaz _)
     |_=>exact old
    ·exact .undef v
   ·exact .undef v
  |_=>exact Ff (h.mono hF)
def bP.yI {lo:aI} (h:bP E f [] IP y []) (hx:xs.map (xt lo bs n)=IP) (ho:jV (mn.lj (mn bs n) xs)=P) (hP:P) (hd:xl y=true) (hk:(dE y).isEmpty=true):
  bP E f bs xs y bs:=.mk λ{F g J hh aa} dK has=>by
 classical
 subst hx;have ho:jV (mn.lj (mn bs n) xs):=by rw[ho];exact hP
 let T:Nat->Prop:=λi=>∃k b,lk k bs=some b/\i∈J k
 let F1:Hf:=λi=>if T i then hh.hp.get i else F i
 have hF:gq F F1:=λid o hi=>by
  show (if T id then hh.hp.get id else F id)=some o
  split
  ·exact dK.sub id o hi
  ·exact hi
 have uX:gq F1 hh.hp.get:=λid o hi=>by
  have hi:(if T id then hh.hp.get id else F id)=some o:=hi
  split at hi
  ·exact hi
  ·exact dK.sub id o hi
 have Oa:yi F1 g J [] hh:=by
  refine ⟨λt x hx=>(by cases hx),λk b hb=>(by cases hb),λk k' b b' hb=>(by cases hb),λk b hb=>(by cases hb),uX,dK.bd,cF _,λx _ _=>rfl,gq.refl _,λid o hi=>.inl hi,λk b hb=>(by cases hb),λx hx=>(by cases hx),λk hk=> ?_⟩
  exact λ_ _=>⟨rfl,rfl,rfl⟩
 have abV:bZ F1 g aa (xs.map (xt lo bs n)):=has.xn (λho h=>UG hF (λk b hb=>dK.bx k b hb) (λk b hb i hi=>ax ⟨k,b,hb,hi⟩) n ho h) ho
 let ⟨F2,g2,φ2,h1,v,go,hv,r⟩:=h.go Oa abV;have aaO:∀k b,lk k bs=some b->∀i∈J k,i<hh.nx:=λk b hb i hi=>by
  by_cases bD:i<hh.nx
  ·exact bD
  ·exact absurd (dK.bd i (show hh.nx<=i by omega)) ((dK.bx k b hb).there i hi)
 have keep:∀x,x<hh.nx->h1.hp.get x=hh.hp.get x:=λx hx=>r.old x hx λk' hp=>by
  let ⟨_,_,_,hn,_⟩:=mV hp;cases hn
 have asq:gq F h1.hp.get:=λid o hi=>r.sub id o (r.f0 id o (hF id o hi))
 refine ⟨F,g,J,h1,v,go,(hv.CJ hd).jI hk,?_⟩;refine ⟨λt x hx=>(by cases hx),λj b hj=> ?_,λj j' b b' hj jB DC=>dK.dj j j' b b' hj jB DC,λj b hj=>dK.nf j b hj,asq,r.bd,r.nx,λx hx _=>keep x hx,gq.refl _,λid o hi=>.inl hi,λj b hj i hi=>.inl (nC hj hi),λx hx=> ?_,λj hj=> ?_⟩
 ·exact fC.keep (gq.refl F) (dK.bx j b hj) λi hi=>keep i (aaO j b hj i hi)
 ·rcases r.lg x hx with ⟨k',hp⟩|hp
  ·let ⟨_,_,_,hn,_⟩:=mV hp;cases hn
  ·exact .inr hp
 ·exact λ_ _=>⟨rfl,rfl,rfl⟩
def df.det {j:j7} (h1:df E j o1) (h2:df E j o2):o1=o2:=by
 let ⟨a,ha⟩:=h1;let ⟨b,hb⟩:=h2;exact (ha (a+b) (xa _ _)).symm.trans (hb (a+b) (Nat.le_add_left _ _))
def bP.awt {lo:aI} (h:bP E f [] IP y0 []) (h2:bP E f bs xs y cC) (hx:xs.map (xt lo bs n)=IP) (ho:jV (mn.lj (mn bs n) xs)=P) (hP:P) (hd:xl y=true) (hk:((dE y).all λk=>gi k bs&&lA k)=true):
  MZ E f bs xs y:=.mk λ{F g J hh aa} dK has=>by
 classical
 subst hx;have ho:jV (mn.lj (mn bs n) xs):=by rw[ho];exact hP
 let T:Nat->Prop:=λi=>∃k b,lk k bs=some b/\i∈J k
 let F1:Hf:=λi=>if T i then hh.hp.get i else F i
 have hF:gq F F1:=λid o hi=>by
  show (if T id then hh.hp.get id else F id)=some o
  split
  ·exact dK.sub id o hi
  ·exact hi
 have uX:gq F1 hh.hp.get:=λid o hi=>by
  have hi:(if T id then hh.hp.get id else F id)=some o:=hi
  split at hi
  ·exact hi
  ·exact dK.sub id o hi
 have Oa:yi F1 g J [] hh:=by
  refine ⟨λt x hx=>(by cases hx),λk b hb=>(by cases hb),λk k' b b' hb=>(by cases hb),λk b hb=>(by cases hb),uX,dK.bd,cF _,λx _ _=>rfl,gq.refl _,λid o hi=>.inl hi,λk b hb=>(by cases hb),λx hx=>(by cases hx),λk hk=> ?_⟩
  exact λ_ _=>⟨rfl,rfl,rfl⟩
 have abV:bZ F1 g aa (xs.map (xt lo bs n)):=has.xn (λho h=>UG hF (λk b hb=>dK.bx k b hb) (λk b hb i hi=>ax ⟨k,b,hb,hi⟩) n ho h) ho
 let ⟨F2,g2,φ2,h1,v,go,hv,r⟩:=h.go Oa abV;let ⟨F3,g3,φ3,h3,v3,go3,hv3,r3⟩:=h2.go dK has;have e:=go.det go3;have e1:v=v3:=by
  injection e with e
  injection e with e _
  injection e with _ e1 _
 refine ⟨h1,v,go,?_,r.nx,λx hx=>r.old x hx λk' hp=> ?_,r.bd,λx hx=> ?_⟩
 ·rw[e1];refine (hv3.CJ hd).gb λk gO=> ?_
  have hb:=qZ.1 ((dV.1 hk) k gO);let ⟨c1,c2,c3⟩:=r3.Ip k (show ay (gi k bs) (lA k) false=true by rw[hb.1];exact hb.2) k (by simp)
  exact ⟨c1.symm,c2.symm,c3.symm⟩
 ·let ⟨_,_,_,hn,_⟩:=mV hp;cases hn
 ·rcases r.lg x hx with ⟨k',hp⟩|hp
  ·let ⟨_,_,_,hn,_⟩:=mV hp;cases hn
  ·exact hp
def aiH (bs:bH) (p:Nat->Bool):Bool:=bs.all λq=>p q.1&&q.2.keys.all p
def frmB (bs cC bx:bH) (y:AV):Bool:=
 (bx.all λq=>((lk q.1 bs).isNone&&(lk q.1 cC).isNone)&&ay (iu q.1) (!cC.any λp=>Nat.beq (fN p.1) (fN q.1)) true)&&(aiH bx (λk=>ay (gi k cC) (gi k bs&&lA k) true)&&(aiH cC (λk=>gi k cC)&&(dE y).all λk=>gi k cC))
def Nq {a b:bH}:gi k (a++b)=(gi k a||gi k b):=by
 unfold gi;rw[List.any_append];cases iu k<;>simp
def bP.frame (h:bP E f bs xs y cC) (hc:frmB bs cC bx y=true):xV E f (bs++bx) xs y (cC++bx) (bs.map (·.1)):=.mk λ{F g J hh aa} dK has=>by
 unfold frmB at hc;simp only[aY] at hc;let ⟨c1,c2,c3,c4⟩:=hc;have k1:∀{k b},lk k bx=some b->lk k bs=none/\lk k cC=none:=λhb=>by
  have:=(dV.1 c1) _ (nX hb);rw[aY,aY] at this;exact ⟨by simpa using this.1.1,by simpa using this.1.2⟩
 have k2:∀{k b},lk k bx=some b->∀j,j=k\/j∈b.keys->gi j cC=true->gi j bs=true/\lA j=true:=λ{k b} hb j hj hr=>by
  have:=(dV.1 c2) _ (nX hb);rw[aY] at this;have this:ay (gi j cC) (gi j bs&&lA j) true=true:=hj.elim (λe=>e ▸ this.1) λhm=>(dV.1 this.2) j hm
  rw[hr] at this;exact qZ.1 this
 have k3:∀{k b},lk k cC=some b->∀j,j=k\/j∈b.keys->gi j cC=true:=λ{k b} hb j hj=>by
  have:=(dV.1 c3) _ (nX hb);rw[aY] at this;exact hj.elim (λe=>e ▸ this.1) λhm=>(dV.1 this.2) j hm
 have lkL:∀{k b},lk k bs=some b->lk k (bs++bx)=some b:=λhb=>by rw[wS,hb];rfl
 have lkR:∀{k b},lk k bx=some b->lk k (bs++bx)=some b:=λhb=>by rw[wS,(k1 hb).1,hb];rfl
 have lkS:∀{k b},lk k (cC++bx)=some b->lk k cC=some b\/(lk k cC=none/\lk k bx=some b):=λ{k b} hb=>by
  rw[wS] at hb;cases hl:lk k cC with
  |none=>rw[hl] at hb;exact .inr ⟨rfl,hb⟩
  |some c=>rw[hl] at hb;cases hb;exact .inl rfl
 have Oa:yi F g J bs hh:=by
  refine ⟨λt x hx=>(by cases hx),λk b hb=>dK.bx k b (lkL hb),λk k' b b' hb cn=>dK.dj k k' b b' (lkL hb) (lkL cn),λk b hb=>dK.nf k b (lkL hb),dK.sub,dK.bd,cF _,λx _ _=>rfl,gq.refl _,λid o hi=>.inl hi,λk b hb i hi=>.inl (nC hb hi),λx hx=>(by cases hx),λk _ j hj=>⟨rfl,rfl,rfl⟩⟩
 let ⟨F',g',φ',h1,v,go,hv,r⟩:=h.go Oa has;let g3:Gb:=⟨λk=>cond (gi k cC) (g'.Z k) (g.Z k),λk=>cond (gi k cC) (g'.κ k) (g.κ k),λk=>cond (gi k cC) (g'.O k) (g.O k)⟩
 have g3i:∀{k},gi k cC=true->kg g' g3 [k]:=λ{k} hk j hj=>by
  have e:j=k:=by simpa using hj
  subst e;exact ⟨by show cond (gi j cC) _ _=_;rw[hk];rfl,by show cond (gi j cC) _ _=_;rw[hk];rfl,by show cond (gi j cC) _ _=_;rw[hk];rfl⟩
 have g3o:∀{k},(gi k cC=true->gi k bs=true/\lA k=true)->kg g g3 [k]:=λ{k} hk j hj=>by
  have e:j=k:=by simpa using hj
  subst e;cases hr:gi j cC with
  |false=>exact ⟨by show cond (gi j cC) _ _=_;rw[hr];rfl,by show cond (gi j cC) _ _=_;rw[hr];rfl,by show cond (gi j cC) _ _=_;rw[hr];rfl⟩
  |true=>
   let ⟨a1,a2⟩:=hk hr;let ⟨p1,p2,p3⟩:=r.Ip j (by show ay (gi j bs) (lA j) false=true;rw[a1];exact a2) j (by simp)
   let ⟨q1,q2,q3⟩:=g3i hr j (by simp)
   exact ⟨q1.trans p1,q2.trans p2,q3.trans p3⟩
 have gsk:∀{g1 g2:Gb} {ks:aI},(∀j∈ks,kg g1 g2 [j])->kg g1 g2 ks:=λh j hj=>h j hj j (by simp)
 have psU:∀{k i},(u9 F g J bs hh).ps k i->(u9 F g J (bs++bx) hh).ps k i:=λ{k i} hp=>by
  let ⟨k',b,e,hb,hi⟩:=mV hp;refine ⟨?_,k',e,?_⟩
  ·show gi k (bs++bx)=true;rw[Nq,show gi k bs=true from hp.1];rfl
  ·show i∈ @Option.rec Bx (λ_=>aI) [] (λ_=>J k') (lk k' (bs++bx))
   rw[lkL hb];exact hi
 have atb:∀{k b},lk k bx=some b->∀i∈J k,i<hh.nx/\∀k',¬(u9 F g J bs hh).ps k' i:=λ{k b} hb i hi=>by
  constructor
  ·by_cases bD:i<hh.nx
   ·exact bD
   ·exact absurd (dK.bd i (show hh.nx<=i by omega)) ((dK.bx k b (lkR hb)).there i hi)
  ·intro k' hp;let ⟨k2',b',e,cn,mw⟩:=mV hp;exact dK.dj k k2' b b' (lkR hb) (lkL cn) (λe=>by rw[e] at hb;rw[(k1 hb).1] at cn;cases cn) i hi mw
 let φ3:cS:=λk=>cond (lk k cC).isSome (φ' k) (J k)
 have φi:∀{k b},lk k cC=some b->φ3 k=φ' k:=λ{k b} hb=>by show cond (lk k cC).isSome _ _=_;rw[hb];rfl
 have φo:∀{k},lk k cC=none->φ3 k=J k:=λ{k} hb=>by show cond (lk k cC).isSome _ _=_;rw[hb];rfl
 have aIb:∀{k b},lk k bx=some b->∀i∈J k,h1.hp.get i=hh.hp.get i:=λhb i hi=>by
  let ⟨a1,a2⟩:=atb hb i hi;exact r.old i a1 a2
 have apart:∀{k b k' b'},lk k cC=some b->lk k' bx=some b'->∀i∈φ' k,i∉J k':=λ{k b k' b'} hb cn i hi hc=>by
  let ⟨a1,a2⟩:=atb cn i hc;rcases r.l6 k b hb i hi with c|c
  ·exact a2 k c
  ·have c:hh.nx<=i:=c;omega
 refine ⟨F',g3,φ3,h1,v,go,hv.gb (gsk λj hj=>g3i ((dV.1 c4) j hj)),?_,λx hx bD=> ?_⟩
 rotate_left
 ·rcases r.lg x hx with ⟨k,hp⟩|hp
  ·let ⟨k',b',_,cn,hi⟩:=mV hp;exact ⟨k',dS.2 ⟨_,nX cn,rfl⟩,b',lkL cn,hi⟩
  ·have hp:hh.nx<=x:=hp;omega
 refine ⟨λt x hx=>(by cases hx),λk b hb=> ?_,λk k' b b' hb cn bY i hi=> ?_,λk b hb i hi=> ?_,r.sub,r.bd,r.nx,λx hx hp=>r.old x hx λk hq=>hp k (psU hq),r.f0,r.fn,λk b hb i hi=> ?_,λx hx=>(r.lg x hx).imp (λ⟨k,hp⟩=>⟨k,psU hp⟩) id,λk hk=> ?_⟩
 ·rcases lkS hb with hb|⟨hn,hb⟩
  ·rw[φi hb];exact (r.bx k b hb).gb (gsk λj hj=>g3i (k3 hb j (.inl (by simpa using hj)))) (gsk λj hj=>g3i (k3 hb j (.inr hj)))
  ·rw[φo hn];have q:=(dK.bx k b (lkR hb)).gb (g':=g3) (gsk λj hj=>g3o (k2 hb j (.inl (by simpa using hj)))) (gsk λj hj=>g3o (k2 hb j (.inr hj)))
   exact fC.keep r.f0 q λi hi=>aIb hb i hi
 ·rcases lkS hb with hb|⟨hn,hb⟩<;>rcases lkS cn with cn|⟨gC,cn⟩
  ·rw[φi hb] at hi;rw[φi cn];exact r.dj k k' b b' hb cn bY i hi
  ·rw[φi hb] at hi;rw[φo gC];exact apart hb cn i hi
  ·rw[φo hn] at hi;rw[φi cn];exact λhc=>apart cn hb i hc hi
  ·rw[φo hn] at hi;rw[φo gC];exact dK.dj k k' b b' (lkR hb) (lkR cn) bY i hi
 ·rcases lkS hb with hb|⟨hn,hb⟩
  ·rw[φi hb] at hi;exact r.nf k b hb i hi
  ·rw[φo hn] at hi;cases hf:F' i with
   |none=>rfl
   |some o=>
    rcases r.fn i o hf with c|c
    ·have c:F i=some o:=c;rw[dK.nf k b (lkR hb) i hi] at c;cases c
    ·have c:hh.nx<=i:=c;have:=(atb hb i hi).1;omega
 ·rcases lkS hb with hb|⟨hn,hb⟩
  ·rw[φi hb] at hi;exact (r.l6 k b hb i hi).imp psU id
  ·rw[φo hn] at hi;exact .inl (nC (lkR hb) hi)
 ·have DB:=Bs.akz hk;have DB:gi k (bs++bx)=true:=DB;have yd:lA k=true:=by
   have hk:ay (gi k (bs++bx)) (lA k) false=true:=hk;rw[DB] at hk;exact hk
  refine g3o λhr=>⟨?_,yd⟩
  cases hb:gi k bs with
  |true=>rfl
  |false=>
   rw[Nq,hb,Lx] at DB;have nb:iu k=false:=by
    cases hbk:iu k with
    |false=>rfl
    |true=>
     have:gi k bs=true:=(oG _ _).mpr (.inl hbk);rw[hb] at this;cases this
   have DB:(iu k||bx.any λp=>Nat.beq (fN p.1) (fN k))=true:=DB
   rw[nb,Lx] at DB;let ⟨p,hp,e⟩:=LA.1 DB;have e:fN p.1=fN k:=(beq_iff _ _).1 e;have JR:(iu k||cC.any λp=>Nat.beq (fN p.1) (fN k))=true:=hr
   rw[nb,Lx] at JR;have np:iu p.1=false:=by
    cases hbp:iu p.1 with
    |false=>rfl
    |true=>
     have h1:=(dV.1 c1) p hp;rw[aY,hbp] at h1;have h2:(!cC.any λp'=>Nat.beq (fN p'.1) (fN p.1))=true:=h1.2
     rw[e,JR] at h2;cases h2
   have hrp:gi p.1 cC=true:=(oG _ _).mpr (.inr (by rw[e];exact JR))
   have hx:=(dV.1 c2) p hp;rw[aY] at hx;have AH:ay (gi p.1 cC) (gi p.1 bs&&lA p.1) true=true:=hx.1;rw[hrp] at AH;have AH:=(qZ.1 AH).1;have cW:(iu p.1||bs.any λp'=>Nat.beq (fN p'.1) (fN p.1))=true:=AH
   rw[np,Lx,e] at cW;have:gi k bs=true:=(oG _ _).mpr (.inr cW);rw[hb] at this;cases this
def RowsK.fill {enc:Y->aB} {rows:List Y->aT} (R:RowsK enc rows) {xs zs:List Y} {sz:Nat} {z:Y} (hz:∀x,(enc x).length=sz) (h:setAt xs j z=some zs) (hr:asS r o=enc z) (hl:r.length=sz) (ho:(o.all λp=>Nat.ble (Nat.succ p.1) sz)=true):uD sz ((rows xs).set j r) (Jp j sz o)=rows zs:=by
 rw[aci (λr' fY=> ?_) (by rw[R.len];exact (qa h).2) hl ho,hr,(qa h).1,R.map,R.map,w6]
 rw[R.map] at fY;let ⟨x,_,e⟩:=dS.1 fY;rw[<-e];exact hz x
def RowsK.yJ {enc:Y->aB} {rows:List Y->aT} (R:RowsK enc rows) (xs:List Y) (j:Nat) (r:aB):((rows xs).set j r).length=xs.length:=by rw[hZ,R.len]
end
end Go.bQ
end
