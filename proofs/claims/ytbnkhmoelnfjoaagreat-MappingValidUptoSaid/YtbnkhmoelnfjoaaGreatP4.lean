/- Part. -/
import Derived.Test.YtbnkhmoelnfjoaaGreatP3
set_option linter.all false
noncomputable section
namespace Go.bQ
variable {a b c ox ix it:Operand} {f off n K j i0 new d:Nat} {x y:AV} {z mx z':Bool} {i i2:TI} {vs svs ws:aM} {cs xs r ys R:aB} {u v w:SV} {t e t2 src t1 e1:TypeId} {p:TypeId×TI} {k kd k1:IntKind} {m n1:Int} {rows Q P:aT} {Y:Type} {lo hi:Option Operand} {o:dd} {parts:Array (Nat×Operand)} {fs f0:aI} {c1:da} {q:TypeId×Nat×aT} {b1:Option Int} {es:List (AV×AV)}
section
variable {F F':Hf} {g g':Gb} {B:Bs} {J:cS} {s s' s1:LS} {tm:Tf} {h:Hs} {hp:Hf} {E:Env} {nt:Nat} {all l:bS}
def bX.un {op:Op} {f:Hf->SV->gf} (dN:∀tm hp new,oO E op tm hp new=one tm a (f hp)) (ha:bM s.ts a=y) (hy:y≠ .undef) (hf:∀{F:Hf} {g:Gb} {J:cS} {tm:Tf} {h:Hs} {v:SV},Rel B F g J s tm h->VA F g v y->∃u,f h.hp.get v=some (u,[])/\VA F g u x):bX E B op s s x none:=bX.pure λ{F g J tm h new} r=>by
 let ⟨v,v1,v2⟩:=r.val ha hy;let ⟨u,u1,u2⟩:=hf r v2;refine ⟨u,?_,u2⟩;rw[dN];unfold one;rw[v1];exact u1
def bX.bi {op:Op} {f:Hf->SV->SV->gf} {z:AV} (dN:∀tm hp new,oO E op tm hp new=two tm a b (f hp)) (ha:bM s.ts a=y) (hy:y≠ .undef) (hb:bM s.ts b=z) (hz:z≠ .undef) (hf:∀{F:Hf} {g:Gb} {J:cS} {tm:Tf} {h:Hs} {v w:SV},Rel B F g J s tm h->VA F g v y->VA F g w z->∃u,f h.hp.get v w=some (u,[])/\VA F g u x):bX E B op s s x none:=bX.pure λ{F g J tm h new} r=>by
 let ⟨v,v1,v2⟩:=r.val ha hy;let ⟨w,w1,w2⟩:=r.val hb hz;let ⟨u,u1,u2⟩:=hf r v2 w2;refine ⟨u,?_,u2⟩;rw[dN];unfold two;rw[v1,w1];exact u1
def mf (i:TI) (cs:aB) (off:Nat):Option AV:=
 ay (kW i.desc) (ay (Nat.ble (Nat.add off i.size) cs.length) (some (.agg ((cs.drop off).take i.size))) none) (cs[off]?)
def rj (q:bZ F g vs cs) (hx:mf i cs off=some x):∃v,ia i vs off=some v/\VA F g v x:=by
 unfold mf at hx;unfold ia;rw[bk] at hx ⊢;split at hx
 ·rename_i ha;rw[ax ha];let ⟨hl,hx⟩:=aJ hx;cases hx;rw[q.length,bk,ax hl];exact ⟨_,rfl,.agg ((q.drop off).take i.size)⟩
 ·rename_i ha;rw[aA ha];exact q.get hx
def B7 (h:ia i ((svs.drop off).take n) 0=some u) (hl:off+n<=svs.length):ia i svs off=some u:=by
 unfold ia at h ⊢;rw[bk] at h ⊢;split at h
 ·rename_i ha;rw[ax ha];let ⟨hle,hu⟩:=aJ h;have hle:0+i.size<=((svs.drop off).take n).length:=(cN _ _).1 hle;rw[dx,gJ] at hle;cases hu;rw[bk,ax (show Nat.ble (Nat.add off i.size) svs.length=true from (cN _ _).2 (show off+i.size<=svs.length by omega))]
  rw[pJ,nq,eg (by omega)]
 ·rename_i ha;rw[aA ha];rw[eR] at h;split at h
  ·rw[fD] at h;simpa using h
  ·cases h
def FJ (E:Env) (s:TypeId) (f:Nat):Option (Nat×TI):=au (E.ty.get s) λi=>au (yu i.desc) λfs=>au (fs[f]?) λfl=>au (E.ty.get fl.type) λfi=>some (fl.off,fi)
def Kf {p:Nat×TI} (hf:FJ E t f=some p):∃i fs fl,E.ty.get t=some i/\yu i.desc=some fs/\fs[f]? =some fl/\E.ty.get fl.type=some p.2/\fl.off=p.1:=by
 let ⟨i,hi,hf⟩:=aj hf;let ⟨fs,FC,hf⟩:=aj hf;let ⟨fl,z8,hf⟩:=aj hf;let ⟨fi,hfi,hf⟩:=aj hf;cases hf;exact ⟨i,fs,fl,hi,FC,z8,hfi,rfl⟩
def aqW (p:Nat×TI) (x:AV):Option AV:=
 ay (Nat.ble 1 p.2.size) (match x with
  | .loc K off=>some (.loc K (Nat.add off p.1))
  | .el K s j f=>some (.el K s j (Nat.add f p.1))
  | .iw cs=>ay (Nat.ble p.1 cs.length) (some (.iw (cs.drop p.1))) none
  |_=>none) none
def atQ {id k:Nat} (q:VA F g (.ptr id off) (.iw cs)) (hk:k<=cs.length):VA F g (.ptr id (off+k)) (.iw (cs.drop k)):=by
 cases q with
 |iw hF hl hv=>
  refine .iw (xJ hF (by omega) (by rw[gJ];omega)) (by rw[gJ];omega) ?_
  have:=hv.drop k;rw[sf,zk] at this;rw[gJ];exact this
def aaT {p:Nat×TI} (hp:FJ E t f=some p) (ha:bM s.ts a=y) (hx:aqW p y=some x):bX E B (.fieldAddr t a f) s s x none:=by
 let ⟨i,fs,fl,e1,e2,e3,e4,e5⟩:=Kf hp;let ⟨mD,hx⟩:=aJ hx;refine bX.un (f:=λ_=>qw E t f) (λ_ _ _=>rfl) ha (λe=>by subst e;cases hx) λ{F g J tm h v} r hv=> ?_
 have key:∀id off,qw E t f (.ptr id off)=some (SV.ptr id (Nat.add off p.1),[]):=λid off=>by
  unfold qw;rw[e1];show au (yu i.desc) _=_;rw[e2];show au (fs[f]?) _=_;rw[e3];show au (E.ty.get fl.type) _=_;rw[e4];show ay (Nat.ble 1 p.2.size) (some (SV.ptr id (Nat.add off fl.off),[])) none=_;rw[mD,e5]
 cases y with
 |loc K off=>
  cases hx;cases hv;exact ⟨_,key _ _,.loc K _⟩
 |el K sz j f'=>
  cases hx;cases hv with|el _ _ _ fT=>
  refine ⟨_,key _ _,?_⟩;rw[show Nat.add (j*sz+f') p.1=j*sz+Nat.add f' p.1 from fV _ _ _];exact .el sz j _ fT
 |iw cs=>
  let ⟨hk,hx⟩:=aJ (show ay (Nat.ble p.1 cs.length) (some (.iw (cs.drop p.1))) none=some x from hx);cases hx;have qJ:∃id off,v=SV.ptr id off:=by cases hv;exact ⟨_,_,rfl⟩
  obtain ⟨id,off,rfl⟩:=qJ;exact ⟨_,key _ _,atQ hv ((cN _ _).1 hk)⟩
 |_=>cases hx
def ayr (h:mf i cs 0=some x):wide i<=cs.length:=by
 unfold mf at h;unfold wide;rw[bk] at h ⊢;split at h
 ·rename_i hg;rw[ax hg];let ⟨h1,_⟩:=aJ h;have:=(cN _ _).1 h1;rwa[show Nat.add 0 i.size=i.size from cE _] at this
 ·rename_i hg;rw[aA hg];have:=(cg.1 h).1;omega
def wR {id:Nat} (hi:E.ty.get t=some i) (hh:gP (hp id) off (wide i)=some (e,svs)) (hu:ia i svs off=some u):same (nM E hp t (.ptr id off))=some (u,[]):=by
 unfold nM;show same (au (E.ty.get t) λi=>au (gP (hp id) off (wide i)) λp=>ia i p.2 off)=_
 rw[hi];show same (au (gP (hp id) off (wide i)) λp=>ia i p.2 off)=_
 rw[hh];show same (ia i svs off)=_;rw[hu];rfl
def Xv (i:TI) (bs:bH):AV->Option AV
 | .iw cs=>au (mf i cs 0) λx=>ay (dE x).isEmpty (some x) none
 | .loc K off=>
  (match lk K bs with
  |some (.flat _ cs)=>mf i cs off
  |_=>none)
 |_=>none
def VA.jI (q:VA F g v x) (hk:(dE x).isEmpty=true):VA F g' v x:=q.gb λk gO=>by rw[ER.1 hk] at gO;cases gO
def bZ.jI {v:aM} {x:aB} (q:bZ F g v x) (hk:(eW x).isEmpty=true):bZ F g' v x:=q.gb λk gO=>by rw[ER.1 hk] at gO;cases gO
def ail (hi:E.ty.get t=some i) (hx:Xv i s.bs y=some x) (r:Rel B F g J s tm h) (hv:VA F g v y):∃u,same (nM E h.hp.get t v)=some (u,[])/\VA F g u x:=by
 cases y with
 |iw cs=>
  let ⟨x',hx,oT⟩:=aj (show au (mf i cs 0) (λx=>ay (dE x).isEmpty (some x) none)=some x from hx)
  let ⟨hk,oT⟩:=aJ oT;cases oT;cases hv with
  | @iw _ id off _ e svs hF hl hv=>
  let ⟨u,u1,u2⟩:=rj hv hx;exact ⟨u,wR hi (xJ (sP r.sub hF) (cF _) (Nat.add_le_add_left (ayr hx) _)) (B7 u1 hl),u2.jI hk⟩
 |loc K off=>
  have hx:(match lk K s.bs with|some (.flat _ cs)=>mf i cs off|_=>none)=some x:=hx
  split at hx
  ·rename_i e cs hb;cases hv;have q:=r.bx K _ hb;generalize J K=fp at q;cases q with
   | @flat _ _ svs hh qc=>
   let ⟨u,u1,u2⟩:=rj qc hx;exact ⟨u,wR hi (jd hh) u1,u2⟩
  ·cases hx
 |_=>cases hx
def aAQ (hi:E.ty.get t=some i) (ha:bM s.ts a=y) (hx:Xv i s.bs y=some x):bX E B (.load t a) s s x none:=bX.un (f:=λhp v=>same (nM E hp t v)) (λ_ _ _=>rfl) ha (λe=>by subst e;cases hx) λ{F g J tm h v} r hv=>ail hi hx r hv
def aoz {x:dJ} (h:same x=some (u,[])):x=some u:=by
 cases x with
 |none=>cases h
 |some v=>cases h;rfl
end
section
variable {F F':Hf} {g g':Gb} {B:Bs} {J:cS} {s s' s1:LS} {tm:Tf} {h:Hs} {hp:Hf} {E:Env} {nt:Nat} {all l:bS}
def aAP (ha:bM s.ts a=x) (hx:x≠ .undef):bX E B (.move a) s s x none:=bX.un (f:=λ_ v=>some (v,[])) (λ_ _ _=>rfl) ha hx λr hv=>⟨_,rfl,hv⟩
def apm (ha:bM s.ts a=x) (hx:x≠ .undef):bX E B (.assign a) s s x none:=bX.un (f:=λ_ v=>some (v,[])) (λ_ _ _=>rfl) ha hx λr hv=>⟨_,rfl,hv⟩
def aAN {t:Bool} (hc:bM s.ts c= .bool t) (ha:bM s.ts (ay t a b)=x) (hx:x≠ .undef):bX E B (.pick c a b) s s x none:=bX.pure λ{F g J tm h new} r=>by
 let ⟨v,v1,v2⟩:=r.val hc (by simp)
 let ⟨w,w1,w2⟩:=r.val ha hx;cases v2;refine ⟨w,?_,w2⟩;show au (bU tm c) (λv=>au (pa v) λb'=>one tm (ay b' a b) λv=>some (v,[]))=_
 rw[v1];show one tm (ay t a b) (λv=>some (v,[]))=_
 unfold one;rw[w1];rfl
def axa:AV->Bool
 | .loc _ _| .el _ _ _ _| .iw _| .fn _ _ _=>true
 |_=>false
def agh (ha:bM s.ts a=x) (hx:axa x=true):bX E B (.nilCheck a) s s x none:=bX.un (f:=λ_ v=>same (Pq v)) (λ_ _ _=>rfl) ha (λe=>by subst e;cases hx) λ{F g J tm h v} r hv=>by
 refine ⟨v,?_,hv⟩;cases x<;>first|(cases hx;done)|(cases hv<;>rfl)
def atf {p:Nat×TI} (hp:FJ E t f=some p) (ha:bM s.ts a= .agg cs) (hx:mf p.2 cs p.1=some x):bX E B (.field t a f) s s x none:=by
 let ⟨i,fs,fl,e1,e2,e3,e4,e5⟩:=Kf hp;refine bX.un (f:=λ_=>yG E t f) (λ_ _ _=>rfl) ha (by simp) λ{F g J tm h v} r hv=> ?_
 cases hv with
 | @agg _ vs _ q=>
 let ⟨u,u1,u2⟩:=rj q hx;refine ⟨u,?_,u2⟩;show yG E t f (.agg vs)=_;unfold yG;rw[e1];show au (yu i.desc) _=_;rw[e2];show au (fs[f]?) _=_;rw[e3];show au (E.ty.get fl.type) _=_;rw[e4];show same (ia p.2 vs fl.off)=_;rw[e5,u1];rfl
def akI {i:Nat} (ha:bM s.ts a= .cm xs) (hx:xs[i]? =some x):bX E B (.extract a i) s s x none:=bX.un (f:=λ_ v=>au (OJ v) λvs=>same (vs[i]?)) (λ_ _ _=>rfl) ha (by simp) λ{F g J tm h v} r hv=>by
 cases hv with
 | @cm _ vs _ q=>
 let ⟨u,u1,u2⟩:=q.get hx;refine ⟨u,?_,u2⟩;show same (vs[i]?)=_;rw[u1];rfl
def binL:BinOp->IntKind->Int->Int->Option AV
 | .add,k,m,n=>some (.int k (k.wrap (m+n)))
 | .sub,k,m,n=>some (.int k (k.wrap (m-n)))
 | .mul,k,m,n=>some (.int k (k.wrap (m*n)))
 | .eql,_,m,n=>some (.bool (decide (m=n)))
 | .neq,_,m,n=>some (.bool (!decide (m=n)))
 | .lss,_,m,n=>some (.bool (decide (m<n)))
 | .leq,_,m,n=>some (.bool (!decide (n<m)))
 | .gtr,_,m,n=>some (.bool (decide (n<m)))
 | .geq,_,m,n=>some (.bool (!decide (m<n)))
 | .shr,k,m,n=>ay (decide (n=1)) (some (.int k (m.fdiv 2))) none
 |_,_,_,_=>none
def aBs {op:BinOp} {n:Int} (hx:binL op k m n=some x):∃v,acL E op t k (.lit m) (.int k (.lit n))=some v/\VA F g v x:=by
 have red:acL E op t k (.lit m) (.int k (.lit n))=Xz op E op t k k (.lit m) (.lit n):=rfl;rw[red];have kk:=akY k;cases op<;>first|(cases hx;done)|skip
 ·cases hx;refine ⟨.int k (.lit (k.wrap (m+n))),?_,.int _ _⟩;show ay (gu k k) (some (SV.int k (acW k (.lit m) (.lit n)))) none=_;rw[kk];rfl
 ·cases hx;refine ⟨.int k (.lit (k.wrap (m-n))),?_,.int _ _⟩;show ay (gu k k) (some (SV.int k (NG k (.lit m) (.lit n)))) none=_;rw[kk];rfl
 ·cases hx;refine ⟨.int k (.lit (k.wrap (m*n))),?_,.int _ _⟩;cases k<;>rfl
 ·let ⟨hn,hx⟩:=aJ hx;have hn:n=1:=by simpa using hn
  subst hn;cases hx;refine ⟨.int k (.lit (m.fdiv 2)),?_,.int _ _⟩;cases k<;>rfl
 ·cases hx;refine ⟨.bool (decide (m=n)),?_,.bool _⟩;show ay (gu k k) (lx false (some (Ha m n))) none=_;rw[kk,yM];rfl
 ·cases hx;refine ⟨.bool (!decide (m=n)),?_,.bool _⟩;show ay (gu k k) (lx true (some (Ha m n))) none=_;rw[kk,yM];rfl
 ·cases hx;refine ⟨.bool (decide (m<n)),?_,.bool _⟩;show ay (gu k k) (lx false (some (xr m n))) none=_;rw[kk,we];rfl
 ·cases hx;refine ⟨.bool (!decide (n<m)),?_,.bool _⟩;show ay (gu k k) (lx true (some (xr n m))) none=_;rw[kk,we];rfl
 ·cases hx;refine ⟨.bool (decide (n<m)),?_,.bool _⟩;show ay (gu k k) (lx false (some (xr n m))) none=_;rw[kk,we];rfl
 ·cases hx;refine ⟨.bool (!decide (m<n)),?_,.bool _⟩;show ay (gu k k) (lx true (some (xr m n))) none=_;rw[kk,we];rfl
def binS:BinOp->ByteArray->ByteArray->Option AV
 | .eql,a,b=>some (.bool (decide (a=b)))
 | .neq,a,b=>some (.bool (!decide (a=b)))
 | .lss,a,b=>some (.bool (Op.bytesLess a.toList b.toList))
 | .leq,a,b=>some (.bool (Op.bytesLess a.toList b.toList||a.toList==b.toList))
 | .gtr,a,b=>some (.bool (!(Op.bytesLess a.toList b.toList||a.toList==b.toList)))
 | .geq,a,b=>some (.bool (!Op.bytesLess a.toList b.toList))
 |_,_,_=>none
def aBr {op:BinOp} {a b:ByteArray} (hx:binS op a b=some x):∃v,aro E op t a (.str b)=some v/\VA F g v x:=by
 cases op<;>first|(cases hx;done)|skip
 ·cases hx;refine ⟨.bool (Ee a b),rfl,?_⟩;rw[wI];exact .bool _
 ·cases hx;refine ⟨.bool (!Ee a b),rfl,?_⟩;rw[wI];exact .bool _
 all_goals (cases hx;exact ⟨_,rfl,.bool _⟩)
def eqPL:AV->AV->Option Bool
 | .il,.il=>some true
 | .il,.loc _ _| .il,.el _ _ _ _| .il,.iw _=>some false
 | .loc _ _,.il| .el _ _ _ _,.il| .iw _,.il=>some false
 |_,_=>none
def eqSL:AV->AV->Option Bool
 | .cR,.cR=>some true
 | .cR,.jW _ _ rows=>some rows.isEmpty
 | .jW _ _ rows,.cR=>some rows.isEmpty
 | .slice _ _ (_::_),.cR=>some false
 |_,_=>none
def eqFL:AV->AV->Option Bool
 | .iS,.iS=>some true
 | .iS,.fn _ _ _=>some false
 | .fn _ _ _,.iS=>some false
 |_,_=>none
def eqML:AV->AV->Option Bool
 | .gL,.gL=>some true
 | .gL,.mp _=>some false
 | .mp _,.gL=>some false
 |_,_=>none
def ama (E:Env) (eq:TypeId->AV->AV->Option Bool) (xs ys:aB):List FL->Option Bool
 | []=>some true
 |f::fs=>ay f.named (au (E.ty.get f.type) λi=>bE (mf i xs f.off) (mf i ys f.off) λx y=>bE (eq f.type x y) (ama E eq xs ys fs) λa b=>some (a&&b)) none
def auP (E:Env) (eq:TypeId->AV->AV->Option Bool) (t:TypeId):UD->AV->AV->Option Bool
 | .bool,.bool a,.bool b=>some (a==b)
 | .int _,.int k a,.int k' b=>ay (gu k k') (some (decide (a=b))) none
 | .string,.str a,.str b=>some (decide (a=b))
 | .pointer,x,y=>eqPL x y
 | .slice _,x,y=>eqSL x y
 | .map _ _,x,y=>eqML x y
 | .struct fs,.agg xs,.agg ys=>ay (E.P.stoodInHeld t) none (ama E eq xs ys fs)
 | .func,x,y=>eqFL x y
 |_,_,_=>none
def U4 (E:Env) (n:Nat):TypeId->AV->AV->Option Bool:=
 @Nat.rec (λ_=>TypeId->AV->AV->Option Bool) (λ_ _ _=>none) (λ_ eq t x y=>au (E.ty.get t) λi=>auP E eq t i.desc x y) n
def acn {eq:TypeId->SV->SV->Option Bool} {eqL:TypeId->AV->AV->Option Bool} (ih:∀t v w x y b,VA F g v x->VA F g w y->eqL t x y=some b->eq t v w=some b) {vs ws:aM} {xs ys:aB} (h1:bZ F g vs xs) (h2:bZ F g ws ys):∀{fs:List FL} {b:Bool},ama E eqL xs ys fs=some b->HD E eq vs ws fs=some b
 | [],_,hb=>hb
 |f::fs,b,hb=>by
  let ⟨hn,hb⟩:=aJ hb;let ⟨i,hi,hb⟩:=aj hb;let ⟨x,y,hx,hy,hb⟩:=bc hb;let ⟨c,d,hc,hd,hb⟩:=bc hb;let ⟨v,v1,v2⟩:=rj h1 hx;let ⟨w,w1,w2⟩:=rj h2 hy;have e1:=ih _ _ _ _ _ _ v2 w2 hc;have e2:=acn ih h1 h2 hd;show ay f.named (au (E.ty.get f.type) λi=>bE (ia i vs f.off) (ia i ws f.off) λx y=>andThen (eq f.type x y) (HD E eq vs ws fs)) none=_
  rw[hn,hi];show bE (ia i vs f.off) (ia i ws f.off) (λx y=>andThen (eq f.type x y) (HD E eq vs ws fs))=_
  rw[v1,w1];show andThen (eq f.type v w) (HD E eq vs ws fs)=_;rw[e1,e2];cases hb;cases c<;>rfl
def Z3 {sz:Nat} (q:VA F g v (.jW e sz rows)):N8 .cR v=some rows.isEmpty/\N8 v .cR=some rows.isEmpty:=by
 cases q with
 |Aq=>exact ⟨rfl,rfl⟩
 |jW hF hc hn hz=>cases rows with
  |nil=>exact absurd rfl hz
  |cons=>exact ⟨rfl,rfl⟩
def asD {sz:Nat} (q:VA F g v (.slice e sz (r::rows))):N8 v .cR=some false:=by
 generalize hx:AV.slice e sz (r::rows)=x at q;cases q<;>first|(cases hx;done)|rfl
def aiu:∀(n:Nat) {t:TypeId} {v w:SV} {x y:AV} {b:Bool},VA F g v x->VA F g w y->U4 E n t x y=some b->eqT E n t v w=some b
 |0,_,_,_,_,_,_,_,_,hb=>by cases hb
 |n+1,t,v,w,x,y,b,hv,hw,hb=>by
  let ⟨i,hi,hb⟩:=aj (show au (E.ty.get t) (λi=>auP E (U4 E n) t i.desc x y)=some b from hb)
  show au (E.ty.get t) (λi=>eqD i.desc E (eqT E n) t v w)=_
  rw[hi];show eqD i.desc E (eqT E n) t v w=some b;have ih:∀t v w x y b,VA F g v x->VA F g w y->U4 E n t x y=some b->eqT E n t v w=some b:=λ_ _ _ _ _ _ a b c=>aiu n a b c
  generalize i.desc=d at hb;unfold auP at hb;split at hb
  ·cases hv;cases hw;exact hb
  ·cases hv;cases hw;let ⟨hk,hb⟩:=aJ hb;show ay (gu _ _) (some (Ha _ _)) none=_;rw[hk,yM];exact hb
  ·cases hv;cases hw;show some (Ee _ _)=_;rw[wI];exact hb
  ·show XJ v w=_;unfold eqPL at hb;split at hb<;>first|(cases hb;done)|(cases hv<;>cases hw<;>exact hb)
  ·show N8 v w=_;unfold eqSL at hb;split at hb
   ·cases hv;cases hw;exact hb
   ·cases hv;rw[(Z3 hw).1];exact hb
   ·cases hw;rw[(Z3 hv).2];exact hb
   ·cases hw;rw[asD hv];exact hb
   ·cases hb
  ·show XK v w=_;unfold eqML at hb;split at hb<;>first|(cases hb;done)|(cases hv<;>cases hw<;>exact hb)
  ·cases hv with|agg h1=>cases hw with|agg h2=>
   show ay (E.P.stoodInHeld t) none (HD E (eqT E n) _ _ _)=_;rw[bk] at hb ⊢;split at hb
   ·cases hb
   ·rename_i hs;rw[aA hs];exact acn ih h1 h2 hb
  ·show amb v w=_;unfold eqFL at hb;split at hb<;>first|(cases hb;done)|(cases hv<;>cases hw<;>exact hb)
  ·cases hb
def alZ (E:Env) (t:TypeId) (ox oy:Operand) (x:AV):Bool:=
 match x with
 | .agg _=> !E.P.eqGuardType E.P.depth t
 | .undef=>false
 |_=>true
def oN (E:Env) (op:BinOp) (t:TypeId) (ox oy:Operand) (x y:AV):Option AV:=
 match op with
 | .eql=>ay (alZ E t ox oy x) (au (U4 E 20 t x y) λb=>some (.bool b)) none
 | .neq=>ay (alZ E t ox oy x) (au (U4 E 20 t x y) λb=>some (.bool (!b))) none
 |_=>none
def amx (E:Env) (op:BinOp) (t:TypeId) (ox oy:Operand):AV->AV->Option AV
 | .int k m,.int k' n=>ay (gu k k') (binL op k m n) none
 | .str a,.str b=>binS op a b
 | .bool a,y=>oN E op t ox oy (.bool a) y
 | .agg xs,y=>oN E op t ox oy (.agg xs) y
 | .cR,y=>oN E op t ox oy .cR y
 | .jW a b c,y=>oN E op t ox oy (.jW a b c) y
 | .slice a b c,y=>oN E op t ox oy (.slice a b c) y
 | .il,y=>oN E op t ox oy .il y
 | .loc a b,y=>oN E op t ox oy (.loc a b) y
 | .el a b c d,y=>oN E op t ox oy (.el a b c d) y
 | .iw a,y=>oN E op t ox oy (.iw a) y
 | .iS,y=>oN E op t ox oy .iS y
 | .fn a b c,y=>oN E op t ox oy (.fn a b c) y
 | .gL,y=>oN E op t ox oy .gL y
 | .mp a,y=>oN E op t ox oy (.mp a) y
 |_,_=>none
def asU {op:BinOp} {oy:Operand} {z:AV} (hv:VA F g v x) (hw:VA F g w y) (hz:oN E op t ox oy x y=some z) (hb:∀v',VA F g v' x->avp v'=λE op t ox oy x y=>Uq op E t ox oy x y):∃u,Ey E op t ox oy v w=some u/\VA F g u z:=by
 have key:∀{b:Bool},alZ E t ox oy x=true->U4 E 20 t x y=some b->HC E t ox oy v w=some b:=λ{b} h1 h2=>by
  have e2:=aiu 20 hv hw h2;unfold HC;have e1:auO E t ox oy v=true:=by
   cases x<;>first|(cases h1;done)|skip
   all_goals (cases hv<;>first|exact h1|rfl)
  rw[e1];exact e2
 show ∃u,avp v E op t ox oy v w=some u/\VA F g u z;rw[hb v hv];unfold oN at hz;split at hz
 ·let ⟨h1,hz⟩:=aJ hz;let ⟨b,h2,hz⟩:=aj hz;cases hz;refine ⟨.bool b,?_,.bool _⟩;show lx false (HC E t ox oy v w)=_;rw[key h1 h2];rfl
 ·let ⟨h1,hz⟩:=aJ hz;let ⟨b,h2,hz⟩:=aj hz;cases hz;refine ⟨.bool (!b),?_,.bool _⟩;show lx true (HC E t ox oy v w)=_;rw[key h1 h2];rfl
 ·cases hz
def aDG {op:BinOp} {z:AV} (ha:bM s.ts a=x) (hb:bM s.ts b=y) (hy:y≠ .undef) (hz:amx E op t a b x y=some z):bX E B (.binOp op t a b t2) s s z none:=by
 refine bX.bi (f:=λ_ v u=>same (Ey E op t a b v u)) (λ_ _ _=>rfl) ha (λe=>by subst e;cases hz) hb hy λ{F g J tm h v w} r hv hw=> ?_
 have key:∃u,Ey E op t a b v w=some u/\VA F g u z:=by
  unfold amx at hz;split at hz<;>first|(cases hz;done)|skip
  ·rename_i k m k' n;let ⟨hk,lP⟩:=aJ hz;have ek:k=k':=by cases k<;>cases k'<;>first|rfl|(cases hk;done)
   subst ek;cases hv;cases hw;exact aBs lP
  ·cases hv;cases hw;exact aBr hz
  all_goals exact asU hv hw hz λv' qJ=>by cases qJ<;>rfl
 let ⟨u,u1,u2⟩:=key;refine ⟨u,?_,u2⟩;show same (Ey E op t a b v w)=_;rw[u1];rfl
end
section
variable {F F':Hf} {g g':Gb} {B:Bs} {J:cS} {s s' s1:LS} {tm:Tf} {h:Hs} {hp:Hf} {E:Env} {nt:Nat} {all l:bS}
def unL (op:UnOp):AV->Option AV
 | .bool b=>ay (PL op) (some (.bool (!b))) none
 | .int k n=>ay (isNeg op) (some (.int k (k.wrap (0-n)))) none
 |_=>none
def aHW {op:UnOp} (ha:bM s.ts a=y) (hx:unL op y=some x):bX E B (.unOp op t a) s s x none:=bX.un (f:=λ_ v=>same (unA op v)) (λ_ _ _=>rfl) ha (λe=>by subst e;cases hx) λ{F g J tm h v} r hv=>by
 cases y<;>first|(cases hx;done)|skip
 ·let ⟨h1,h2⟩:=aJ hx;cases h2;cases hv;refine ⟨_,?_,.bool _⟩;show same (ay (PL op) (some (SV.bool _)) none)=_;rw[h1];rfl
 ·let ⟨h1,h2⟩:=aJ hx;cases h2;cases hv;refine ⟨_,?_,.int _ _⟩;show same (ay (isNeg op) (some (SV.int _ _)) none)=_;rw[h1];rfl
def XN:UD->AV->Option AV
 | .int k,.int _ n=>some (.int k (k.wrap n))
 | .string,.str s=>some (.str s)
 | .string,.int _ n=>some (.str (Utf8.encode n))
 |_,_=>none
def aAS {dst:TypeId} (hi:E.ty.get src=some i) (tZ:E.ty.get dst=some i2) (ha:bM s.ts a=y) (hx:XN i2.desc y=some x):bX E B (.convert src dst a) s s x none:=bX.un (f:=λ_ v=>same (Qi E src dst v)) (λ_ _ _=>rfl) ha (λe=>by subst e;unfold XN at hx;split at hx<;>simp_all) λ{F g J tm h v} r hv=>by
 have key:∃u,XP i2.desc v=some u/\VA F g u x:=by
  generalize i2.desc=d at hx;unfold XN at hx;split at hx
  ·cases hx;cases hv;exact ⟨_,rfl,.int _ _⟩
  ·cases hx;cases hv;exact ⟨_,rfl,.str _⟩
  ·cases hx;cases hv;exact ⟨_,rfl,.str _⟩
  ·cases hx
 let ⟨u,u1,u2⟩:=key;refine ⟨u,?_,u2⟩;show same (bE (E.ty.get src) (E.ty.get dst) λ_ i=>XP i.desc v)=_
 rw[hi,tZ];show same (XP i2.desc v)=_;rw[u1];rfl
def aAR {f:FuncId} {a c:Array Operand} (ha:jw s.ts a.toList=xs) (hx:jS xs=true) (hc:jw s.ts c.toList=ys) (hy:jS ys=true):bX E B (.makeFunc (.func f) a c) s s (.fn f xs ys) none:=bX.pure λ{F g J tm h new} r=>by
 subst ha;subst hc;let ⟨vs,v1,v2⟩:=r.eI hx;let ⟨ws,w1,w2⟩:=r.eI hy;refine ⟨.fn (.func f) vs ws,?_,.fn f v2 w2⟩;show ay (Uu (.func f)) (bE (eI tm a.toList) (eI tm c.toList) λl m=>some (SV.fn (.func f) l m,[])) none=_
 rw[v1,w1];rfl
def bX.len1 {c:Call} (hc:c.callee= .builtin .len) (ha':c.args.toList= [a]) (ht':c.argTypes.toList= [t]) (hi:E.ty.get t=some i) (ha:bM s.ts a=y) (hy:y≠ .undef) (hf:∀{F:Hf} {g:Gb} {J:cS} {tm:Tf} {h:Hs} {v:SV},Rel B F g J s tm h->VA F g v y->∃u,yK i.desc v h.hp.get=some u/\VA F g u x):bX E B (.call c) s s x none:=bX.pure λ{F g J tm h new} r=>by
 let ⟨v,v1,v2⟩:=r.val ha hy;let ⟨u,u1,u2⟩:=hf r v2;refine ⟨u,?_,u2⟩;show nW E tm h.hp.get new c=_;unfold nW;rw[hc];show au (eI tm c.args.toList) (λaa=>oz E h.hp.get new .len aa c.argTypes.toList)=_
 rw[ha',ht'];have e1:eI tm [a]=some [v]:=by
  show bE (bU tm a) (some []) (λv l=>some (v::l))=_
  rw[v1];rfl
 rw[e1];show au (E.ty.get t) (λi=>same (yK i.desc v h.hp.get))=_
 rw[hi];show same (yK i.desc v h.hp.get)=_;rw[u1];rfl
def akS (bs:bH):UD->AV->Option Int
 | .slice _,.slice _ _ rows=>some (rows.length:Int)
 | .slice _,.jW _ _ rows=>some (rows.length:Int)
 | .slice _,.iW _ _ rows=>some (rows.length:Int)
 | .slice _,.cR=>some 0
 | .slice _,.ms _ _ _ n=>some (n:Int)
 | .string,.str b=>some (b.size:Int)
 | .map _ _,.mp K=>(match lk K bs with|some (.map es)=>some (es.length:Int)|_=>none)
 | .map _ _,.gL=>some 0
 |_,_=>none
def aDC {c:Call} {n:Int} (hc:c.callee= .builtin .len) (ha':c.args.toList= [a]) (ht':c.argTypes.toList= [t]) (hi:E.ty.get t=some i) (ha:bM s.ts a=y) (hn:akS s.bs i.desc y=some n):bX E B (.call c) s s (.int .i64 n) none:=by
 refine bX.len1 hc ha' ht' hi ha (λe=>by subst e;unfold akS at hn;split at hn<;>simp_all) λ{F g J tm h v} r hv=> ?_
 generalize i.desc=d at hn;have key:∀{n':Nat},yJ v=some n'->n=(n':Int)->∃u,au (yJ v) (λn=>some (uS n))=some u/\VA F g u (.int .i64 n):=λ{n'} h1 h2=>by
  rw[h1,h2];exact ⟨_,rfl,.int _ _⟩
 unfold akS at hn;split at hn
 ·cases hn;rename_i rows;have:yJ v=some rows.length:=by cases hv with|p8=>rfl|slice hF hc hn=>rw[hn];rfl
  exact key this rfl
 ·cases hn;rename_i rows;have:yJ v=some rows.length:=by cases hv with|Aq=>rfl|jW hF hc hn=>rw[hn];rfl
  exact key this rfl
 ·cases hn;rename_i rows;have:yJ v=some rows.length:=by cases hv with|xg=>rfl|Eg=>rfl|iW hF hc hn=>rw[hn];rfl
  exact key this rfl
 ·cases hn;cases hv;exact key rfl rfl
 ·cases hn;rename_i n0;have:yJ v=some n0:=by cases hv<;>rfl
  exact key this rfl
 ·cases hn;cases hv;exact ⟨_,rfl,.int _ _⟩
 ·split at hn
  ·rename_i K _ es hb;cases hn;cases hv;have q:=r.bx K _ hb;generalize J K=fp at q;cases q with
   | @map _ ms cl hh hk hv=>
   refine ⟨uS ms.length,?_,?_⟩
   ·show au (kf (h.hp.get (g.Z K))) (λp=>some (uS p.1.length))=_
    rw[hh];rfl
   ·have:ms.length=es.length:=by simpa using hk.length
    rw[this];exact .int _ _
  ·cases hn
 ·cases hn;cases hv;exact ⟨_,rfl,.int _ _⟩
 ·cases hn
def atj (mx:Bool):AV->AV->Option AV
 | .int k m,.int k' n=>ay (gu k k') (some (.int k (ay mx (if m<n then n else m) (if n<m then n else m)))) none
 |_,_=>none
def apj {c:Call} {z:AV} (hc:c.callee= .builtin (ay mx .max .min)) (ha':c.args.toList= [a,b]) (ha:bM s.ts a=x) (hb:bM s.ts b=y) (hz:atj mx x y=some z):bX E B (.call c) s s z none:=bX.pure λ{F g J tm h new} r=>by
 cases x<;>first|(cases hz;done)|skip
 cases y<;>first|(cases hz;done)|skip
 let ⟨hk,hz⟩:=aJ hz;cases hz;let ⟨v,v1,v2⟩:=r.val ha (by simp)
 let ⟨w,w1,w2⟩:=r.val hb (by simp)
 rename_i k m k' n;have e1:eI tm [a,b]=some [v,w]:=by
  show bE (bU tm a) (bE (bU tm b) (some []) (λv l=>some (v::l))) (λv l=>some (v::l))=_
  rw[v1,w1];rfl
 cases v2;cases w2;refine ⟨_,?_,.int _ _⟩;show nW E tm h.hp.get new c=_;unfold nW;rw[hc];show au (eI tm c.args.toList) (λaa=>oz E h.hp.get new (ay mx .max .min) aa c.argTypes.toList)=_
 rw[ha',e1];show oz E h.hp.get new (ay mx .max .min) [.int k (.lit m),.int k' (.lit n)] c.argTypes.toList=_;cases mx
 ·show same (au (some (xr n m)) λr=>some (SV.int k (ay r (.lit n) (.lit m))))=_
  show some (SV.int k (ay (xr n m) (.lit n) (.lit m)),[])=some (SV.int k (.lit (if n<m then n else m)),[])
  rw[we,bk];by_cases hc:n<m
  ·simp[hc]
  ·simp[hc]
 ·show same (au (some (xr m n)) λr=>some (SV.int k (ay r (.lit n) (.lit m))))=_
  show some (SV.int k (ay (xr m n) (.lit n) (.lit m)),[])=some (SV.int k (.lit (if m<n then n else m)),[])
  rw[we,bk];by_cases hc:m<n
  ·simp[hc]
  ·simp[hc]
def qm {Y:Type} {s:Nat}:∀{rows:List (List Y)},(∀r∈rows,r.length=s)->∀l,(rows.drop l).flatten=rows.flatten.drop (l*s)
 |_,_,0=>by simp
 | [],_,l+1=>by simp
 |r::rows,hu,l+1=>by
  have:=qm (rows:=rows) (λq hq=>hu q (by simp[hq])) l
  rw[List.drop_succ_cons,this,nn,eK,kO,EP,<-zk];rw[Ss (hu r (by simp))]
def rH {Y:Type} {s:Nat}:∀{rows:List (List Y)},(∀r∈rows,r.length=s)->∀l,(rows.take l).flatten=rows.flatten.take (l*s)
 |_,_,0=>by simp
 | [],_,l+1=>by simp
 |r::rows,hu,l+1=>by
  have:=rH (rows:=rows) (λq hq=>hu q (by simp[hq])) l
  have hr:=hu r (by simp)
  rw[List.take_succ_cons,nn,this,nn,eK,kO,EP];rw[<-hr,agJ]
def Hz {Y:Type} {s:Nat}:∀{rows:List (List Y)},(∀r∈rows,r.length=s)->rows.flatten.length=rows.length*s
 | [],_=>by simp
 |r::rows,hu=>by
  rw[nn,eQ,Hz (λq hq=>hu q (by simp[hq])),hu r (by simp),mM,eK,kO,EP]
def ub {Y:Type} (rows:List Y) (n:Int):Option Y:=if 0<=n then rows[n.toNat]? else none
def Nr {rows:List Y} {n:Int} {R:Y} (hg:ub rows n=some R):∃k:Nat,n=k/\rows[k]? =some R:=by
 unfold ub at hg;split at hg
 ·exact ⟨n.toNat,by omega,hg⟩
 ·cases hg
def xC:AV->Option (TypeId×Nat×aT)
 | .slice e s rows=>some (e,s,rows)
 | .jW e s rows=>some (e,s,rows)
 | .iW e s rows=>some (e,s,rows)
 |_=>none
def HI {sz:Nat} (q:VA F g v x) (hx:xC x=some (e,sz,rows)):(rows= []/\(v= .cR\/v= .sle))\/∃id off c e' svs,v= .sl id off rows.length c/\C7 e rows.length c/\gP (F id) off (rows.length*sz)=some (e',svs)/\(∀r∈rows,r.length=sz)/\off+rows.length*sz<=svs.length/\bZ F .no ((svs.drop off).take (rows.length*sz)) rows.flatten:=by
 unfold xC at hx;split at hx
 ·cases hx;cases q with
  |p8=>exact .inl ⟨rfl,.inl rfl⟩
  |slice hF hc hn hu hl h=>subst hn;exact .inr ⟨_,_,_,_,_,rfl,hc,hF,hu,hl,h⟩
 ·cases hx;cases q with
  |Aq=>exact .inl ⟨rfl,.inl rfl⟩
  |jW hF hc hn hz hu hl h=>subst hn;exact .inr ⟨_,_,_,_,_,rfl,hc,hF,hu,hl,h⟩
 ·cases hx;cases q with
  |xg=>exact .inl ⟨rfl,.inl rfl⟩
  |Eg=>exact .inl ⟨rfl,.inr rfl⟩
  |iW hF hc hn hu hl h=>subst hn;exact .inr ⟨_,_,_,_,_,rfl,hc,hF,hu,hl,h⟩
 ·cases hx
def aAA {id s:Nat} {k:Nat} (hF:gP (F id) off (rows.length*s)=some (e,svs)) (hu:∀r∈rows,r.length=s) (hl:off+rows.length*s<=svs.length) (hv:bZ F .no ((svs.drop off).take (rows.length*s)) rows.flatten) (hk:rows[k]? =some R):k<rows.length/\VA F g (.ptr id (off+k*s)) (.iw R):=by
 have bD:k<rows.length:=(cg.1 hk).1;have hR:R.length=s:=hu R (cX hk);have oC:k*s+s<=rows.length*s:=by
  have:(k+1)*s<=rows.length*s:=gz _ (by omega)
  rw[eK,kO] at this;exact this
 refine ⟨by omega,.iw (xJ hF (by omega) (by rw[hR];omega)) (by rw[hR];omega) ?_⟩
 have e:R=(rows.flatten.drop (k*s)).take s:=by
  rw[<-qm hu,se bD,nn];have he:rows[k]=R:=(cg.1 hk).2;rw[he,yl hR]
 have:=(hv.drop (k*s)).take s;rw[<-e,sf,nq,zk,eg (by omega)] at this
 rw[hR];exact this
def elemOf (E:Env) (t:TypeId):Option TI:=au (E.ty.get t) λi=>au (p9 i.desc) λe=>E.ty.get e
def abx {ie:TI} {id m k:Nat} {c:Cp} (he:elemOf E t=some ie) (hk:k<m):same (lu E t (.sl id off m c) k)=some (.ptr id (off+k*ie.size),[]):=by
 let ⟨i,hi,he⟩:=aj he;let ⟨e,hd,he⟩:=aj he;have hd:=vi hd;unfold lu;rw[hi];show same (PS i.desc E (.sl id off m c) k)=_;rw[hd];show same (uE E e id off m k)=_;unfold uE;rw[he,bk,ax ((cN _ _).2 hk)];rfl
def ate {ie:TI} {sz:Nat} {n:Int} (he:elemOf E t=some ie) (mD:ie.size=sz) (ha:bM s.ts a=y) (hy:xC y=some (e,sz,rows)) (tY:bM s.ts ix= .int kd n) (hR:ub rows n=some R):bX E B (.indexAddr t a ix) s s (.iw R) none:=bX.bi (f:=λ_ v u=>au (lq u) λk=>same (lu E t v k)) (λ_ _ _=>rfl) ha (λe=>by subst e;cases hy) tY (by simp) λ{F g J tm h v w} r hv hw=>by
 let ⟨k,hk,hRk⟩:=Nr hR;subst hk;cases hw;rcases HI hv hy with ⟨rfl,_⟩|⟨id,off,c,e',svs,rfl,_,hF,hu,hl,h⟩
 ·cases hRk
 ·let ⟨h1,h2⟩:=aAA (g:=g) hF hu hl h hRk;refine ⟨_,?_,h2⟩;show same (lu E t (.sl id off rows.length c) k)=_;rw[abx he h1,mD]
def ago {ie:TI} {sz lo k:Nat} (he:elemOf E t=some ie) (mD:ie.size=sz) (ha:bM s.ts a= .ms K sz lo n) (tY:bM s.ts ix= .int kd m) (hm:m=(k:Int)) (hk:k<n):bX E B (.indexAddr t a ix) s s (.el K sz (lo+k) 0) none:=bX.bi (f:=λ_ v u=>au (lq u) λk=>same (lu E t v k)) (λ_ _ _=>rfl) ha (by simp) tY (by simp) λ{F g J tm h v w} r hv hw=>by
 subst hm;cases hw;have qJ:v=SV.sl (g.Z K) (lo*sz) n (uP (g.κ K) lo)/\g.O K=true:=by
  cases hv with
  |qI=>omega
  |rE=>omega
  |ms _ _ _ fT=>exact ⟨rfl,fT⟩
 obtain ⟨rfl,fT⟩:=qJ;refine ⟨_,abx he hk,?_⟩;rw[mD,<-eK];exact .el sz (lo+k) 0 fT
def ahO {sz:Nat} {Q:List (List Y)} {R:List Y} (hu:∀r∈Q,r.length=sz) (hj:Q[j]? =some R) (hf:f+n<=sz):(Q.flatten.drop (j*sz+f)).take n=(R.drop f).take n:=by
 have bD:j<Q.length:=(cg.1 hj).1;have hR:R.length=sz:=hu R (cX hj);have he:Q[j]=R:=(cg.1 hj).2;rw[<-zk,<-qm hu,se bD,nn,he,EO,YE];rw[gJ];omega
def akH {sz:Nat} (hi:E.ty.get t=some i) (ha:bM s.ts a= .el K sz j f) (hb:lk K s.bs=some (.rows z e sz Q)) (hj:Q[j]? =some R) (hf:Nat.ble (Nat.add f i.size) sz=true) (hx:mf i ((R.drop f).take i.size) 0=some x) (hk:(dE x).isEmpty=true):bX E B (.load t a) s s x none:=bX.un (f:=λhp v=>same (nM E hp t v)) (λ_ _ _=>rfl) ha (by simp) λ{F g J tm h v} r hv=>by
 cases hv;have hf:f+i.size<=sz:=fU hf;have q:=r.bx K _ hb;generalize J K=fp at q;cases q with
 |dD=>cases hj
 | @rows _ _ _ _ svs cn hh hz hu hc q=>
 have hl:=gE hc;have bD:j<Q.length:=(cg.1 hj).1;have hjs:j*sz+sz<=Q.length*sz:=by
  have:(j+1)*sz<=Q.length*sz:=gz _ (by omega)
  rw[eK,kO] at this;exact this
 have q1:=(q.drop (j*sz+f)).take i.size;rw[ahO hu hj hf,sf,nq,eg (by omega)] at q1
 let ⟨u,u1,u2⟩:=rj q1 hx;exact ⟨u,wR hi (jd hh) (B7 u1 (by omega)),u2.jI hk⟩
def agl {sz:Nat} {x0:AV} (hi:E.ty.get t=some i) (ha:bM s.ts a= .el K sz j f) (hb:lk K s.bs=some (.hole e sz Q i0 x0)) (hj:Q[j]? =some R) (hf:Nat.ble (Nat.add f i.size) sz=true) (hx:mf i ((R.drop f).take i.size) 0=some x) (hk:(dE x).isEmpty=true):bX E B (.load t a) s s x none:=bX.un (f:=λhp v=>same (nM E hp t v)) (λ_ _ _=>rfl) ha (by simp) λ{F g J tm h v} r hv=>by
 cases hv;have hf:f+i.size<=sz:=fU hf;have q:=r.bx K _ hb;generalize J K=fp at q;cases q with
 | @hole _ _ _ _ _ svs v0 cn hh hu hc q hi0 Dy Fv=>
 have hl:=gE hc;have bD:j<Q.length:=(cg.1 hj).1;have hjs:j*sz+sz<=Q.length*sz:=by
  have:(j+1)*sz<=Q.length*sz:=gz _ (by omega)
  rw[eK,kO] at this;exact this
 have q1:=(q.drop (j*sz+f)).take i.size;rw[ahO hu hj hf,sf,nq,eg (by omega)] at q1
 let ⟨u,u1,u2⟩:=rj q1 hx;exact ⟨u,wR hi (jd hh) (B7 u1 (by omega)),u2.jI hk⟩
def agm {sz:Nat} (hi:E.ty.get t=some i) (hg:kW i.desc=false) (ha:bM s.ts a= .el K sz j f) (hb:lk K s.bs=some (.hole e sz Q (j*sz+f) x)):bX E B (.load t a) s s x none:=bX.un (f:=λhp v=>same (nM E hp t v)) (λ_ _ _=>rfl) ha (by simp) λ{F g J tm h v} r hv=>by
 cases hv;have q:=r.bx K _ hb;generalize J K=fp at q;cases q with
 | @hole _ _ _ _ _ svs v0 cn hh hu hc q hi0 Dy Fv=>
 refine ⟨v0,wR hi (jd hh) ?_,Fv⟩;unfold ia;rw[hg];exact Dy
def agi {sz:Nat} {l:ew} (hi:E.ty.get t=some i) (hg:kW i.desc=false) (ha:bM s.ts a= .el K sz j f) (hb:lk K s.bs=some (.tree e sz l Q ((j*sz+f,x)::o))):bX E B (.load t a) s s x none:=bX.un (f:=λhp v=>same (nM E hp t v)) (λ_ _ _=>rfl) ha (by simp) λ{F g J tm h v} r hv=>by
 cases hv;have q:=r.bx K _ hb;generalize J K=fp at q;cases q with
 |tree cn hh hu hc q nd ho=>
 let ⟨⟨v0,Dy,Fv⟩,_⟩:=ho;refine ⟨v0,wR hi (jd hh) ?_,Fv⟩;unfold ia;rw[hg];exact Dy
def mR:ew->aB->aB
 |sh::l,x::r=>(match sh with| .d=>x| .o _ _=>.undef)::mR l r
 |_,_=> []
def jf.see:∀{l vs xs f},jf F hp l vs xs f->bZ F .no vs (mR l xs)
 |_,_,_,_,.nil=>by
  rename_i l;cases l<;>exact .nil
 |_,_,_,_,@jf.cons _ _ sh l v vs x xs f fs q t=>by
  refine .cons ?_ t.see;cases sh with
  |d=>cases q with
   |d q hf=>exact q
   |any v hf=>exact .undef v
  |o b l=>exact .undef v
def agj {sz:Nat} {l:ew} (hi:E.ty.get t=some i) (ha:bM s.ts a= .el K sz j f) (hb:lk K s.bs=some (.tree e sz l Q o)) (hj:Q[j]? =some R) (hf:Nat.ble (Nat.add f i.size) sz=true) (hx:mf i (((mR l R).drop f).take i.size) 0=some x) (hk:(dE x).isEmpty=true):bX E B (.load t a) s s x none:=bX.un (f:=λhp v=>same (nM E hp t v)) (λ_ _ _=>rfl) ha (by simp) λ{F g J tm h v} r hv=>by
 cases hv;have hf:f+i.size<=sz:=fU hf;have q:=r.bx K _ hb;generalize J K=fp at q;cases q with
 |iA=>cases hj
 | @tree _ _ _ _ _ svs _ cn hh hu hc q=>
 have hl:=gE hc;let ⟨a0,v0,b0,f1,f0,f2,e1,e2,e3,e4,h1,_⟩:=q.focus hu hj;have q1:=(h1.see.drop f).take i.size;let ⟨u,u1,u2⟩:=rj q1 hx;have hjs:j*sz+sz<=Q.length*sz:=by
  have bD:j<Q.length:=(cg.1 hj).1;have:(j+1)*sz<=Q.length*sz:=gz _ (by omega)
  rw[eK,kO] at this;exact this
 refine ⟨u,wR hi (jd hh) (B7 (n:=i.size) ?_ (by omega)),u2.jI hk⟩
 have e5:(svs.drop (j*sz+f)).take i.size=(v0.drop f).take i.size:=by
  have e6:((svs.take (Q.length*sz)).drop (j*sz+f)).take i.size=(svs.drop (j*sz+f)).take i.size:=by
   rw[sf,nq,eg (by omega)]
  rw[<-e6,e1,EO,agI (by omega),nr,e2,EN,EO,YD,gJ,e3,Nat.sub_eq_zero_of_le (by omega),EF,pg]
 rw[e5];exact u1
end
section
variable {F F':Hf} {g g':Gb} {B:Bs} {J:cS} {s s' s1:LS} {tm:Tf} {h:Hs} {hp:Hf} {E:Env} {nt:Nat} {all l:bS}
def rz:AV->Option aB
 | .agg cs=>some cs
 | .cm _=>none
 | .undef=>none
 |x=>some [x]
def bZ.one (h:VA F g v x):bZ F g [v] [x]:=.cons h .nil
def wq (q:VA F g v y) (hc:rz y=some xs):∃cs,v.cells=some cs/\bZ F g cs xs:=by
 cases q with
 |agg q=>cases hc;exact ⟨_,rfl,q⟩
 |cm=>cases hc
 |undef=>cases hc
 |_=>cases hc;exact ⟨_,rfl,.one (by constructor<;>assumption)⟩
def ajo:SV->AV
 | .bool b=>.bool b
 | .int k (.lit n)=>.int k n
 | .str s=>.str s
 | .il=>.il
 | .cR=>.cR
 | .gL=>.gL
 | .iS=>.iS
 |_=>.undef
def ayq (v:SV):VA F g v (ajo v):=by
 unfold ajo;split<;>constructor
def km:aM->aB
 | []=> []
 |v::l=>ajo v::km l
def rJ:∀(l:aM),bZ F g l (km l)
 | []=>.nil
 |v::l=>.cons (ayq v) (rJ l)
def di (cs:aB) (off:Nat) (xs:aB):aB:=cs.take off++xs++cs.drop (Nat.add off xs.length)
def zr (h:bZ F g vs xs) (k:bZ F g ws ys) (off:Nat):bZ F g (dU vs off ws) (di xs off ys):=h.dU k off
def B5 (ts:dd):List (Nat×Operand)->Option (List (Nat×aB))
 | []=>some []
 |p::rest=>bE (rz (bM ts p.2)) (B5 ts rest) λcs l=>some ((p.1,cs)::l)
def DH (place:Nat->Option (Nat×Nat)) (cs:aB):List (Nat×aB)->Option aB
 | []=>some cs
 |p::rest=>au (place p.1) λq=>ay (Nat.beq p.2.length q.2&&Nat.ble (Nat.add q.1 q.2) cs.length) (DH place (di cs q.1 p.2) rest) none
inductive PVs (F:Hf) (g:Gb):List (Nat×aM)->List (Nat×aB)->Prop
 |nil:PVs F g [] []
 |cons {j vs xs l m:_} (h:bZ F g vs xs) (t:PVs F g l m):PVs F g ((j,vs)::l) ((j,xs)::m)
def G0 (r:Rel B F g J s tm h):∀{l:List (Nat×Operand)} {m:List (Nat×aB)},B5 s.ts l=some m->∃k,jZ tm l=some k/\PVs F g k m
 | [],_,hm=>by cases hm;exact ⟨[],rfl,.nil⟩
 |p::rest,m,hm=>by
  let ⟨cs,m',h1,h2,h3⟩:=bc hm;cases h3;let ⟨v,v1,v2⟩:=r.val (x:=p.2) rfl (λe=>by rw[e] at h1;cases h1)
  let ⟨ws,w1,w2⟩:=wq v2 h1;let ⟨k,k1,k2⟩:=G0 r h2;refine ⟨(p.1,ws)::k,?_,.cons w2 k2⟩;show au (bU tm p.2) (λv=>bE v.cells (jZ tm rest) λcs l=>some ((p.1,cs)::l))=_
  rw[v1];show bE v.cells (jZ tm rest) (λcs l=>some ((p.1,cs)::l))=_
  rw[w1,k1];rfl
def FI {place:Nat->Option (Nat×Nat)}:∀{k:List (Nat×aM)} {m:List (Nat×aB)} {vs:aM} {xs ys:aB},PVs F g k m->bZ F g vs xs->DH place xs m=some ys->∃ws,mJ place vs k=some ws/\bZ F g ws ys
 |_,_,vs,_,_,.nil,hv,hy=>by cases hy;exact ⟨vs,rfl,hv⟩
 |_,_,vs,xs,ys,.cons (j:=j) (vs:=pv) (l:=kt) h t,hv,hy=>by
  let ⟨q,h1,hy⟩:=aj hy;let ⟨h2,hy⟩:=aJ hy;let ⟨ws,w1,w2⟩:=FI t (zr hv h q.1) hy;refine ⟨ws,?_,w2⟩;show au (place j) (λq=>ay (Nat.beq pv.length q.2&&Nat.ble (Nat.add q.1 q.2) vs.length) (mJ place (dU vs q.1 pv) kt) none)=_
  rw[h1];show ay (Nat.beq pv.length q.2&&Nat.ble (Nat.add q.1 q.2) vs.length) (mJ place (dU vs q.1 pv) kt) none=_;rw[h.length,hv.length,h2];exact w1
def acG (E:Env) (z:aB) (gI:List (Nat×aB)):UD->Option aB
 | .array _ e=>au (E.ty.get e) λie=>DH (oM ie.size) z gI
 | .struct fs=>DH (Pf E fs) z gI
 |_=>none
def atg {m:List (Nat×aB)} (hi:E.ty.get t=some i) (hm:B5 s.ts parts.toList=some m) (hy:acG E (km i.zero) m i.desc=some ys):bX E B (.build t parts) s s (.agg ys) none:=bX.pure λ{F g J tm h new} r=>by
 let ⟨k,k1,k2⟩:=G0 r hm;have key:∃ws,Ae E t k=some (.agg ws)/\bZ F g ws ys:=by
  unfold Ae;rw[hi];show ∃ws,arl i.desc E i.zero k=some (.agg ws)/\_;generalize i.desc=d at hy;unfold acG at hy;split at hy
  ·let ⟨ie,hie,hy⟩:=aj hy;let ⟨ws,w1,w2⟩:=FI k2 (rJ (F:=F) (g:=g) i.zero) hy;refine ⟨ws,?_,w2⟩;show au (E.ty.get _) (λie=>Ky (mJ (oM ie.size) i.zero k))=_
   rw[hie];show Ky (mJ (oM ie.size) i.zero k)=_;rw[w1];rfl
  ·let ⟨ws,w1,w2⟩:=FI k2 (rJ (F:=F) (g:=g) i.zero) hy;refine ⟨ws,?_,w2⟩;show Ky (mJ (Pf E _) i.zero k)=_;rw[w1];rfl
  ·cases hy
 let ⟨ws,w1,w2⟩:=key;refine ⟨.agg ws,?_,.agg w2⟩;show au (jZ tm parts.toList) (λgI=>same (Ae E t gI))=_
 rw[k1];show same (Ae E t k)=_;rw[w1];rfl
def Vg {id:Nat} {c:Cp} (hf:bZ F (g.at K id c) svs xs):∀gy:Hf,gy id=some (.cells e svs)->fC F (g.at K id c) gy K (.flat e xs) [id]:=λgy hh=>by
 have:=fC.flat (F:=F) (g:=g.at K id c) (h:=gy) (K:=K) (e:=e) (cs:=xs) (svs:=svs) (by rw[at_ρ];exact hh) hf
 rwa[at_ρ] at this
def awx {id:Nat} {c:Cp}:VA F (g.at K id c) (.ptr id off) (.loc K off):=by
 have:=VA.loc (F:=F) (g:=g.at K id c) K off;rwa[at_ρ] at this
def abb {id sz:Nat} {c:Cp}:VA F (g.at K id c) (.sl id 0 n c) (.ms K sz 0 n):=by
 have:=VA.ms (F:=F) (g:=g.at K id c) (K:=K) sz 0 n at_β;rw[at_ρ,at_κ,nV] at this;cases c<;>exact this
def Vf {id sz:Nat} {c:Cp} (hz:z=true->Q≠ []) (hu:∀r∈Q,r.length=sz) (hc:vS e sz Q.length svs.length c) (q:bZ F .no (svs.take (Q.length*sz)) Q.flatten):∀gy:Hf,gy id=some (.cells e svs)->fC F (g.at K id c) gy K (.rows z e sz Q) [id]:=λgy hh=>by
 have:=fC.rows (F:=F) (g:=g.at K id c) (h:=gy) (K:=K) (z:=z) (e:=e) at_β (by rw[at_ρ];exact hh) hz hu (by rw[at_κ];exact hc) q
 rwa[at_ρ] at this
def aDF (ha:bM s.ts a=y) (hc:rz y=some xs) (hk:s.free K) (hp:B.pk K=false) (rG:K∉eW xs):bX E B (.box e a) s (s.set K (.flat e xs)) (.loc K 0) (some (K,true)):=bX.lay hk hp λ{F g J tm h new} r=>by
 let ⟨v,h1,h2⟩:=r.val ha (λe=>by subst e;cases hc)
 let ⟨cs,c1,c2⟩:=wq h2 hc;refine ⟨.ptr new 0,.cells e cs,?_,awx,Vg (c2.gb (at_same rG))⟩;show one tm a (Ma new e)=_;unfold one;rw[h1];show Ma new e v=_;unfold Ma;rw[c1];rfl
def ath (hi:E.ty.get e=some i) (hk:s.free K) (hp:B.pk K=false):bX E B (.alloc e) s (s.set K (.flat e (km i.zero))) (.loc K 0) (some (K,true)):=bX.lay hk hp λ{F g J tm h new} r=>by
 refine ⟨.ptr new 0,.cells e i.zero,?_,awx,Vg (rJ _)⟩;show Us E new e=_;unfold Us;rw[hi];rfl
def ry (sz:Nat):Nat->aB->aT
 |0,_=> []
 |n+1,cs=>cs.take sz::ry sz n (cs.drop sz)
def Of {sz:Nat}:∀{n:Nat} {cs:aB},cs.length=n*sz->(ry sz n cs).length=n/\(∀r∈ry sz n cs,r.length=sz)/\(ry sz n cs).flatten=cs
 |0,cs,hl=>by
  rw[nV] at hl;rw[EI.1 hl];exact ⟨rfl,λr hr=>(by cases hr),rfl⟩
 |n+1,cs,hl=>by
  rw[eK,kO] at hl;let ⟨a,b,c⟩:=Of (sz:=sz) (n:=n) (cs:=cs.drop sz) (by rw[gJ];omega)
  refine ⟨by show (ry sz n (cs.drop sz)).length+1=_;rw[a],λr hr=> ?_,?_⟩
  ·rcases bB.1 (show r∈cs.take sz::ry sz n (cs.drop sz) from hr) with rfl|hr
   ·rw[dx];omega
   ·exact b r hr
  ·show cs.take sz++(ry sz n (cs.drop sz)).flatten=cs;rw[c,wD]
def Ej (z:aB):Nat->aB
 |0=> []
 |n+1=>z++Ej z n
def Je {z:aM} {x:aB} (hz:bZ F g z x):∀n,bZ F g (rep z n) (Ej x n)
 |0=>.nil
 |n+1=>hz.append (Je hz n)
def We {place:Nat->Option (Nat×Nat)}:∀{m:List (Nat×aB)} {xs ys:aB},DH place xs m=some ys->ys.length=xs.length
 | [],_,_,hy=>by cases hy;rfl
 |p::rest,xs,ys,hy=>by
  let ⟨q,h1,hy⟩:=aj hy;let ⟨h2,hy⟩:=aJ hy;rw[We hy];rw[aY] at h2;have e1:p.2.length=q.2:=(beq_iff _ _).1 h2.1;have e2:q.1+q.2<=xs.length:=fU h2.2;unfold di;rw[eQ,eQ,dx,gJ,show Nat.add q.1 p.2.length=q.1+p.2.length from rfl];omega
def Nu {ie:TI} (h:jc ie=true):ie.zero.length=ie.size:=by
 unfold jc at h;rw[aY,aY] at h;exact (beq_iff _ _).1 h.2.2
def Ua (z:aB):∀n,(Ej z n).length=n*z.length
 |0=>by simp[Ej]
 |n+1=>by show (z++Ej z n).length=_;rw[eQ,Ua z n,eK,kO,EP]
def AW:∀l:aM,(km l).length=l.length
 | []=>rfl
 |v::l=>by show (km l).length+1=_;rw[AW l];rfl
def qU (E:Env) (t:TypeId):Option (TypeId×TI):=au (E.ty.get t) λi=>au (p9 i.desc) λe=>au (E.ty.get e) λie=>some (e,ie)
def rY (h:qU E t=some p):∃i,E.ty.get t=some i/\p9 i.desc=some p.1/\E.ty.get p.1=some p.2:=by
 let ⟨i,hi,h⟩:=aj h;let ⟨e,he,h⟩:=aj h;let ⟨ie,hie,h⟩:=aj h;cases h;exact ⟨i,hi,he,hie⟩
def W8 {len:Nat} {m:List (Nat×aB)} (gy:qU E t=some p) (gN:(jc p.2&&Nat.ble (Nat.mul len p.2.size) 16777216)=true) (hm:B5 s.ts parts.toList=some m) (hy:DH (oM p.2.size) (Ej (km p.2.zero) len) m=some ys) (hk:s.free K) (hp:B.pk K=false) (Fz:(eW ys).isEmpty=true):bX E B (.buildSlice t len parts) s (s.set K (.rows false p.1 p.2.size (ry p.2.size len ys))) (.ms K p.2.size 0 len) (some (K,true)):=bX.lay hk hp λ{F g J tm h new} r=>by
 let ⟨i,hi,he,hie⟩:=rY gy;let ⟨k,k1,k2⟩:=G0 r hm;let ⟨ws,w1,w2⟩:=FI k2 (Je (rJ (F:=F) (g:=g) p.2.zero) len) hy;have hok1:=(qZ.1 gN).1;have hlen:ys.length=len*p.2.size:=by rw[We hy,Ua,AW,Nu hok1]
 let ⟨c1,c2,c3⟩:=Of hlen;refine ⟨.sl new 0 len (.k len),.cells p.1 ws,?_,abb,Vf (λe=>by cases e) c2 (by rw[c1];exact ⟨cF _,by rw[w2.length,hlen]⟩) ?_⟩
 ·show au (jZ tm parts.toList) (λgI=>kT E new t len gI)=_
  rw[k1];show kT E new t len k=_;unfold kT;rw[hi];show au (p9 i.desc) _=_;rw[he];show au (E.ty.get p.1) _=_;rw[hie];show ay (jc p.2&&Nat.ble (Nat.mul len p.2.size) 16777216) (au (mJ (oM p.2.size) (rep p.2.zero len) k) λcs=>some (SV.sl new 0 len (.k len),[(new,some (SO.cells p.1 cs))])) none=_
  rw[gN,w1];rfl
 ·rw[c1,c3,lF (by rw[w2.length,hlen];exact cF _)]
  exact w2.jI Fz
def aaS {l m:Nat} {k2:IntKind} {n2:Int} (gy:qU E t=some p) (gN:jc p.2=true) (ha:bM s.ts a= .int k1 n1) (hc:bM s.ts c= .int k2 n2) (h1:n1=(l:Int)) (h2:n2=(m:Int)) (hl:l<=m) (hm:m<=1000000) (hk:s.free K) (hp:B.pk K=false) (hkz:(eW (km p.2.zero)).isEmpty=true):
  bX E B (.makeSlice t a c) s (s.set K (.rows false p.1 p.2.size (List.replicate l (km p.2.zero)))) (.ms K p.2.size 0 l) (some (K,true)):=bX.lay hk hp λ{F g J tm h new} r=>by
 subst h1;subst h2;let ⟨i,hi,he,hie⟩:=rY gy;let ⟨v,v1,v2⟩:=r.val ha (by simp)
 let ⟨w,w1,w2⟩:=r.val hc (by simp)
 cases v2;cases w2;have mD:=Nu gN;have auf:∀n,Ej (km p.2.zero) n=(List.replicate n (km p.2.zero)).flatten:=λn=>by
  induction n with
  |zero=>rfl
  |succ n ih=>show km p.2.zero++Ej _ n=_;rw[ih,Sq,nn]
 have hlr:∀n,(rep p.2.zero n).length=n*p.2.size:=λn=>by rw[(Je (F:=λ_=>none) (g:=.no) (rJ p.2.zero) n).length,Ua,AW,mD]
 refine ⟨.sl new 0 l (.k m),.cells p.1 (rep p.2.zero m),?_,abb,Vf (λe=>by cases e) (λr hr=>by rw[List.eq_of_mem_replicate hr,AW,mD]) (by rw[Bu];exact ⟨hl,hlr m⟩) ?_⟩
 ·show two tm a c (λu v=>bE (lq u) (lq v) (B9 E new t))=_
  unfold two;rw[v1,w1];show B9 E new t l m=_;unfold B9;rw[hi];show au (p9 i.desc) _=_;rw[he];show au (E.ty.get p.1) _=_;rw[hie];show ay (Nat.ble l m&&(Nat.ble m 1000000&&jc p.2)) (some (SV.sl new 0 l (.k m),[(new,some (SO.cells p.1 (rep p.2.zero m)))])) none=_;rw[(cN _ _).2 hl,(cN _ _).2 hm,gN];rfl
 ·rw[Bu,<-auf];have aDQ:∀l m,l<=m->(rep p.2.zero m).take (l*p.2.size)=rep p.2.zero l:=by
   intro l;induction l with
   |zero=>intro m _;simp[rep]
   |succ l ih=>
    intro m hlm;obtain ⟨m',rfl⟩:∃m',m=m'+1:=⟨m-1,by omega⟩
    show (p.2.zero++rep p.2.zero m').take ((l+1)*p.2.size)=p.2.zero++rep p.2.zero l;rw[eK,kO,EP,<-mD,agJ,mD,ih m' (by omega)]
  rw[aDQ l m hl];exact Je (rJ _) l
def akG (hk:s.free K) (hp:B.pk K=false):bX E B (.makeMap t none) s (s.set K (.map [])) (.mp K) (some (K,true)):=bX.lay hk hp λ{F g J tm h new} r=>by
 refine ⟨.mp new,.map [] 0,rfl,?_,λgy hh=> ?_⟩
 ·have:=VA.mp (F:=F) (g:=g.at K new (.k 0)) K;rwa[at_ρ] at this
 ·have:=fC.map (F:=F) (g:=g.at K new (.k 0)) (h:=gy) (K:=K) (es:= []) (ms:= []) (c:=0) (by rw[at_ρ];exact hh) .nil .nil
  rwa[at_ρ] at this
def atd {b:ByteArray} (hi:E.ty.get t=some i) (hd:zR i.desc=true) (ha:bM s.ts a= .str b) (hk:s.free K) (hp:B.pk K=false):bX E B (.range t a) s (s.set K (.iter b 0)) (.it K) (some (K,true)):=bX.lay hk hp λ{F g J tm h new} r=>by
 let ⟨v,v1,v2⟩:=r.val ha (by simp)
 cases v2;refine ⟨.ptr new 0,.pL b 0,?_,?_,λgy hh=> ?_⟩
 ·show one tm a (wM E h.hp.get new t)=_;unfold one;rw[v1];show au (E.ty.get t) (λi=>au (Jf i.desc (.str b) h.hp.get) λo=>some (SV.ptr new 0,[(new,some o)]))=_
  rw[hi];show au (Jf i.desc (.str b) h.hp.get) _=_;generalize i.desc=d at hd;cases d<;>first|(cases hd;done)|rfl
 ·have:=VA.it (F:=F) (g:=g.at K new (.k 0)) K;rwa[at_ρ] at this
 ·have:=fC.iter (F:=F) (g:=g.at K new (.k 0)) (h:=gy) (K:=K) (s:=b) (pos:=0) (by rw[at_ρ];exact hh)
  rwa[at_ρ] at this
end
section
variable {F F':Hf} {g g':Gb} {B:Bs} {J:cS} {s s' s1:LS} {tm:Tf} {h:Hs} {hp:Hf} {E:Env} {nt:Nat} {all l:bS}
def HX (s:LS) (sz:Nat) (y:AV) (R:aT):Prop:=y≠ .undef/\∀{B:Bs} {F:Hf} {g:Gb} {J:cS} {tm:Tf} {h:Hs} {v:SV},Rel B F g J s tm h->VA F g v y->∃xs,uy h.hp.get sz v=some (R.length,xs)/\bZ F .no xs R.flatten/\∀r∈R,r.length=sz
def YV {sz id:Nat} {c:Cp} (hh:gP (hp id) off (n*sz)=some (e,svs)) (hl:off+n*sz<=svs.length):uy hp sz (.sl id off n c)=some (n,(svs.drop off).take (n*sz)):=by
 show BS hp sz (.sl id off n c)=_;unfold BS;refine yW (a:=n) rfl (b:=((svs.drop off).take (n*sz))) ?_;show kM hp id off (Nat.mul n sz)=_;unfold kM;rw[show gP (hp id) off (Nat.mul n sz)=some (e,svs) from hh];show ay (Nat.ble (Nat.add off (Nat.mul n sz)) svs.length) (some ((svs.drop off).take (n*sz))) none=_;rw[show Nat.ble (Nat.add off (Nat.mul n sz)) svs.length=true from kn hl]
def asA {sz:Nat} {R:aT} (hy:xC y=some (e,sz,R)):HX s sz y R:=⟨λe=>(by subst e;cases hy),λ{B F g J tm h v} r hv=>by
 rcases HI hv hy with ⟨rfl,rfl|rfl⟩|⟨id,off,c,e',svs,rfl,_,hF,hu,hl,hq⟩
 ·exact ⟨[],rfl,.nil,λr hr=>by cases hr⟩
 ·exact ⟨[],rfl,.nil,λr hr=>by cases hr⟩
 ·exact ⟨_,YV (sP r.sub hF) hl,hq,hu⟩⟩
def aAw {sz:Nat}:HX s sz .cR []:=⟨by simp,λ{B F g J tm h v} r hv=>by cases hv;exact ⟨[],rfl,.nil,λr hr=>by cases hr⟩⟩
def aac {sz lo:Nat} {Q:List (List Y)} (hu:∀r∈Q,r.length=sz):((Q.drop lo).take n).flatten=(Q.flatten.drop (lo*sz)).take (n*sz):=by
 rw[rH (λr hr=>hu r (tF hr)),qm hu]
def aAx {sz lo:Nat} {R:aT} (hb:lk K s.bs=some (.rows z e sz Q)) (hR:(Q.drop lo).take n=R) (hn:lo+n<=Q.length):HX s sz (.ms K sz lo n) R:=⟨by simp,λ{B F g J tm h v} r hv=>by
 subst hR;have q:=r.bx K _ hb;generalize J K=fp at q;cases q with
 |dD cn=>
  cases hv with
  |qI=>exact ⟨[],by simp;rfl,by simp;exact .nil,λr hr=>by simp at hr⟩
  |rE=>exact ⟨[],by simp;rfl,by simp;exact .nil,λr hr=>by simp at hr⟩
  |ms _ _ _ fT=>rw[cn] at fT;cases fT
 | @rows _ _ _ _ svs cn hh hz hu hc q=>
  have hl:=gE hc;have hle:lo*sz+n*sz<=Q.length*sz:=by rw[<-eK];exact gz _ hn
  have hlen:((Q.drop lo).take n).length=n:=by rw[dx,gJ];omega
  have lQ:∀r∈(Q.drop lo).take n,r.length=sz:=λr hr=>hu r (tF (oH hr))
  have hq:bZ F .no ((svs.drop (lo*sz)).take (n*sz)) ((Q.drop lo).take n).flatten:=by
   have:=(q.drop (lo*sz)).take (n*sz);rwa[sf,nq,eg (by omega),<-aac hu] at this
  cases hv with
  |qI _ fT=>rw[cn] at fT;cases fT
  |rE=>exact ⟨[],by simp;rfl,by simp;exact .nil,λr hr=>by simp at hr⟩
  |ms _ _ _ _=>
   exact ⟨_,by rw[hlen];exact YV (jd hh) (by omega),hq,lQ⟩⟩
def jL (K:Nat) (x:AV):AV:=ay (ke K (dE x)) .undef x
def Cr (K:Nat):aB->aB
 | []=> []
 |x::l=>jL K x::Cr K l
def Be (K:Nat) (x:AV):K∉dE (jL K x):=by
 unfold jL;rw[bk];split
 ·exact λhc=>by cases hc
 ·rename_i hx;exact λhc=>hx ((qx _ _).2 hc)
def Cs (q:VA F g v x):VA F g v (jL K x):=by
 unfold jL;rw[bk];split
 ·exact .undef v
 ·exact q
def Wb {K:Nat}:∀{xs:aB} {vs:aM},bZ F g vs xs->bZ F g vs (Cr K xs)
 | [],_,q=>by cases q;exact .nil
 |x::l,_,q=>by cases q with|cons h t=>exact .cons (Cs h) (Wb t)
def Nt (K:Nat):∀(l:aB),K∉eW (Cr K l)
 | [],hc=>by cases hc
 |x::l,hc=>(ee.1 (show K∈dE (jL K x)++eW (Cr K l) from hc)).elim (Be K x) (Nt K l)
def Bx.fa (K:Nat):Bx->Bx
 | .flat e cs=>.flat e (Cr K cs)
 | .hole e s Q i x=>.hole e s Q i (jL K x)
 | .tree e s l Q o=>.tree e s l Q (l4 (jL K) o)
 |b=>b
def LS.fa (s:LS) (K:Nat):LS:=⟨s.ts.map λp=>(p.1,jL K p.2),s.bs.map λp=>(p.1,p.2.fa K)⟩
def Kb (s:LS) (K:Nat):(s.fa K).free K:=by
 refine ⟨λt x hx=> ?_,λk b bY hb=> ?_⟩
 ·rw[show (s.fa K).ts=s.ts.map λp=>(p.1,jL K p.2) from rfl,mm] at hx
  obtain ⟨y,_,rfl⟩:=kP.1 hx;exact Be K y
 ·rw[show (s.fa K).bs=s.bs.map λp=>(p.1,p.2.fa K) from rfl,mm] at hb
  obtain ⟨y,_,rfl⟩:=kP.1 hb;cases y with
  |flat e cs=>exact Nt K cs
  |hole e s Q i x=>exact Be K x
  |tree e s l Q o=>
   have key:∀o:dd,K∉vN (l4 (jL K) o):=λo=>by
    induction o with
    |nil=>exact λhc=>by cases hc
    |cons p l ih=>exact λhc=>(ee.1 (show K∈dE (jL K p.2)++vN (l4 (jL K) l) from hc)).elim (Be K p.2) ih
   exact key o
  |_=>exact λhc=>by cases hc
def Cq (r:Rel B F g J s tm h) (K:Nat):Rel B F g J (s.fa K) tm h:=by
 have back:∀{k b'},lk k (s.fa K).bs=some b'->∃b,lk k s.bs=some b/\b'=b.fa K:=λ{k b'} hb=>by
  rw[show (s.fa K).bs=s.bs.map λp=>(p.1,p.2.fa K) from rfl,mm] at hb
  obtain ⟨b,iY,rfl⟩:=kP.1 hb;exact ⟨b,iY,rfl⟩
 refine {r with tm:=λt y hy hn=> ?_,bx:=λk b hb=> ?_,dj:=λk k' b b' hb cn=> ?_,nf:=λk b hb=> ?_,l6:=λk b hb=> ?_}
 ·rw[show (s.fa K).ts=s.ts.map λp=>(p.1,jL K p.2) from rfl,mm] at hy
  obtain ⟨x,hx,rfl⟩:=kP.1 hy;by_cases hu:x= .undef
  ·subst hu;exact absurd rfl hn
  ·let ⟨v,v1,v2⟩:=r.tm t x hx hu;exact ⟨v,v1,Cs v2⟩
 ·obtain ⟨b0,h0,rfl⟩:=back hb;have q:=r.bx k b0 h0;generalize J k=fp at q ⊢;cases q with
  |flat hh q=>exact .flat hh (Wb q)
  |dD iY=>exact .dD iY
  |rows iY hh hz hu hc q=>exact .rows iY hh hz hu hc q
  |map hh q1 q2=>exact .map hh q1 q2
  |iter hh=>exact .iter hh
  |hole iY hh hu hc q hi hv hx=>exact .hole iY hh hu hc q hi hv (Cs hx)
  |iA iY=>exact .iA iY
  |tree iY hh hu hc q nd ho=>exact .tree iY hh hu hc q nd (ho.map λp hp v hv=>Cs hv)
 ·let ⟨c,hc,_⟩:=back hb;let ⟨c',wX,_⟩:=back cn;exact r.dj k k' c c' hc wX
 ·let ⟨b0,h0,_⟩:=back hb;exact r.nf k b0 h0
 ·let ⟨b0,h0,_⟩:=back hb;exact r.l6 k b0 h0
def LS.Mn (s:LS) (p:Nat->Bool) (K:Nat):LS:=⟨s.ts.map λq=>(q.1,jL K q.2),s.bs.map λq=>(q.1,ay (p q.1) q.2 (q.2.fa K))⟩
def aqU (r:Rel B F g J s tm h) (p:Nat->Bool) (K:Nat):Rel B F g J (s.Mn p K) tm h:=by
 have r2:=Cq r K;have back:∀{k b'},lk k (s.Mn p K).bs=some b'->lk k s.bs=some b'\/lk k (s.fa K).bs=some b':=λ{k b'} hb=>by
  have key:∀l:bH,lk k (l.map λq=>(q.1,ay (p q.1) q.2 (q.2.fa K)))=some b'->lk k l=some b'\/lk k (l.map λq=>(q.1,q.2.fa K))=some b':=λl=>by
   induction l with
   |nil=>exact λh=>by cases h
   |cons q l ih=>
    intro hq;rw[fM,cr] at hq;rw[fM,cr,cr];by_cases hk:k=q.1
    ·rw[ax hk] at hq;rw[ax hk,ax hk];rw[bk] at hq;split at hq
     ·exact .inl hq
     ·exact .inr hq
    ·rw[aA hk] at hq;rw[aA hk,aA hk];exact ih hq
  exact key _ hb
 have old:∀{k b'},lk k (s.Mn p K).bs=some b'->∃b,lk k s.bs=some b:=λ{k b'} hb=>by
  rcases back hb with hb|hb
  ·exact ⟨_,hb⟩
  ·rw[show (s.fa K).bs=s.bs.map λp=>(p.1,p.2.fa K) from rfl,mm] at hb
   obtain ⟨b,iY,rfl⟩:=kP.1 hb;exact ⟨b,iY⟩
 refine {r2 with tm:=λt y hy hn=>r2.tm t y hy hn,bx:=λk b hb=> ?_,dj:=λk k' b b' hb cn=> ?_,nf:=λk b hb=> ?_,l6:=λk b hb=> ?_}
 ·rcases back hb with hb|hb
  ·exact r.bx k b hb
  ·exact r2.bx k b hb
 ·let ⟨c,hc⟩:=old hb;let ⟨c',wX⟩:=old cn;exact r.dj k k' c c' hc wX
 ·let ⟨b0,h0⟩:=old hb;exact r.nf k b0 h0
 ·let ⟨b0,h0⟩:=old hb;exact r.l6 k b0 h0
def LS.Bc (p:Nat->Bool):aI->LS->LS
 | [],s=>s
 |K::l,s=>LS.Bc p l (s.Mn p K)
def Kc (p:Nat->Bool):∀(l:aI) {s:LS},Rel B F g J s tm h->Rel B F g J (LS.Bc p l s) tm h
 | [],_,r=>r
 |K::l,_,r=>Kc p l (aqU r p K)
def aqT {sz:Nat} (hb:lk K s.bs=some (.rows z e sz Q)):lk K (s.fa K).bs=some (.rows z e sz Q):=by
 rw[show (s.fa K).bs=s.bs.map λp=>(p.1,p.2.fa K) from rfl,mm,hb]
 rfl
def Wq {m:Nat} {xs:aM} {ie:TI} (hi:E.ty.get t=some i) (hd:p9 i.desc=some e) (he:E.ty.get e=some ie) (gN:jc ie=true) (hw:uy hp ie.size w=some (m,xs)) (hm:m<=1000000):
  mC E hp new t v w=ay (Nat.beq m 0) (ay (UF v) (some (v,[])) none) (xP v hp new e ie.size m xs):=by
 unfold mC;rw[iV hi,iV hd];unfold Vi;rw[iV he,gN];show au (uy hp ie.size w) (λq=>ay (Nat.ble q.1 1000000) (ay (Nat.beq q.1 0) (ay (UF v) (some (v,[])) none) (xP v hp new e ie.size q.1 q.2)) none)=_
 rw[iV hw];show ay (Nat.ble m 1000000) _ none=_;rw[show Nat.ble m 1000000=true from kn hm]
def ajS {sz:Nat} {c:Cp} (h1:g.O K=true) (h2:g.κ K=c):VA F g (.sl (g.Z K) 0 n c) (.ms K sz 0 n):=by
 have:=VA.ms (F:=F) (g:=g) (K:=K) sz 0 n h1;rw[nV,h2] at this;cases c<;>exact this
def amE (r:Rel B F g J s tm h) (jP:h.hp.get new=none) (hlo:B.nx<=new) (hk:s.free K) (AK:B.pn K=false) {R:aT} {ie:TI} {xs:aM} (hi:E.ty.get t=some i) (hd:p9 i.desc=some e) (he:E.ty.get e=some ie) (gN:jc ie=true) (hv:VA F g v (.ms K ie.size 0 n)) (hw:uy h.hp.get ie.size w=some (R.length,xs)) (hx:bZ F .no xs R.flatten) (hu:∀x∈R,x.length=ie.size) (hP:Q.take n=P) (hn:n<=Q.length) (mv:n<=1000000) (hR:R.length<=1000000) (hz':z'=true->z=true/\n=Q.length) (hb:lk K s.bs=some (.rows z e ie.size Q)):
  ∃v' us,mC E h.hp.get new t v w=some (v',us)/\(∀h',Upd h us new h'\/(us= []/\h'=h)->Rel B F (wu g (some (K,false)) new us v') (tz J (some (K,false)) new us) (s.set K (.rows z' e ie.size (P++R))) tm h')/\VA F (wu g (some (K,false)) new us v') v' (.ms K ie.size 0 (P++R).length)/\∀u∈us,u.1=new\/u.1∈J K:=by
 have hPl:P.length=n:=by rw[<-hP,dx];omega
 have hlen:(P++R).length=n+R.length:=by rw[eQ,hPl]
 have q:=r.bx K _ hb;have Ix:UF v=true:=by cases hv<;>rfl
 rw[Wq hi hd he gN hw hR];by_cases hR0:R.length=0
 ·have hRn:R= []:=EI.1 hR0;refine ⟨v,[],?_,?_,by rw[hlen,hR0];exact hv,λu hu=>(by cases hu)⟩
  ·rw[hR0];show ay (UF v) (some (v,[])) none=_;rw[Ix]
  ·have aIk:vd s (s.set K (.rows z' e ie.size (P++R))):=⟨λt y hy=>.inr ⟨y,hy,WV.refl y⟩,λk b' cn=>by
    rw[show (s.set K (.rows z' e ie.size (P++R))).bs=(K,.rows z' e ie.size (P++R))::s.bs from rfl,cr] at cn;split at cn
    ·rename_i ek;cases cn;subst ek;refine ⟨_,hb,λF g h K fp q=> ?_⟩
     rw[hRn,pg];generalize hQ:Bx.rows z e ie.size Q=bb at q;cases q with
     |flat|map|iter|hole|tree|iA=>cases hQ
     |dD fT=>cases hQ;rw[<-hP];simp only[List.take_nil];exact .dD fT
     |rows fT hh hz Fw hc q=>
      cases hQ;have hl:=gE hc;have hle:n*ie.size<=Q.length*ie.size:=gz _ hn;refine .rows fT hh (λe0=> ?_) (λr hr=>Fw r ?_) ?_ ?_
      ·let ⟨z1,z2⟩:=hz' e0;rw[<-hP,z2,vf];exact hz z1
      ·rw[<-hP] at hr;exact oH hr
      ·rw[hPl];cases hκ:g.κ K with
       |k m=>rw[hκ] at hc;exact ⟨iL hn hc.1,hc.2⟩
       |u e'=>rw[hκ] at hc;exact ⟨hc.1,iL hle hc.2⟩
      ·rw[hPl,<-hP,rH Fw];have:=q.take (n*ie.size);rwa[nq,eg hle] at this
    ·exact ⟨b',cn,WB.refl b'⟩⟩
   have r1:=r.less aIk;intro h' hu;show Rel B F g J _ tm h';rcases hu with ⟨u1,u2,u3,u4⟩|⟨_,rfl⟩
   ·exact {r1 with bx:=λk b hb=>(r1.bx k b hb).keep (gq.refl F) λi _=>u1 i,sub:=λid o ho=>(u1 id).trans (r1.sub id o ho),bd:=λx hx=>(u1 x).trans (r1.bd x (iL u2 hx)),nx:=iL r1.nx u2,old:=λx hx hp=>(u1 x).trans (r1.old x hx hp),lg:=λx hx=>r1.lg x (u4 x hx)}
   ·exact r1
 rw[show Nat.beq R.length 0=false from by
  cases hx:Nat.beq R.length 0 with
  |false=>rfl
  |true=>exact absurd ((beq_iff _ _).1 hx) hR0]
 show ∃v' us,xP v h.hp.get new e ie.size R.length xs=some (v',us)/\_;have alN:P++R≠ []:=λhc=>hR0 (by rw[(YF.1 hc).2];rfl)
 have cW:xs.length=R.length*ie.size:=by rw[hx.length,Hz hu]
 have bD:=r.lt hb;generalize hφ:J K=fp at q bD;have htl:fp.tail= []:=by cases q<;>rfl
 have hfo:∀i∈fp,∃b,lk K s.bs=some b/\i∈J K:=λi hi=>⟨_,hb,by rw[hφ];exact hi⟩
 have Hq:∀(us:cQ) (old:aM),us≠ []->bZ F .no old P.flatten->old.length=n*ie.size->(∀x∈P,x.length=ie.size)->(h.gY us).hp.get new=some (.cells e (old++xs))->(∀x,x≠new->x∉fp->(h.gY us).hp.get x=h.hp.get x)->(∀x∈fp,(h.gY us).hp.get x=h.hp.get x\/(h.gY us).hp.get x=none)->(∀x∈(h.gY us).lg,x=new\/x∈fp\/x∈h.lg)->(∀u∈us,u.1=new\/u.1∈fp)->
   iD new us=true->(∀h',Upd h us new h'\/(us= []/\h'=h)->Rel B F (wu g (some (K,false)) new us (.sl new 0 (Nat.add n R.length) (.u e))) (tz J (some (K,false)) new us) (s.set K (.rows z' e ie.size (P++R))) tm h')/\VA F (wu g (some (K,false)) new us (.sl new 0 (Nat.add n R.length) (.u e))) (.sl new 0 (Nat.add n R.length) (.u e)) (.ms K ie.size 0 (P++R).length)/\∀u∈us,u.1=new\/u.1∈fp:=λus old lQ o1 o2 o3 u1 u2 u2' u4 u5 hN=>by
  have NZ:tz J (some (K,false)) new us=λk=>if k=K then [new] else J k:=by
   rw[Qm hN];funext k;split
   ·rename_i ek;rw[ek,hφ,htl]
   ·rfl
  rw[HN hN,NZ];have hl:(old++xs).length=(P++R).length*ie.size:=by rw[eQ,o2,cW,hlen,eK]
  refine ⟨λh' hu=> ?_,by rw[hlen];exact abb,λu hu=>u5 u hu⟩
  rcases hu with ⟨w1,w2,w3,w4⟩|⟨hc,_⟩
  rotate_left
  ·exact absurd hc lQ
  refine r.chg (K:=K) (b':=.rows z' e ie.size (P++R)) (fo:=fp) (fp:= [new]) hfo (λi hi=>.inr (by rw[cB.1 hi];exact ⟨jP,hlo⟩)) (λx h1 h2=>by rw[w1];exact u2 x (λe0=>h2 (by simp[e0])) h1) w2 (λx hx=> ?_) (λx hx=> ?_) (Vf (λ_=>alN) (λx hx=>(ee.1 hx).elim (o3 x) (hu x)) (show vS e ie.size (P++R).length (old++xs).length (.u e) from ⟨rfl,by rw[hl];exact cF _⟩) ?_ _ (by rw[w1];exact u1)) (.inr ⟨hk,AK,λk bY=>at_ne bY⟩)
  ·rw[w1,u2 x (by omega) (λhc=>by have:=bD x hc;omega)]
   exact r.bd x (by omega)
  ·rcases u4 x (w4 x hx) with h1|h1|h1
   ·exact .inr (.inr (by simp[h1]))
   ·exact .inr (.inl h1)
   ·exact .inl h1
  ·rw[<-hl,vf,EH];exact o1.append hx
 cases q with
 |dD cn=>
  have qJ:v= .cR:=by
   cases hv with
   |qI=>rfl
   |rE _ _ h0=>cases h0
   |ms _ _ _ fT=>rw[cn] at fT;cases fT
  subst qJ;have Fy:n=0:=IJ.1 hn;have hP0:P= []:=by rw[<-hP];simp
  let ⟨r1,r2,r3⟩:=Hq [(new,some (.cells e xs))] [] (by simp) (by rw[hP0];exact .nil) (by rw[Fy,nV];rfl) (λx hx=>by rw[hP0] at hx;cases hx) (by rw[lX,ax rfl];rfl) (λx hx _=>by rw[lX,aA hx]) (λx hx=>by cases hx) (λx hx=>by
   rw[GM] at hx;rcases bB.1 hx with h1|h1
   ·exact .inl h1
   ·exact .inr (.inr h1)) (λu hu=>.inl (by rw[cB.1 hu])) (ua gw)
  rw[Fy,show Nat.add 0 R.length=R.length from cE _] at r1 r2;exact ⟨_,_,rfl,r1,r2,r3⟩
 | @rows _ _ _ _ svs cn hh hz rF hc q=>
  have rp:v= .sl (g.Z K) 0 n (g.κ K):=by
   cases hv with
   |qI s fT=>rw[cn] at fT;cases fT
   |rE _ _ h0=>cases h0
   |ms s lo n fT=>rw[nV];cases g.κ K<;>rfl
  have hl:=gE hc;have hle:n*ie.size<=Q.length*ie.size:=gz _ hn;have o2:(svs.take (n*ie.size)).length=n*ie.size:=by rw[dx];omega
  have o3:∀x∈P,x.length=ie.size:=λx hx=>rF x (by rw[<-hP] at hx;exact oH hx)
  have o1:bZ F .no (svs.take (n*ie.size)) P.flatten:=by
   have:=q.take (n*ie.size);rw[nq,eg hle,<-rH rF,hP] at this;exact this
  have hold:kM h.hp.get (g.Z K) 0 (Nat.mul n ie.size)=some (svs.take (n*ie.size)):=by
   unfold kM;rw[hh];show ay (Nat.ble (Nat.add 0 (Nat.mul n ie.size)) svs.length) (some ((svs.drop 0).take (n*ie.size))) none=_;rw[show Nat.ble (Nat.add 0 (Nat.mul n ie.size)) svs.length=true from kn (by rw[show Nat.add 0 (Nat.mul n ie.size)=n*ie.size from cE _];omega)]
   rfl
  have hto:xP v h.hp.get new e ie.size R.length xs=Bi new e ie.size (g.Z K) 0 n (g.κ K) R.length xs (e,svs) (svs.take (n*ie.size)):=by
   rw[rp];show D1 h.hp.get new e ie.size R.length xs (g.Z K) 0 n (g.κ K)=_;unfold D1;rw[show Nat.ble n 1000000=true from kn mv];show ay (P4 n R.length (g.κ K)) _ _=_;rw[bk];split
   ·rename_i xA;rw[iV hold];cases hκ:g.κ K with
    |u e'=>rw[hκ] at xA;cases xA
    |k m=>
     rw[hκ] at xA;have xA:m<n+R.length:=fU xA;show _=ay (Nat.ble (Nat.add n R.length) m) _ _;rw[show Nat.ble (Nat.add n R.length) m=false from by
      cases hx:Nat.ble (Nat.add n R.length) m with
      |false=>rfl
      |true=>exact absurd (fU hx) (by show ¬n+R.length<=m;omega)]
   ·exact yW (by rw[hh];rfl) hold
  have hρ:g.Z K<h.nx:=bD _ (by simp)
  rw[hto];cases hκ:g.κ K with
  |u e'=>
   rw[hκ] at hc;obtain ⟨rfl,Cl⟩:=hc;have e1:Bi new e' ie.size (g.Z K) 0 n (.u e') R.length xs (e',svs) (svs.take (n*ie.size))=some (.sl new 0 (Nat.add n R.length) (.u e'),[(g.Z K,none),(new,some (.cells e' (svs.take (n*ie.size)++xs)))]):=by
    show ay (Nat.ble (Nat.add 0 (Nat.mul n ie.size)) svs.length&&Nat.beq e' e') _ none=_;rw[show Nat.ble (Nat.add 0 (Nat.mul n ie.size)) svs.length=true from kn (by rw[show Nat.add 0 (Nat.mul n ie.size)=n*ie.size from cE _];omega),show Nat.beq e' e'=true from (beq_iff _ _).2 rfl]
    rfl
   let ⟨r1,r2,r3⟩:=Hq [(g.Z K,none),(new,some (.cells e' (svs.take (n*ie.size)++xs)))] _ (by simp) o1 o2 o3 (by
    show ((h.hp.set (g.Z K) none).set new _).get new=_;rw[Tr.iU,ax rfl]) (λx hx oT=>by
    show ((h.hp.set (g.Z K) none).set new _).get x=_;rw[Tr.iU,aA hx,Tr.iU,aA (λe0=>oT (by simp[e0]))]) (λx hx=>by
    have ex:x=g.Z K:=by simpa using hx
    have bY:x≠new:=λe0=>by rw[<-e0,ex,hh] at jP;cases jP
    show ((h.hp.set (g.Z K) none).set new _).get x=_\/((h.hp.set (g.Z K) none).set new _).get x=_;rw[Tr.iU,aA bY,Tr.iU,ax ex];exact .inr rfl) (λx hx=>by
    have:x∈new::g.Z K::h.lg:=hx;simpa using this) (λu hu=>by
    rcases bB.1 hu with rfl|hu
    ·exact .inr (by simp)
    ·exact .inl (by rw[cB.1 hu])) (ua (dR _ gw))
   exact ⟨_,_,e1,r1,r2,r3⟩
  |k m=>
   rw[hκ] at hc;let ⟨hc1,yg⟩:=hc;have e1:Bi new e ie.size (g.Z K) 0 n (.k m) R.length xs (e,svs) (svs.take (n*ie.size))=ay (Nat.ble (Nat.add n R.length) m) (ay (Nat.ble (Nat.add 0 (Nat.mul (Nat.add n R.length) ie.size)) svs.length) (some (.sl (g.Z K) 0 (Nat.add n R.length) (.k m),[(g.Z K,some (.cells e (dU svs (Nat.add 0 (Nat.mul n ie.size)) xs)))])) none) (vM new e (Nat.add n R.length) (svs.take (n*ie.size)++xs) []):=rfl;cases kE:Nat.ble (Nat.add n R.length) m with
   |false=>
    let ⟨r1,r2,r3⟩:=Hq [(new,some (.cells e (svs.take (n*ie.size)++xs)))] _ (by simp) o1 o2 o3 (by rw[lX,ax rfl]) (λx hx _=>by rw[lX,aA hx]) (λx hx=>by
     have ex:x=g.Z K:=by simpa using hx
     have bY:x≠new:=λe0=>by rw[<-e0,ex,hh] at jP;cases jP
     rw[lX,aA bY];exact .inl rfl) (λx hx=>by
     rw[GM] at hx;rcases bB.1 hx with h1|h1
     ·exact .inl h1
     ·exact .inr (.inr h1)) (λu hu=>.inl (by rw[cB.1 hu])) (ua gw)
    exact ⟨_,_,by rw[e1,kE];rfl,r1,r2,r3⟩
   |true=>
    have hm:n+R.length<=m:=fU kE;have alH:(n+R.length)*ie.size<=svs.length:=by rw[yg];exact gz _ hm
    have hz0:Nat.add 0 (Nat.mul n ie.size)=n*ie.size:=cE _;have hl3:(svs.take (n*ie.size)++xs).length=(P++R).length*ie.size:=by rw[eQ,o2,cW,hlen,eK]
    have Ix:(dU svs (n*ie.size) xs).length=svs.length:=by
     show (svs.take (n*ie.size)++xs++svs.drop (Nat.add (n*ie.size) xs.length)).length=_;rw[eQ,hl3,gJ,cW,hlen];have:Nat.add (n*ie.size) (R.length*ie.size)=(n+R.length)*ie.size:=by rw[eK];rfl
     rw[this];omega
    have htk:(dU svs (n*ie.size) xs).take ((P++R).length*ie.size)=svs.take (n*ie.size)++xs:=by
     show (svs.take (n*ie.size)++xs++svs.drop (Nat.add (n*ie.size) xs.length)).take ((P++R).length*ie.size)=_;rw[<-hl3,OB]
    have aun:g.Z K≠new:=λe0=>by rw[e0] at hh;rw[hh] at jP;cases jP
    have hN:iD new [(g.Z K,some (SO.cells e (dU svs (n*ie.size) xs)))]=false:=DE λu hu=>by rw[cB.1 hu];exact aun
    have NZ:(λk=>if k=K then [g.Z K] else J k)=J:=by
     funext k;by_cases hk:k=K
     ·rw[ax hk,hk,hφ]
     ·rw[aA hk]
    refine ⟨.sl (g.Z K) 0 (Nat.add n R.length) (.k m),[(g.Z K,some (.cells e (dU svs (n*ie.size) xs)))],?_,λh' rF=> ?_,?_,λu hu=>.inr (by rw[cB.1 hu];simp)⟩
    ·rw[e1,kE,show Nat.ble (Nat.add 0 (Nat.mul (Nat.add n R.length) ie.size)) svs.length=true from kn (by rw[show Nat.add 0 (Nat.mul (Nat.add n R.length) ie.size)=(n+R.length)*ie.size from cE _];exact alH),hz0]
    ·rcases rF with ⟨w1,w2,w3,w4⟩|⟨hc,_⟩
     rotate_left
     ·cases hc
     rw[uf hN,DO hN,<-NZ];refine r.chg (K:=K) (b':=.rows z' e ie.size (P++R)) (fo:= [g.Z K]) (fp:= [g.Z K]) hfo (λi hi=>.inl hi) (λx h1 _=>by rw[w1,lX,aA (λe0=>h1 (by simp[e0]))]) w2 (λx hx=> ?_) (λx hx=> ?_) ?_ (.inl rfl)
     ·rw[w1,lX,aA (by omega)]
      exact r.bd x (by omega)
     ·have:=w4 x hx;rw[GM] at this;rcases bB.1 this with h1|h1
      ·exact .inr (.inl (by simp[h1]))
      ·exact .inl h1
     ·refine .rows cn (by rw[w1,lX,ax rfl]) (λ_=>alN) (λx hx=>(ee.1 hx).elim (o3 x) (hu x)) (by rw[hκ,hlen];exact ⟨hm,by rw[Ix];exact yg⟩) ?_
      rw[htk,EH];exact o1.append hx
    ·rw[uf hN,hlen];exact ajS cn hκ
def Pn {c:Call} {R:aT} (yS:c.callee= .builtin .append) (rX:c.args.toList= [a,b]) (N5:c.argTypes.toList= [t1,t2]) (gy:qU E t1=some p) (gN:jc p.2=true) (tZ:E.ty.get t2=some i2) (Ho:vY i2.desc=true) (ha:∀{F:Hf} {g:Gb} {J:cS} {tm:Tf} {h:Hs},Rel B F g J s tm h->∃v,bU tm a=some v/\VA F g v (.ms K p.2.size 0 n)) (hb:bM s.ts b=y) (tX:HX s p.2.size y R) (hP:Q.take n=P) (hn:n<=Q.length) (mv:n<=1000000) (hR:R.length<=1000000) (hz':z'=true->z=true/\n=Q.length) (ql:lk K s.bs=some (.rows z p.1 p.2.size Q)) (AK:B.pn K=false):
  bX E B (.call c) s ((s.fa K).set K (.rows z' p.1 p.2.size (P++R))) (.ms K p.2.size 0 (P++R).length) (some (K,false)):=bX.mk λ{F g J tm h new} r h1 h2=>by
 let ⟨i,hi,he,hie⟩:=rY gy;let ⟨v,v1,v2⟩:=ha r;let ⟨w,w1,w2⟩:=r.val hb tX.1;let ⟨xs,x1,x2,x3⟩:=tX.2 r w2;let ⟨v',us,u1,r2,u2,u3⟩:=amE (Cq r K) h1 h2 (Kb s K) AK hi he hie gN v2 x1 x2 x3 hP hn mv hR hz' (aqT ql);refine ⟨v',us,?_,u2,r2,λu hu=>(u3 u hu).elim .inl λhc=>.inr ⟨K,_,rfl,ql,hc⟩,λk b' cn=> ?_,λk hk=>yA (hk.elim (λ⟨b,hb⟩=>.inl ⟨b.fa K,by rw[show (s.fa K).bs=s.bs.map λp=>(p.1,p.2.fa K) from rfl,mm,hb];rfl⟩) λ⟨l,hl⟩=>.inr (by cases hl;rfl))⟩
 ·show nW E tm h.hp.get new c=_;unfold nW;rw[yS];show au (eI tm c.args.toList) (λaa=>oz E h.hp.get new .append aa c.argTypes.toList)=_
  rw[rX,N5];have e1:eI tm [a,b]=some [v,w]:=by
   show bE (bU tm a) (bE (bU tm b) (some []) λv l=>some (v::l)) (λv l=>some (v::l))=_
   rw[v1,w1];rfl
  rw[e1];show au (E.ty.get t2) (λi=>ay (vY i.desc) (mC E h.hp.get new t1 v w) none)=_
  rw[iV tZ,Ho];exact u1
 ·rw[show ((s.fa K).set K (.rows z' p.1 p.2.size (P++R))).bs=(K,.rows z' p.1 p.2.size (P++R))::(s.fa K).bs from rfl,cr] at cn;by_cases e:k=K
  ·subst e;exact .inl ⟨_,ql⟩
  ·rw[aA e,show (s.fa K).bs=s.bs.map λp=>(p.1,p.2.fa K) from rfl,mm] at cn
   let ⟨b0,h0,_⟩:=kP.1 cn;exact .inl ⟨b0,h0⟩
def apn {c:Call} {R:aT} (yS:c.callee= .builtin .append) (rX:c.args.toList= [a,b]) (N5:c.argTypes.toList= [t1,t2]) (gy:qU E t1=some p) (gN:jc p.2=true) (tZ:E.ty.get t2=some i2) (Ho:vY i2.desc=true) (ha:bM s.ts a= .ms K p.2.size 0 n) (hb:bM s.ts b=y) (tX:HX s p.2.size y R) (hP:Q.take n=P) (hn:n<=Q.length) (mv:n<=1000000) (hR:R.length<=1000000) (hz':z'=true->z=true/\n=Q.length) (ql:lk K s.bs=some (.rows z p.1 p.2.size Q)) (AK:B.pn K=false):
  bX E B (.call c) s ((s.fa K).set K (.rows z' p.1 p.2.size (P++R))) (.ms K p.2.size 0 (P++R).length) (some (K,false)):=Pn yS rX N5 gy gN tZ Ho (λr=>r.val ha (by simp)) hb tX hP hn mv hR hz' ql AK
def akK {c:Call} {R:aT} (yS:c.callee= .builtin .append) (rX:c.args.toList= [a,b]) (N5:c.argTypes.toList= [t1,t2]) (gy:qU E t1=some p) (gN:jc p.2=true) (tZ:E.ty.get t2=some i2) (Ho:vY i2.desc=true) (ha:bM s.ts a= .cR) (hb:bM s.ts b=y) (tX:HX s p.2.size y R) (hR:R.length<=1000000) (ql:lk K s.bs=some (.rows true p.1 p.2.size [])) (AK:B.pn K=false):
  bX E B (.call c) s ((s.fa K).set K (.rows z' p.1 p.2.size ([]++R))) (.ms K p.2.size 0 ([]++R).length) (some (K,false)):=Pn (Q:= []) (n:=0) yS rX N5 gy gN tZ Ho (λ{F g J tm h} r=>by
   let ⟨v,v1,v2⟩:=r.val ha (by simp)
   have q:=r.bx K _ ql;generalize J K=fp at q;cases v2;cases q with
   |dD fT=>exact ⟨_,v1,.qI _ fT⟩
   |rows _ _ hz=>exact absurd rfl (hz rfl)) hb tX rfl (cF _) (pU _) hR (λ_=>⟨rfl,rfl⟩) ql AK
end
section
variable {F F':Hf} {g g':Gb} {B:Bs} {J:cS} {s s' s1:LS} {tm:Tf} {h:Hs} {hp:Hf} {E:Env} {nt:Nat} {all l:bS}
def BR {id:Nat} (hi:E.ty.get t=some i) (hw:v.cells=some ws) (hh:hp id=some (.cells e svs)) (hl:(Nat.beq ws.length i.size&&Nat.ble (Nat.add off ws.length) svs.length)=true):unit (p7 E hp t v (.ptr id off))=some (.cm [],[(id,some (.cells e (dU svs off ws)))]):=by
 show unit (uI (E.ty.get t) v.cells (nE (hp id)) (λi xs p=>ay (Nat.beq xs.length i.size&&Nat.ble (Nat.add off xs.length) p.2.length) (some [(id,some (SO.cells p.1 (dU p.2 off xs)))]) none))=_
 rw[hi,hw,hh];show unit (ay (Nat.beq ws.length i.size&&Nat.ble (Nat.add off ws.length) svs.length) (some [(id,some (SO.cells e (dU svs off ws)))]) none)=_;rw[hl];rfl
def atc (hi:E.ty.get t=some i) (ha:bM s.ts a= .loc K off) (hc:bM s.ts c=y) (hx:rz y=some xs) (hb:lk K s.bs=some (.flat e cs)) (hl:(Nat.beq xs.length i.size&&Nat.ble (Nat.add off xs.length) cs.length)=true):
  bX E B (.store t a c) s (s.set K (.flat e (di cs off xs))) (.cm []) (some (K,false)):=bX.wr hb λ{F g J tm h new} r=>by
 let ⟨va,a1,a2⟩:=r.val ha (by simp)
 let ⟨vc,c1,c2⟩:=r.val hc (λe=>by subst e;cases hx)
 let ⟨ws,w1,w2⟩:=wq c2 hx;have hq:=r.bx K _ hb;generalize AM:J K=fp at hq ⊢;cases hq with
 | @flat _ _ svs hh q=>
  cases a2;refine ⟨.cm [],.cells e (dU svs off ws),?_,.cm .nil,rfl,λgy tq=>.flat tq (zr q w2 off)⟩
  show two tm a c (λa v=>unit (p7 E h.hp.get t v a))=_
  unfold two;rw[a1,c1];exact BR hi w1 hh (by rw[w2.length,q.length];exact hl)
def aoD {sz:Nat} {Q:List (List Y)} {R:List Y} (hu:∀r∈Q,r.length=sz) (hj:Q[j]? =some R):Q.flatten.drop (j*sz)=R++Q.flatten.drop (j*sz+sz):=by
 have bD:j<Q.length:=(cg.1 hj).1;have he:Q[j]=R:=(cg.1 hj).2;rw[show j*sz+sz=(j+1)*sz by rw[eK,kO],<-qm hu,<-qm hu,se bD,nn,he]
def auH {sz:Nat} {Q:List (List Y)} {R':List Y} (hu:∀r∈Q,r.length=sz) (bD:j<Q.length):(Q.set j R').flatten=Q.flatten.take (j*sz)++R'++Q.flatten.drop (j*sz+sz):=by
 rw[II,ax bD,EH,nn,rH hu,qm hu,eK,kO,kN]
def zf {sz:Nat} (hu:∀r∈Q,r.length=sz) (hj:Q[j]? =some R) (hf:f+xs.length<=sz):(Q.set j (di R f xs)).flatten=di Q.flatten (j*sz+f) xs:=by
 have bD:j<Q.length:=(cg.1 hj).1;have hR:R.length=sz:=hu R (cX hj);rw[auH hu bD];unfold di;have e1:Q.flatten.take (j*sz+f)=Q.flatten.take (j*sz)++R.take f:=by
  rw[List.take_add,aoD hu hj,YE (by omega)]
 have e2:Q.flatten.drop (Nat.add (j*sz+f) xs.length)=R.drop (Nat.add f xs.length)++Q.flatten.drop (j*sz+sz):=by
  rw[show Nat.add (j*sz+f) xs.length=j*sz+(f+xs.length) from fV _ _ _,<-zk,aoD hu hj,anS (by omega)]
  rfl
 rw[e1,e2];simp[kN]
def Nb {N:Nat} (h1:off+ws.length<=N) (h2:N<=vs.length):(dU vs off ws).take N=dU (vs.take N) off ws:=by
 show (vs.take off++ws++vs.drop (off+ws.length)).take N=(vs.take N).take off++ws++(vs.take N).drop (off+ws.length);have hl:(vs.take off++ws).length=off+ws.length:=by rw[eQ,dx,eg (by omega)]
 rw[YD,lF (by omega),hl,sf,nq,eg (by omega)]
def Ef (h1:off+ws.length<=vs.length):(dU vs off ws).length=vs.length:=by
 show (vs.take off++ws++vs.drop (off+ws.length)).length=_;rw[eQ,eQ,dx,gJ,eg (by omega)]
 omega
def yx (h1:f+xs.length<=R.length):(di R f xs).length=R.length:=by
 unfold di;rw[eQ,eQ,dx,gJ,eg (by omega),show Nat.add f xs.length=f+xs.length from rfl]
 omega
def age {sz:Nat} (hi:E.ty.get t=some i) (ha:bM s.ts a= .el K sz j f) (hc:bM s.ts c=y) (hx:rz y=some xs) (rG:(eW xs).isEmpty=true) (hb:lk K s.bs=some (.rows z e sz Q)) (hj:Q[j]? =some R) (hl:(Nat.beq xs.length i.size&&Nat.ble (Nat.add f xs.length) sz)=true):
  bX E B (.store t a c) s (s.set K (.rows z e sz (Q.set j (di R f xs)))) (.cm []) (some (K,false)):=bX.wr hb λ{F g J tm h new} r=>by
 rw[aY] at hl;have hs:xs.length=i.size:=(beq_iff _ _).1 hl.1;have hf:f+xs.length<=sz:=fU hl.2;let ⟨va,a1,a2⟩:=r.val ha (by simp)
 let ⟨vc,c1,c2⟩:=r.val hc (λe=>by subst e;cases hx)
 let ⟨ws,w1,w2⟩:=wq c2 hx;have hq:=r.bx K _ hb;generalize AM:J K=fp at hq ⊢;have bD:j<Q.length:=(cg.1 hj).1;cases hq with
 |dD=>cases bD
 | @rows _ _ _ _ svs cn hh hz hu fG q=>
  cases a2;have hlen:=gE fG;have hjs:j*sz+sz<=Q.length*sz:=by
   have:(j+1)*sz<=Q.length*sz:=gz _ (by omega)
   rw[eK,kO] at this;exact this
  have hR:R.length=sz:=hu R (cX hj);have hwl:=w2.length;refine ⟨.cm [],.cells e (dU svs (j*sz+f) ws),?_,.cm .nil,rfl,λgy tq=>.rows cn tq (λhz0=> ?_) (λr hr=> ?_) ?_ ?_⟩
  ·show two tm a c (λa v=>unit (p7 E h.hp.get t v a))=_
   unfold two;rw[a1,c1];refine BR hi w1 hh ?_;rw[hwl,aY];exact ⟨hl.1,kn (show j*sz+f+xs.length<=svs.length by omega)⟩
  ·intro hc;have:=bA List.length hc;rw[hZ] at this;rw[show Q.length=0 from this] at bD;cases bD
  ·rcases tE hr with hr|rfl
   ·exact hu r hr
   ·rw[yx (by omega)];exact hR
  ·rw[hZ,Ef (by omega)];exact fG
  ·rw[hZ,zf hu hj hf,Nb (by omega) hlen]
   exact zr q (w2.jI rG) _
def ajH {i:Nat} (h:i<vs.length):dU vs i [w]=vs.set i w:=by
 rw[II,ax h];show vs.take i++ [w]++vs.drop (i+1)=_;simp
def m8 (h:f<R.length):di R f [x]=R.set f x:=by
 show R.take f++ [x]++R.drop (f+1)=_;rw[II,ax h];simp
def aaP {sz:Nat} {l:ew} (hi:E.ty.get t=some i) (ha:bM s.ts a= .el K sz j f) (hc:bM s.ts c=y) (hx:rz y=some [x]) (hb:lk K s.bs=some (.tree e sz l Q o)) (hj:Q[j]? =some R) (hf:f<sz) (hl:Nat.beq 1 i.size=true):
  bX E B (.store t a c) s (s.set K (.tree e sz l (Q.set j (di R f [.undef])) [(j*sz+f,x)])) (.cm []) (some (K,false)):=bX.wrM hb λ{F g J tm h new} r=>by
 let ⟨va,a1,a2⟩:=r.val ha (by simp)
 let ⟨vc,c1,c2⟩:=r.val hc (λe=>by subst e;cases hx)
 let ⟨ws,w1,w2⟩:=wq c2 hx;have hq:=r.bx K _ hb;generalize AM:J K=fp at hq ⊢;cases hq with
 |iA=>cases hj
 | @tree _ _ _ _ _ svs fs cn hh hu fG q nd ho=>
  cases a2;have hlen:=gE fG;cases w2 with|cons hw1 hw2=>
  rename_i w ws';cases hw2;have hR:R.length=sz:=hu R (cX hj);obtain ⟨xo,hxo⟩:∃xo,R[f]? =some xo:=⟨R[f]'(by omega),dW _⟩
  let ⟨sh,v0,f1,f0,f2,k1,k2,k3,k4,k5⟩:=q.cell hu hj hxo;have hlt0:j*sz+f<(svs.take (Q.length*sz)).length:=(cg.1 k2).1;have bD:j*sz+f<svs.length:=by rw[dx] at hlt0;omega
  refine ⟨.cm [],.cells e (dU svs (j*sz+f) [w]),?_,.cm .nil,by simp,λgy tq hot=> ?_⟩
  ·show two tm a c (λa v=>unit (p7 E h.hp.get t v a))=_
   unfold two;rw[a1,c1];refine BR hi w1 hh ?_;rw[aY];exact ⟨hl,kn (show j*sz+f+1<=svs.length by omega)⟩
  ·rw[ajH bD] at tq;have nd':=tD.1 nd;rw[m8 (by omega)]
   refine .tree cn tq (λr hr=> ?_) (by rw[hZ,hZ];exact fG) ?_ nd ⟨⟨w,by rw[EG,ax rfl,ax bD],hw1⟩,trivial⟩
   ·rcases tE hr with hr|rfl
    ·exact hu r hr
    ·rw[hZ];exact hR
   ·rw[hZ,List.take_set];have gO:∀i∈fs,gy i=h.hp.get i:=λi hi=>hot i λe0=>nd'.1 (e0 ▸ hi)
    have q':=q.keep (gq.refl F) gO;let ⟨sh',v0',g1,g0,g2,m1,m2,m3,m4,m5⟩:=q'.cell hu hj hxo;have:=m5 w .undef g0 (.any w m4.there);rw[m3];exact this
def aaR {sz:Nat} (hi:E.ty.get t=some i) (ha:bM s.ts a= .el K sz j f) (hc:bM s.ts c=y) (hx:rz y=some [x]) (hb:lk K s.bs=some (.rows z e sz Q)) (hj:Q[j]? =some R) (hl:(Nat.beq 1 i.size&&Nat.ble (Nat.add f 1) sz)=true):
  bX E B (.store t a c) s (s.set K (.hole e sz (Q.set j (di R f [.undef])) (j*sz+f) x)) (.cm []) (some (K,false)):=bX.wr hb λ{F g J tm h new} r=>by
 rw[aY] at hl;have hs:1=i.size:=(beq_iff _ _).1 hl.1;have hf:f+1<=sz:=fU hl.2;let ⟨va,a1,a2⟩:=r.val ha (by simp)
 let ⟨vc,c1,c2⟩:=r.val hc (λe=>by subst e;cases hx)
 let ⟨ws,w1,w2⟩:=wq c2 hx;have hq:=r.bx K _ hb;generalize AM:J K=fp at hq ⊢;have bD:j<Q.length:=(cg.1 hj).1;cases hq with
 |dD=>cases bD
 | @rows _ _ _ _ svs cn hh hz hu fG q=>
  cases a2;have hlen:=gE fG;have hjs:j*sz+sz<=Q.length*sz:=by
   have:(j+1)*sz<=Q.length*sz:=gz _ (by omega)
   rw[eK,kO] at this;exact this
  have hR:R.length=sz:=hu R (cX hj);cases w2 with|cons hw1 hw2=>
  rename_i w ws';cases hw2;refine ⟨.cm [],.cells e (dU svs (j*sz+f) [w]),?_,.cm .nil,rfl,λgy tq=>.hole (v:=w) cn tq (λr hr=> ?_) ?_ ?_ ?_ ?_ hw1⟩
  ·show two tm a c (λa v=>unit (p7 E h.hp.get t v a))=_
   unfold two;rw[a1,c1];refine BR hi w1 hh ?_;rw[aY];exact ⟨hl.1,kn (show j*sz+f+1<=svs.length by omega)⟩
  ·rcases tE hr with hr|rfl
   ·exact hu r hr
   ·rw[yx (by simp;omega)];exact hR
  ·rw[hZ,Ef (by simp;omega)];exact fG
  ·rw[hZ,zf hu hj (by simpa using hf),Nb (by simp;omega) hlen]
   exact zr q (.one (.undef w)) _
  ·rw[hZ];omega
  ·show (svs.take (j*sz+f)++ [w]++svs.drop (j*sz+f+1))[j*sz+f]? =some w;rw[kN,qW (by rw[dx];omega),dx,eg (by omega),oJ]
   rfl
end
section
variable {F F':Hf} {g g':Gb} {B:Bs} {J:cS} {s s' s1:LS} {tm:Tf} {h:Hs} {hp:Hf} {E:Env}
def ajx {hp:Hf} {sz:Nat} {l:ew} {R:aT} {f:aI} (q:fC F g hp K (.tree e sz l R o) f):f.Nodup:=by
 cases q with
 |iA=>simp
 |tree hb hh hu hc q nd ho=>exact nd
def agD (r:Rel B F g J s tm h) (jP:h.hp.get new=none) (hlo:B.nx<=new) (hk:s.free K) (AK:B.pn K=false) {l:ew} {R:aT} {ie:TI} {xs:aM} (hi:E.ty.get t=some i) (hd:p9 i.desc=some e) (he:E.ty.get e=some ie) (gN:jc ie=true) (hv:VA F g v (.ms K ie.size 0 Q.length)) (hw:uy h.hp.get ie.size w=some (R.length,xs)) (hx:TR F h.hp.get l xs R []) (hu:∀x∈R,x.length=ie.size) (alN:R≠ []) (mv:Q.length<=1000000) (hR:R.length<=1000000) (JU:K∉vN o) (hho:∀old tl:aM,old.length=Q.length*ie.size->C1 F g (old++xs++tl) o) (hb:lk K s.bs=some (.tree e ie.size l Q [])):
  ∃v' us,mC E h.hp.get new t v w=some (v',us)/\(∀h',Upd h us new h'\/(us= []/\h'=h)->Rel B F (wu g (some (K,false)) new us v') (tz J (some (K,false)) new us) (s.set K (.tree e ie.size l (Q++R) o)) tm h')/\VA F (wu g (some (K,false)) new us v') v' (.ms K ie.size 0 (Q++R).length)/\∀u∈us,u.1=new\/u.1∈J K:=by
 have hlen:(Q++R).length=Q.length+R.length:=eQ;have q:=r.bx K _ hb;rw[Wq hi hd he gN hw hR];have hR0:R.length≠0:=λhc=>alN (EI.1 hc)
 rw[show Nat.beq R.length 0=false from by
  cases hx:Nat.beq R.length 0 with
  |false=>rfl
  |true=>exact absurd ((beq_iff _ _).1 hx) hR0]
 show ∃v' us,xP v h.hp.get new e ie.size R.length xs=some (v',us)/\_;have cW:xs.length=R.length*ie.size:=hx.length hu;have bD:=r.lt hb;have yc:=ajx q;have hth:=q.there;generalize hφ:J K=fp at q bD yc hth;have hfo:∀i∈fp,∃b,lk K s.bs=some b/\i∈J K:=λi hi=>⟨_,hb,by rw[hφ];exact hi⟩
 have same:∀{id:Nat} {c:Cp} {svs:aM},C1 F g svs o->C1 F (g.at K id c) svs o:=λ{id c svs} q=>by
  have:=q.map (F':=F) (g':=g.at K id c) (f:=λx=>x) λp hp v hv=>hv.gb (at_same λhc=>JU (Dr hp K hc))
  rwa[G6] at this
 have Hq:∀(us:cQ) (old:aM) (f0:aI),us≠ []->fp.tail=f0->TR F h.hp.get l old Q f0->old.length=Q.length*ie.size->(∀x∈Q,x.length=ie.size)->(h.gY us).hp.get new=some (.cells e (old++xs))->(∀x,x≠new->(∀y∈fp.head?,x≠y)->(h.gY us).hp.get x=h.hp.get x)->(∀x∈(h.gY us).lg,x=new\/x∈fp\/x∈h.lg)->(∀u∈us,u.1=new\/u.1∈fp)->
   iD new us=true->(∀h',Upd h us new h'\/(us= []/\h'=h)->Rel B F (wu g (some (K,false)) new us (.sl new 0 (Nat.add Q.length R.length) (.u e))) (tz J (some (K,false)) new us) (s.set K (.tree e ie.size l (Q++R) o)) tm h')/\VA F (wu g (some (K,false)) new us (.sl new 0 (Nat.add Q.length R.length) (.u e))) (.sl new 0 (Nat.add Q.length R.length) (.u e)) (.ms K ie.size 0 (Q++R).length)/\∀u∈us,u.1=new\/u.1∈fp:=λus old f0 lQ hf0 o1 o2 o3 u1 u2 u4 u5 hN=>by
  have NZ:tz J (some (K,false)) new us=λk=>if k=K then new::f0 else J k:=by
   rw[Qm hN];funext k;split
   ·rename_i ek;rw[ek,hφ,hf0]
   ·rfl
  rw[HN hN,NZ];have hl:(old++xs).length=(Q++R).length*ie.size:=by rw[eQ,o2,cW,hlen,eK]
  have f0in:∀i∈f0,i∈fp:=λi hi=>by rw[<-hf0] at hi;exact List.mem_of_mem_tail hi
  have f0hd:∀i∈f0,∀y∈fp.head?,i≠y:=λi hi y hy=>by
   cases fp with
   |nil=>cases hy
   |cons a fp=>
    have hy:a=y:=by simpa using hy
    have hi:i∈fp:=by rw[<-hf0] at hi;exact hi
    intro e0;exact (tD.1 yc).1 (by rw[hy,<-e0];exact hi)
  have axp:∀i∈f0,i≠new:=λi hi e0=>hth i (f0in i hi) (by rw[e0];exact jP)
  refine ⟨λh' rF=> ?_,by rw[hlen];exact abb,λu hu=>u5 u hu⟩
  rcases rF with ⟨w1,w2,w3,w4⟩|⟨hc,_⟩
  rotate_left
  ·exact absurd hc lQ
  have keep:∀i∈f0,h'.hp.get i=h.hp.get i:=λi hi=>by rw[w1];exact u2 i (axp i hi) (f0hd i hi)
  refine r.chg (K:=K) (b':=.tree e ie.size l (Q++R) o) (fo:=fp) (fp:=new::f0) hfo (λi hi=> ?_) (λx h1 h2=> ?_) w2 (λx hx=> ?_) (λx hx=> ?_) ?_ (.inr ⟨hk,AK,λk bY=>at_ne bY⟩)
  ·rcases bB.1 hi with e0|hi
   ·exact .inr (by rw[e0];exact ⟨jP,hlo⟩)
   ·exact .inl (f0in i hi)
  ·rw[w1];exact u2 x (λe0=>h2 (by simp[e0])) λy hy e0=>h1 (by rw[e0];exact List.mem_of_mem_head? hy)
  ·rw[w1,u2 x (by omega) (λy hy e0=>by have:=bD y (List.mem_of_mem_head? hy);omega)]
   exact r.bd x (by omega)
  ·rcases u4 x (w4 x hx) with h1|h1|h1
   ·exact .inr (.inr (by simp[h1]))
   ·exact .inr (.inl h1)
   ·exact .inl h1
  ·have key:=fC.tree (F:=F) (g:=g.at K new (.u e)) (h:=h'.hp.get) (K:=K) (e:=e) (s:=ie.size) (l:=l) (Q:=Q++R) (o:=o) (svs:=old++xs) (fs:=f0++ []) at_β (by rw[at_ρ,w1];exact u1) (λx hx=>(ee.1 hx).elim (o3 x) (hu x)) (by rw[at_κ];exact (show vS e ie.size (Q++R).length (old++xs).length (.u e) from ⟨rfl,by rw[hl];exact cF _⟩)) (by
    rw[<-hl,vf];exact (o1.keep (gq.refl F) keep).app (hx.keep (gq.refl F) λi hi=>by cases hi)) (by
    rw[at_ρ,pg];refine tD.2 ⟨λhc=>axp new hc rfl,?_⟩
    rw[<-hf0];cases fp with
    |nil=>exact List.nodup_nil
    |cons a fp=>exact (tD.1 yc).2) (by
    have:=hho old [] o2;rw[pg] at this;exact same this)
   rwa[at_ρ,pg] at key
 cases q with
 |iA cn=>
  have qJ:v= .cR:=by
   cases hv with
   |qI=>rfl
   |rE _ _ h0=>cases h0
   |ms _ _ _ fT=>rw[cn] at fT;cases fT
  subst qJ;let ⟨r1,r2,r3⟩:=Hq [(new,some (.cells e xs))] [] [] (by simp) rfl .nil (by simp) (λx hx=>by cases hx) (by rw[lX,ax rfl];rfl) (λx hx _=>by rw[lX,aA hx]) (λx hx=>by
   rw[GM] at hx;rcases bB.1 hx with h1|h1
   ·exact .inl h1
   ·exact .inr (.inr h1)) (λu hu=>.inl (by rw[cB.1 hu])) (ua gw)
  rw[show Nat.add ([]:aT).length R.length=R.length from cE _] at r1 r2;exact ⟨_,_,rfl,r1,r2,r3⟩
 | @tree _ _ _ _ _ svs fs cn hh rF hc q nd ho=>
  have rp:v= .sl (g.Z K) 0 Q.length (g.κ K):=by
   generalize hn:Q.length=n at hv;cases hv with
   |qI s fT=>rw[cn] at fT;cases fT
   |rE _ _ h0=>cases h0
   |ms s lo n fT=>rw[nV];cases g.κ K<;>rfl
  have hl:=gE hc;have o2:(svs.take (Q.length*ie.size)).length=Q.length*ie.size:=by rw[dx];omega
  have hold:kM h.hp.get (g.Z K) 0 (Nat.mul Q.length ie.size)=some (svs.take (Q.length*ie.size)):=by
   unfold kM;rw[hh];show ay (Nat.ble (Nat.add 0 (Nat.mul Q.length ie.size)) svs.length) (some ((svs.drop 0).take (Q.length*ie.size))) none=_;rw[show Nat.ble (Nat.add 0 (Nat.mul Q.length ie.size)) svs.length=true from kn (by rw[show Nat.add 0 (Nat.mul Q.length ie.size)=Q.length*ie.size from cE _];omega)]
   rfl
  have hto:xP v h.hp.get new e ie.size R.length xs=Bi new e ie.size (g.Z K) 0 Q.length (g.κ K) R.length xs (e,svs) (svs.take (Q.length*ie.size)):=by
   rw[rp];show D1 h.hp.get new e ie.size R.length xs (g.Z K) 0 Q.length (g.κ K)=_;unfold D1;rw[show Nat.ble Q.length 1000000=true from kn mv];show ay (P4 Q.length R.length (g.κ K)) _ _=_;rw[bk];split
   ·rename_i xA;rw[iV hold];cases hκ:g.κ K with
    |u e'=>rw[hκ] at xA;cases xA
    |k m=>
     rw[hκ] at xA;have xA:m<Q.length+R.length:=fU xA;show _=ay (Nat.ble (Nat.add Q.length R.length) m) _ _;rw[show Nat.ble (Nat.add Q.length R.length) m=false from by
      cases hx:Nat.ble (Nat.add Q.length R.length) m with
      |false=>rfl
      |true=>exact absurd (fU hx) (by show ¬Q.length+R.length<=m;omega)]
   ·exact yW (by rw[hh];rfl) hold
  have hρ:g.Z K<h.nx:=bD _ (by simp)
  have aun:g.Z K≠new:=λe0=>by rw[e0] at hh;rw[hh] at jP;cases jP
  have hhd:∀{x:Nat},(∀y∈(g.Z K::fs).head?,x≠y)->x≠g.Z K:=λhx=>hx _ (by simp)
  rw[hto];cases hκ:g.κ K with
  |u e'=>
   rw[hκ] at hc;obtain ⟨rfl,Cl⟩:=hc;have e1:Bi new e' ie.size (g.Z K) 0 Q.length (.u e') R.length xs (e',svs) (svs.take (Q.length*ie.size))=some (.sl new 0 (Nat.add Q.length R.length) (.u e'),[(g.Z K,none),(new,some (.cells e' (svs.take (Q.length*ie.size)++xs)))]):=by
    show ay (Nat.ble (Nat.add 0 (Nat.mul Q.length ie.size)) svs.length&&Nat.beq e' e') _ none=_;rw[show Nat.ble (Nat.add 0 (Nat.mul Q.length ie.size)) svs.length=true from kn (by rw[show Nat.add 0 (Nat.mul Q.length ie.size)=Q.length*ie.size from cE _];omega),show Nat.beq e' e'=true from (beq_iff _ _).2 rfl]
    rfl
   let ⟨r1,r2,r3⟩:=Hq [(g.Z K,none),(new,some (.cells e' (svs.take (Q.length*ie.size)++xs)))] _ fs (by simp) rfl q o2 rF (by
    show ((h.hp.set (g.Z K) none).set new _).get new=_;rw[Tr.iU,ax rfl]) (λx hx oT=>by
    show ((h.hp.set (g.Z K) none).set new _).get x=_;rw[Tr.iU,aA hx,Tr.iU,aA (hhd oT)]) (λx hx=>by
    have:x∈new::g.Z K::h.lg:=hx;rcases bB.1 this with h1|h1
    ·exact .inl h1
    ·rcases bB.1 h1 with h1|h1
     ·exact .inr (.inl (by simp[h1]))
     ·exact .inr (.inr h1)) (λu hu=>by
    rcases bB.1 hu with rfl|hu
    ·exact .inr (by simp)
    ·exact .inl (by rw[cB.1 hu])) (ua (dR _ gw))
   exact ⟨_,_,e1,r1,r2,r3⟩
  |k m=>
   rw[hκ] at hc;let ⟨hc1,yg⟩:=hc;have e1:Bi new e ie.size (g.Z K) 0 Q.length (.k m) R.length xs (e,svs) (svs.take (Q.length*ie.size))=ay (Nat.ble (Nat.add Q.length R.length) m) (ay (Nat.ble (Nat.add 0 (Nat.mul (Nat.add Q.length R.length) ie.size)) svs.length) (some (.sl (g.Z K) 0 (Nat.add Q.length R.length) (.k m),[(g.Z K,some (.cells e (dU svs (Nat.add 0 (Nat.mul Q.length ie.size)) xs)))])) none) (vM new e (Nat.add Q.length R.length) (svs.take (Q.length*ie.size)++xs) []):=rfl;cases kE:Nat.ble (Nat.add Q.length R.length) m with
   |false=>
    let ⟨r1,r2,r3⟩:=Hq [(new,some (.cells e (svs.take (Q.length*ie.size)++xs)))] _ fs (by simp) rfl q o2 rF (by rw[lX,ax rfl]) (λx hx _=>by rw[lX,aA hx]) (λx hx=>by
     rw[GM] at hx;rcases bB.1 hx with h1|h1
     ·exact .inl h1
     ·exact .inr (.inr h1)) (λu hu=>.inl (by rw[cB.1 hu])) (ua gw)
    exact ⟨_,_,by rw[e1,kE];rfl,r1,r2,r3⟩
   |true=>
    have hm:Q.length+R.length<=m:=fU kE;have alH:(Q.length+R.length)*ie.size<=svs.length:=by rw[yg];exact gz _ hm
    have hz0:Nat.add 0 (Nat.mul Q.length ie.size)=Q.length*ie.size:=cE _;have hl3:(svs.take (Q.length*ie.size)++xs).length=(Q++R).length*ie.size:=by rw[eQ,o2,cW,hlen,eK]
    have aue:dU svs (Q.length*ie.size) xs=svs.take (Q.length*ie.size)++xs++svs.drop (Nat.add (Q.length*ie.size) xs.length):=rfl;have Ix:(dU svs (Q.length*ie.size) xs).length=svs.length:=by
     rw[aue,eQ,hl3,gJ,cW,hlen];have:Nat.add (Q.length*ie.size) (R.length*ie.size)=(Q.length+R.length)*ie.size:=by rw[eK];rfl
     rw[this];omega
    have htk:(dU svs (Q.length*ie.size) xs).take ((Q++R).length*ie.size)=svs.take (Q.length*ie.size)++xs:=by
     rw[aue,<-hl3,OB]
    have hN:iD new [(g.Z K,some (SO.cells e (dU svs (Q.length*ie.size) xs)))]=false:=DE λu hu=>by rw[cB.1 hu];exact aun
    have NZ:(λk=>if k=K then (g.Z K::fs) else J k)=J:=by
     funext k;by_cases hk:k=K
     ·rw[ax hk,hk,hφ]
     ·rw[aA hk]
    refine ⟨.sl (g.Z K) 0 (Nat.add Q.length R.length) (.k m),[(g.Z K,some (.cells e (dU svs (Q.length*ie.size) xs)))],?_,λh' hu''=> ?_,?_,λu hu=>.inr (by rw[cB.1 hu];simp)⟩
    ·rw[e1,kE,show Nat.ble (Nat.add 0 (Nat.mul (Nat.add Q.length R.length) ie.size)) svs.length=true from kn (by rw[show Nat.add 0 (Nat.mul (Nat.add Q.length R.length) ie.size)=(Q.length+R.length)*ie.size from cE _];exact alH),hz0]
    ·rcases hu'' with ⟨w1,w2,w3,w4⟩|⟨hc,_⟩
     rotate_left
     ·cases hc
     rw[uf hN,DO hN,<-NZ];have nd':=tD.1 nd;have keep:∀i∈fs,h'.hp.get i=h.hp.get i:=λi hi=>by
      have bY:i≠g.Z K:=λe0=>nd'.1 (by rw[<-e0];exact hi)
      rw[w1,lX,aA bY]
     refine r.chg (K:=K) (b':=.tree e ie.size l (Q++R) o) (fo:=g.Z K::fs) (fp:=g.Z K::fs) hfo (λi hi=>.inl hi) (λx h1 _=>by rw[w1,lX,aA (λe0=>h1 (by simp[e0]))]) w2 (λx hx=> ?_) (λx hx=> ?_) ?_ (.inl rfl)
     ·rw[w1,lX,aA (by omega)]
      exact r.bd x (by omega)
     ·have:=w4 x hx;rw[GM] at this;rcases bB.1 this with h1|h1
      ·exact .inr (.inl (by simp[h1]))
      ·exact .inl h1
     ·have key:=fC.tree (F:=F) (g:=g) (h:=h'.hp.get) (K:=K) (e:=e) (s:=ie.size) (l:=l) (Q:=Q++R) (o:=o) (svs:=dU svs (Q.length*ie.size) xs) (fs:=fs++ []) cn (by rw[w1,lX,ax rfl]) (λx hx=>(ee.1 hx).elim (rF x) (hu x)) (by rw[hκ,hlen];exact ⟨hm,by rw[Ix];exact yg⟩) (by
       rw[htk];exact (q.keep (gq.refl F) keep).app (hx.keep (gq.refl F) λi hi=>by cases hi)) (by rw[pg];exact nd) (by rw[aue];exact hho _ _ o2)
      rwa[pg] at key
    ·rw[uf hN,hlen];exact ajS cn hκ
end
section
variable {F F':Hf} {g g':Gb} {B:Bs} {J:cS} {s s' s1:LS} {tm:Tf} {h:Hs} {hp:Hf} {E:Env}
def Aw (base:Nat):Nat->ew->aB->dd
 |k,.o _ _::l,x::r=>(Nat.add base k,x)::Aw base (k+1) l r
 |k,.d::l,_::r=>Aw base (k+1) l r
 |_,_,_=> []
def Ay:ew->aB->Bool
 | .d::l,x::r=>(dE x).isEmpty&&Ay l r
 | .o _ _::l,_::r=>Ay l r
 |_,_=>true
def Ml {base:Nat}:∀{l:ew} {cs:aB} {vs pre tl:aM} {k:Nat},bZ F g vs cs->pre.length=base+k->C1 F g (pre++vs++tl) (Aw base k l cs)
 | [],cs,_,_,_,_,_,_=>by cases cs<;>trivial
 |_::_,[],_,_,_,_,_,_=>by rename_i sh l _ _ _ _ _ _;cases sh<;>trivial
 | .d::l,x::r,_,pre,tl,k,.cons (v:=v) (vs:=vs) hv t,hl=>by
  have:=Ml (l:=l) (pre:=pre++ [v]) (tl:=tl) (k:=k+1) t (by rw[eQ,hl];rfl)
  rwa[show pre++ [v]++vs++tl=pre++v::vs++tl by simp] at this
 | .o _ _::l,x::r,_,pre,tl,k,.cons (v:=v) (vs:=vs) hv t,hl=>by
  have:=Ml (l:=l) (pre:=pre++ [v]) (tl:=tl) (k:=k+1) t (by rw[eQ,hl];rfl)
  rw[show pre++ [v]++vs++tl=pre++v::vs++tl by simp] at this
  refine ⟨⟨v,?_,hv⟩,this⟩;show (pre++v::vs++tl)[base+k]? =some v;rw[<-hl,kN,qW (cF _),oJ];rfl
def E8 {hp:Hf}:∀{l:ew} {cs:aB} {vs:aM},Ay l cs=true->cs.length=l.length->bZ F g vs cs->jf F hp l vs (mR l cs) []
 | [],[],_,_,_,.nil=>.nil
 | .d::l,x::r,_,hd,hl,.cons hv t=>by
  have hd:((dE x).isEmpty&&Ay l r)=true:=hd;rw[aY] at hd;have:=jf.cons (TC.d (F:=F) (h:=hp) (f:= []) (hv.jI hd.1) λi hi=>by cases hi) (E8 (hp:=hp) (l:=l) hd.2 (by simpa using hl) t)
  rw[pg] at this;exact this
 | .o b m::l,x::r,_,hd,hl,.cons (v:=v) hv t=>by
  have hd:Ay l r=true:=hd;have:=jf.cons (TC.any (F:=F) (h:=hp) (sh:=.o b m) (f:= []) v λi hi=>by cases hi) (E8 (hp:=hp) (l:=l) hd (by simpa using hl) t)
  rw[pg] at this;exact this
def NI:∀{l:ew} {cs:aB},cs.length=l.length->(mR l cs).length=cs.length
 | [],[],_=>rfl
 |sh::l,x::r,h=>by
  show (mR l r).length+1=r.length+1;rw[NI (l:=l) (by simpa using h)]
def akJ {c:Call} {K1:Nat} {l:ew} (yS:c.callee= .builtin .append) (rX:c.args.toList= [a,b]) (N5:c.argTypes.toList= [t1,t2]) (gy:qU E t1=some p) (gN:jc p.2=true) (tZ:E.ty.get t2=some i2) (Ho:vY i2.desc=true) (ha:bM s.ts a= .ms K p.2.size 0 n) (hn:n=Q.length) (hb:bM s.ts b= .ms K1 p.2.size 0 1) (iY:lk K1 s.bs=some (.flat e1 cs)) (gD:cs.length=p.2.size) (hll:l.length=p.2.size) (hdk:Ay l cs=true) (JU:K∉vN (Aw (Nat.mul n p.2.size) 0 l cs)) (mv:Q.length<=1000000) (ql:lk K s.bs=some (.tree p.1 p.2.size l Q [])) (AK:B.pn K=false):
  bX E B (.call c) s ((s.fa K).set K (.tree p.1 p.2.size l (Q++ [mR l cs]) (Aw (Nat.mul n p.2.size) 0 l cs))) (.ms K p.2.size 0 (Q++ [mR l cs]).length) (some (K,false)):=bX.mk λ{F g J tm h new} r h1 h2=>by
 subst hn;let ⟨i,hi,he,hie⟩:=rY gy;let ⟨v,v1,v2⟩:=r.val ha (by simp)
 let ⟨w,w1,w2⟩:=r.val hb (by simp)
 have q1:=r.bx K1 _ iY;generalize hφ1:J K1=f1 at q1;cases q1 with
 | @flat _ _ svs hh q1=>
 have hsv:svs.length=p.2.size:=by rw[q1.length,gD]
 have tX:uy h.hp.get p.2.size w=some ([mR l cs].length,svs):=by
  cases w2 with
  |ms _ _ _ fT=>
   rw[nV];have key:=YV (hp:=h.hp.get) (sz:=p.2.size) (id:=g.Z K1) (off:=0) (n:=1) (c:=uP (g.κ K1) 0) (jd hh) (by rw[hsv];omega)
   rw[key,pJ,kO,<-hsv,vf];rfl
 have hR:=TR.one (E8 (hp:=h.hp.get) hdk (by rw[gD,hll]) q1)
 have hlb:lk K (s.fa K).bs=some (.tree p.1 p.2.size l Q []):=by
  rw[show (s.fa K).bs=s.bs.map λp=>(p.1,p.2.fa K) from rfl,mm,ql]
  rfl
 let ⟨v',us,u1,r2,u2,u3⟩:=agD (Cq r K) h1 h2 (Kb s K) AK (o:=Aw (Nat.mul Q.length p.2.size) 0 l cs) hi he hie gN v2 tX hR (λx hx=>by rw[cB.1 hx,NI (by rw[gD,hll]),gD]) (by simp) mv (by simp) JU (λold tl ho=>Ml q1 (by rw[ho];rfl)) hlb
 refine ⟨v',us,?_,u2,r2,λu hu=>(u3 u hu).elim .inl λhc=>.inr ⟨K,_,rfl,ql,hc⟩,λk b' cn=> ?_,λk hk=>yA (hk.elim (λ⟨b,hb⟩=>.inl ⟨b.fa K,by rw[show (s.fa K).bs=s.bs.map λp=>(p.1,p.2.fa K) from rfl,mm,hb];rfl⟩) λ⟨l,hl⟩=>.inr (by cases hl;rfl))⟩
 ·show nW E tm h.hp.get new c=_;unfold nW;rw[yS];show au (eI tm c.args.toList) (λaa=>oz E h.hp.get new .append aa c.argTypes.toList)=_
  rw[rX,N5];have e1:eI tm [a,b]=some [v,w]:=by
   show bE (bU tm a) (bE (bU tm b) (some []) λv l=>some (v::l)) (λv l=>some (v::l))=_
   rw[v1,w1];rfl
  rw[e1];show au (E.ty.get t2) (λi=>ay (vY i.desc) (mC E h.hp.get new t1 v w) none)=_
  rw[iV tZ,Ho];exact u1
 ·rw[show ((s.fa K).set K (.tree p.1 p.2.size l (Q++ [mR l cs]) (Aw (Nat.mul Q.length p.2.size) 0 l cs))).bs=(K,.tree p.1 p.2.size l (Q++ [mR l cs]) (Aw (Nat.mul Q.length p.2.size) 0 l cs))::(s.fa K).bs from rfl,cr] at cn;by_cases e:k=K
  ·subst e;exact .inl ⟨_,ql⟩
  ·rw[aA e,show (s.fa K).bs=s.bs.map λp=>(p.1,p.2.fa K) from rfl,mm] at cn
   let ⟨b0,h0,_⟩:=kP.1 cn;exact .inl ⟨b0,h0⟩
def aaU {m:List (Nat×aB)} (gy:qU E t=some p) (gN:(jc p.2&&Nat.ble (Nat.mul 1 p.2.size) 16777216)=true) (hm:B5 s.ts parts.toList=some m) (hy:DH (oM p.2.size) (Ej (km p.2.zero) 1) m=some ys) (hk:s.free K) (hp:B.pk K=false) (Fz:K∉eW ys):bX E B (.buildSlice t 1 parts) s (s.set K (.flat p.1 ys)) (.ms K p.2.size 0 1) (some (K,true)):=bX.lay hk hp λ{F g J tm h new} r=>by
 let ⟨i,hi,he,hie⟩:=rY gy;let ⟨k,k1,k2⟩:=G0 r hm;let ⟨ws,w1,w2⟩:=FI k2 (Je (rJ (F:=F) (g:=g) p.2.zero) 1) hy;refine ⟨.sl new 0 1 (.k 1),.cells p.1 ws,?_,abb,Vg (w2.gb (at_same Fz))⟩;show au (jZ tm parts.toList) (λgI=>kT E new t 1 gI)=_
 rw[k1];show kT E new t 1 k=_;unfold kT;rw[hi];show au (p9 i.desc) _=_;rw[he];show au (E.ty.get p.1) _=_;rw[hie];show ay (jc p.2&&Nat.ble (Nat.mul 1 p.2.size) 16777216) (au (mJ (oM p.2.size) (rep p.2.zero 1) k) λcs=>some (SV.sl new 0 1 (.k 1),[(new,some (SO.cells p.1 cs))])) none=_
 rw[gN,w1];rfl
end
section
variable {F F':Hf} {g g':Gb} {B:Bs} {J:cS} {s s' s1:LS} {tm:Tf} {h:Hs} {hp:Hf} {E:Env}
def akv:aB->aI->dd->aB
 |r,f::fs,p::o=>akv (r.set f p.2) fs o
 |r,_,_=>r
def EqH (j sz:Nat):aI->dd->Prop
 |f::fs,p::o=>p.1=j*sz+f/\EqH j sz fs o
 |_,_=>True
def bZ.asF:∀{vs:aM} {xs:aB} {f:Nat} {v:SV} {y:AV},bZ F g vs xs->vs[f]? =some v->VA F g v y->bZ F g vs (xs.set f y)
 |_,_,_,_,_,.nil,h,_=>by simp at h
 |_,_,0,_,_,.cons hv t,h,k=>by
  simp at h;subst h;exact .cons k t
 |_,_,f+1,_,_,.cons hv t,h,k=>.cons hv (bZ.asF t (by simpa using h) k)
def ahT {j sz:Nat} {svs v0:aM} (Dy:∀f,f<sz->v0[f]? =svs[j*sz+f]?) (hl:v0.length=sz):∀{fs:aI} {o:dd} {r:aB},bZ F g v0 r->EqH j sz fs o->C1 F g svs o->bZ F g v0 (akv r fs o)
 | [],_,_,q,_,_=>q
 |_::_,[],_,q,_,_=>q
 |f::fs,p::o,r,q,⟨e,he⟩,⟨⟨v,h1,h2⟩,h3⟩=>by
  have key:bZ F g v0 (r.set f p.2):=by
   by_cases hf:f<sz
   ·exact q.asF (by rw[Dy f hf,<-e];exact h1) h2
   ·rw[agH (by rw[<-q.length,hl];omega)]
    exact q
  exact ahT (fs:=fs) (o:=o) (r:=r.set f p.2) Dy hl key he h3
def agk {sz:Nat} {l:ew} (hi:E.ty.get t=some i) (ha:bM s.ts a= .el K sz j f) (hb:lk K s.bs=some (.tree e sz l Q o)) (hj:Q[j]? =some R) (hf:Nat.ble (Nat.add f i.size) sz=true) (hx:mf i (((akv (mR l R) fs o).drop f).take i.size) 0=some x) (hk:(eW (mR l R)).isEmpty=true) (he:EqH j sz fs o):bX E B (.load t a) s s x none:=bX.un (f:=λhp v=>same (nM E hp t v)) (λ_ _ _=>rfl) ha (by simp) λ{F g J tm h v} r hv=>by
 cases hv;have hf:f+i.size<=sz:=fU hf;have q:=r.bx K _ hb;generalize J K=fp at q;cases q with
 |iA=>cases hj
 | @tree _ _ _ _ _ svs _ cn hh hu hc q nd ho=>
 have hl:=gE hc;let ⟨a0,v0,b0,f1,f0,f2,e1,e2,e3,e4,h1,_⟩:=q.focus hu hj;have hjs:j*sz+sz<=Q.length*sz:=by
  have bD:j<Q.length:=(cg.1 hj).1;have:(j+1)*sz<=Q.length*sz:=gz _ (by omega)
  rw[eK,kO] at this;exact this
 have Dy:∀f,f<sz->v0[f]? =svs[j*sz+f]? :=λf hf=>by
  have e6:(svs.take (Q.length*sz))[j*sz+f]? =svs[j*sz+f]? :=by rw[eR,ax (by omega)]
  rw[<-e6,e1,qW (by omega),e2,EN,yn (by omega)]
 have q0:bZ F g v0 (mR l R):=h1.see.gb λk gO=>by rw[ER.1 hk] at gO;cases gO
 have q1:=((ahT Dy e3 q0 he ho).drop f).take i.size;let ⟨u,u1,u2⟩:=rj q1 hx;refine ⟨u,wR hi (jd hh) (B7 (n:=i.size) ?_ (by omega)),u2⟩
 have e5:(svs.drop (j*sz+f)).take i.size=(v0.drop f).take i.size:=by
  have e6:((svs.take (Q.length*sz)).drop (j*sz+f)).take i.size=(svs.drop (j*sz+f)).take i.size:=by
   rw[sf,nq,eg (by omega)]
  rw[<-e6,e1,EO,agI (by omega),nr,e2,EN,EO,YD,gJ,e3,Nat.sub_eq_zero_of_le (by omega),EF,pg]
 rw[e5];exact u1
def asH {hp:Hf} (hg:∀i∈f0,hp i≠none):∀{l:ew} {cs:aB} {vs:aM},Ay l cs=true->cs.length=l.length->cs≠ []->bZ F g vs cs->jf F hp l vs (mR l cs) f0
 | [],[],_,_,_,bY,_=>absurd rfl bY
 | .d::l,x::r,_,hd,hl,_,.cons hv t=>by
  have hd:((dE x).isEmpty&&Ay l r)=true:=hd;rw[aY] at hd;have:=jf.cons (TC.d (F:=F) (h:=hp) (f:=f0) (hv.jI hd.1) hg) (E8 (hp:=hp) (l:=l) hd.2 (by simpa using hl) t)
  rw[pg] at this;exact this
 | .o b m::l,x::r,_,hd,hl,_,.cons (v:=v) hv t=>by
  have hd:Ay l r=true:=hd;have:=jf.cons (TC.any (F:=F) (h:=hp) (sh:=.o b m) (f:=f0) v hg) (E8 (hp:=hp) (l:=l) hd (by simpa using hl) t)
  rw[pg] at this;exact this
def aaQ {sz:Nat} {l:ew} (hi:E.ty.get t=some i) (ha:bM s.ts a= .el K sz j 0) (hc:bM s.ts c=y) (hx:rz y=some cs) (hb:lk K s.bs=some (.tree e sz l Q o)) (hj:Q[j]? =some R) (gD:cs.length=sz) (hll:l.length=sz) (mD:i.size=sz) (bY:0<sz) (hdk:Ay l cs=true):
  bX E B (.store t a c) s (s.set K (.tree e sz l (Q.set j (mR l cs)) (Aw (Nat.mul j sz) 0 l cs))) (.cm []) (some (K,false)):=bX.wrM hb λ{F g J tm h new} r=>by
 let ⟨va,a1,a2⟩:=r.val ha (by simp)
 let ⟨vc,c1,c2⟩:=r.val hc (λe=>by subst e;cases hx)
 let ⟨ws,w1,w2⟩:=wq c2 hx;have hwl:ws.length=sz:=by rw[w2.length,gD]
 have hq:=r.bx K _ hb;generalize AM:J K=fp at hq ⊢;cases hq with
 |iA=>cases hj
 | @tree _ _ _ _ _ svs fs cn hh hu fG q nd ho=>
  cases a2;have hlen:=gE fG;let ⟨a0,v0,b0,f1,f0,f2,e1,e2,e3,e4,h1,h2⟩:=q.focus hu hj;have hjs:j*sz+sz<=Q.length*sz:=by
   have bD:j<Q.length:=(cg.1 hj).1;have:(j+1)*sz<=Q.length*sz:=gz _ (by omega)
   rw[eK,kO] at this;exact this
  have UT:j*sz+sz<=svs.length:=by omega
  refine ⟨.cm [],.cells e (dU svs (j*sz) ws),?_,.cm .nil,by simp,λgy tq hot=> ?_⟩
  ·show two tm a c (λa v=>unit (p7 E h.hp.get t v a))=_
   unfold two;rw[a1,c1];refine BR hi w1 hh ?_;rw[aY];exact ⟨(beq_iff _ _).2 (by rw[hwl,mD]),kn (by rw[hwl];exact UT)⟩
  ·have nd':=tD.1 nd;have gO:∀i∈fs,gy i=h.hp.get i:=λi hi=>hot i λe0=>nd'.1 (e0 ▸ hi)
   have q':=q.keep (gq.refl F) gO;let ⟨a1',v1',b1',g1,g0,g2,d1,d2,d3,d4,d5,d6⟩:=q'.focus hu hj;have xy:cs≠ []:=λe0=>by rw[e0] at gD;simp at gD;omega
   have hgar:∀i∈g0,gy i≠none:=d5.there;have key:=d6 ws (mR l cs) g0 (asH hgar hdk (by rw[gD,hll]) xy w2)
   have hsp:(dU svs (j*sz) ws).take (Q.length*sz)=a1'++(ws++b1'):=by
    have e5:svs=(a1'++(v1'++b1'))++svs.drop (Q.length*sz):=by rw[<-d1,wD]
    show (svs.take (j*sz)++ws++svs.drop (j*sz+ws.length)).take (Q.length*sz)=_;have hlb:(a1'++(v1'++b1')).length=Q.length*sz:=by rw[<-d1,dx];omega
    have iY:b1'.length=Q.length*sz-(j*sz+sz):=by
     rw[eQ,eQ,d2,d3] at hlb;omega
    have t1:svs.take (j*sz)=a1':=by
     have:svs.take (j*sz)=(svs.take (Q.length*sz)).take (j*sz):=by rw[nq,eg (by omega)]
     rw[this,d1,yl d2]
    have t2:svs.drop (j*sz+ws.length)=b1'++svs.drop (Q.length*sz):=by
     rw[hwl];have:svs.drop (j*sz+sz)=((a1'++v1')++(b1'++svs.drop (Q.length*sz))).drop (j*sz+sz):=by
      have e6:svs=(a1'++v1')++(b1'++svs.drop (Q.length*sz)):=by rw[kN,<-kN v1',<-kN];exact e5
      rw[<-e6]
     rw[this,Ss (by rw[eQ,d2,d3])]
    rw[t1,t2,kN,<-kN ws,<-kN];rw[yl (by rw[eQ,eQ,d2,hwl,iY];omega)]
   refine .tree cn tq (λr hr=> ?_) (by rw[hZ,Ef (by rw[hwl];exact UT)];exact fG) ?_ nd ?_
   ·rcases tE hr with hr|rfl
    ·exact hu r hr
    ·rw[NI (by rw[gD,hll]),gD]
   ·rw[hZ,hsp,d4];exact key
   ·have:=Ml (base:=j*sz) (l:=l) (pre:=svs.take (j*sz)) (tl:=svs.drop (j*sz+ws.length)) (k:=0) w2 (by rw[dx];omega)
    exact this
end
section
variable {F F':Hf} {g g':Gb} {B:Bs} {J:cS} {s s' s1:LS} {tm:Tf} {h:Hs} {hp:Hf} {E:Env} {nt:Nat} {all l:bS}
def HQ (ts:dd):Option Operand->Option (Option Int)
 |none=>some none
 |some x=>(match bM ts x with| .int _ n=>some (some n)|_=>none)
def Qq (r:Rel B F g J s tm h) {o:Option Operand} {b:Option Int} (hb:HQ s.ts o=some b) (hn:b.getD d=(n:Int)):∃c,js tm o=some c/\c.getD d=n/\c.isSome=b.isSome/\∀m,c=some m->b=some (m:Int):=by
 cases o with
 |none=>
  cases hb;have h0:(d:Int)=(n:Int):=hn;exact ⟨none,rfl,(show d=n by omega),rfl,λm hm=>by cases hm⟩
 |some x=>
  have hb:(match bM s.ts x with| .int _ n=>some (some n)|_=>none)=some b:=hb
  split at hb
  ·rename_i k m hv;cases hb;have hm:m=(n:Int):=hn;subst hm;let ⟨v,v1,v2⟩:=r.val hv (by simp)
   cases v2;refine ⟨some n,?_,rfl,rfl,λm hm=>by cases hm;rfl⟩
   show au (bU tm x) (λv=>au (lq v) λn=>some (some n))=_
   rw[v1];rfl
  ·cases hb
def Z4 {mx:Option Operand} {c2 c3:da} {ie:TI} (mw:E.ty.get t=some i) (hd:p9 i.desc=some e) (he:E.ty.get e=some ie) (hv:bU tm a=some v) (h1:js tm lo=some c1) (h2:js tm hi=some c2) (h3:js tm mx=some c3) (hm:Xu c2 c3=true):
  oO E (.slice t a lo hi mx) tm hp new=same (O4 v E e c1 c2 c3):=by
 show one tm a (λv=>uI (js tm lo) (js tm hi) (js tm mx) λl u m=>same (BX E t v l u m))=_
 unfold one;rw[hv,h1,h2,h3];show same (BX E t v c1 c2 c3)=_;unfold BX;rw[mw];show same (ay (Xu c2 c3) (aov i.desc E v c1 c2 c3) none)=_;rw[hm,vi hd];show same (au (E.ty.get e) λ_=>O4 v E e c1 c2 c3)=_
 rw[he];rfl
def avd {id n l u s':Nat} {c:Cp} {e':TypeId} (hF:gP (F id) off (rows.length*s')=some (e',svs)) (hu:∀r∈rows,r.length=s') (hl:off+rows.length*s'<=svs.length) (hq:bZ F .no ((svs.drop off).take (rows.length*s')) rows.flatten) (h1:l<=u) (h2:u<=rows.length) (hc:C7 e u c):VA F g (xE id off l u s' c) (.iW e s' ((rows.drop l).take (u-l)))/\(l=0->VA F g (xE id off l u s' c) (.slice e s' ((rows.drop l).take (u-l)))):=by
 have hlen:((rows.drop l).take (u-l)).length=u-l:=by rw[dx,gJ];omega
 have lQ:∀r∈(rows.drop l).take (u-l),r.length=s':=λr hr=>hu r (tF (oH hr))
 have hle:l*s'+(u-l)*s'<=rows.length*s':=by rw[<-eK];exact gz _ (by omega)
 have hq2:bZ F .no ((svs.drop (off+l*s')).take ((u-l)*s')) ((rows.drop l).take (u-l)).flatten:=by
  have:=(hq.drop (l*s')).take ((u-l)*s');rwa[sf,nq,zk,eg (by omega),<-aac hu] at this
 unfold xE;rw[bk,bk];split
 ·rename_i e0;obtain rfl:=(beq_iff _ _).1 e0;have k1:=xJ hF (cF _) (Nat.add_le_add_left (gz _ h2) _);have k2:off+u*s'<=svs.length:=by rw[nV] at hle;rw[OA] at hle;omega
  have k3:u=((rows.drop 0).take (u-0)).length:=by rw[hlen,OA]
  exact ⟨.iW k1 hc k3 lQ k2 (by simpa using hq2),λ_=>.slice k1 hc k3 lQ k2 (by simpa using hq2)⟩
 ·rename_i e0;have e0:l≠0:=λh=>e0 ((beq_iff _ _).2 h)
  refine ⟨?_,λh=>absurd h e0⟩
  split
  ·rename_i bD;have bD:l<u:=fU bD;refine .iW (xJ hF (show off<=off+l*s' from xa _ _) (show off+l*s'+(u-l)*s'<=off+rows.length*s' by omega)) ?_ (by rw[hlen];rfl) lQ (show off+l*s'+(u-l)*s'<=svs.length by omega) hq2
   cases c with
   |k m=>exact (show u-l<=m-l from Nat.sub_le_sub_right hc l)
   |u e'=>exact hc
  ·rename_i bD;have hul:u=l:=by
    have:¬l<u:=λhc=>bD (kn hc)
    omega
   subst hul;rw[oJ,EF];exact .Eg e s'
def Oe (y:AV) (lo:Option Operand) (e s:Nat) (R:aT):AV:=
 match lo with
 |some _=>.iW e s R
 |none=>(match y with
  | .iW _ _ _=>.iW e s R
  |_=>.slice e s R)
def are {e s:Nat}:VA F g .cR (Oe y lo e s []):=by
 unfold Oe;split
 ·exact .xg _ _
 ·split
  ·exact .xg _ _
  ·exact .p8 _ _
def avf {e s:Nat} (hv:VA F g .sle y) (hy:xC y=some q):VA F g .sle (Oe y lo e s []):=by
 cases hv with
 |Eg=>cases lo<;>exact .Eg _ _
 |_=>cases hy
def aBp {e s l:Nat} {R:aT} (h1:VA F g v (.iW e s R)) (h2:l=0->VA F g v (.slice e s R)) (hl:lo=none->l=0):VA F g v (Oe y lo e s R):=by
 unfold Oe;split
 ·exact h1
 ·split
  ·exact h1
  ·exact h2 (hl rfl)
def ok_slice {R:aT} {b2:Option Int} {l u:Nat} (hp:qU E t=some p) (ha:bM s.ts a=y) (hy:xC y=some (p.1,p.2.size,rows)) (h1:HQ s.ts lo=some b1) (h2:HQ s.ts hi=some b2) (iY:b1.getD 0=(l:Int)) (nO:b2.getD (rows.length:Nat)=(u:Int)) (DA:l<=u) (tW:u<=rows.length) (hR:(rows.drop l).take (u-l)=R):bX E B (.slice t a lo hi none) s s (Oe y lo p.1 p.2.size R) none:=bX.pure λ{F g J tm h new} r=>by
 subst hR;let ⟨i,mw,he,hie⟩:=rY hp;let ⟨v,v1,v2⟩:=r.val ha (λe=>by subst e;cases hy)
 let ⟨c1,d1,d2,d3,d4⟩:=Qq (d:=0) r h1 iY;let ⟨c2,f1,f2,f3,f4⟩:=Qq (d:=rows.length) r h2 nO;have z1:l=0->mc c1=true:=λh=>by
  cases c1 with
  |none=>rfl
  |some x=>exact (beq_iff _ _).2 (by have:x=l:=d2;omega)
 have z2:u=0->mc c2=true:=λh=>by
  cases c2 with
  |none=>rfl
  |some x=>exact (beq_iff _ _).2 (by have:x=u:=f2;omega)
 have go:=λv (hv:bU tm a=some v)=>Z4 (new:=new) (hp:=h.hp.get) (mx:=none) (c3:=none) mw he hie hv d1 f1 rfl rfl
 rcases HI v2 hy with ⟨rfl,rfl|rfl⟩|⟨id,off,c,e',svs,rfl,Iz,hF,hu,hl,hq⟩
 ·have Fw:u=0:=IJ.1 tW;have uL:l=0:=by omega
  refine ⟨.cR,?_,by simpa using are⟩
  rw[go _ v1];show same (ay (mc c1&&(mc c2&&true)) (some SV.cR) none)=_;rw[z1 uL,z2 Fw];rfl
 ·have Fw:u=0:=IJ.1 tW;have uL:l=0:=by omega
  refine ⟨.sle,?_,by simpa using avf v2 hy⟩
  rw[go _ v1];show same (ay (mc c1&&(mc c2&&true)) (some SV.sle) none)=_;rw[z1 uL,z2 Fw];rfl
 ·have hcu:C7 p.1 u c:=by
   cases c with
   |k m=>exact iL tW Iz
   |u e'=>exact Iz
  have hcut:=avd (g:=g) (n:=rows.length) hF hu hl hq DA tW hcu;refine ⟨xE id off l u p.2.size c,?_,aBp hcut.1 hcut.2 λh0=> ?_⟩
  rotate_left
  ·subst h0;cases h1;have:(0:Int)=(l:Int):=iY;omega
  rw[go _ v1];show same (uA E p.1 id off rows.length c c1 c2 none)=_;unfold uA;rw[iV hie,d2,f2];have e1:(IT c p.1&&(Nat.ble l u&&(Nat.ble u (reach c rows.length)&&Xt none u (reach c rows.length))))=true:=by
   have t1:IT c p.1=true:=by
    cases c with
    |k m=>rfl
    |u e'=>exact (beq_iff _ _).2 Iz
   have t2:Nat.ble u (reach c rows.length)=true:=kn (by
    cases c with
    |k m=>exact iL tW Iz
    |u e'=>exact tW)
   rw[t1,(cN _ _).2 DA,t2];rfl
  rw[e1];rfl
def aso (c:Cp) (a b:Nat):uP (uP c a) b=uP c (a+b):=by
 cases c with
 |k m=>exact bA Cp.k (Nat.sub_sub m a b)
 |u e=>rfl
def agf {lo0:Nat} {b2:Option Int} {l u:Nat} (hp:qU E t=some p) (ha:bM s.ts a= .ms K p.2.size lo0 n) (hb:lk K s.bs=some (.rows z p.1 p.2.size Q)) (h1:HQ s.ts lo=some b1) (h2:HQ s.ts hi=some b2) (iY:b1.getD 0=(l:Int)) (nO:b2.getD (n:Nat)=(u:Int)) (DA:l<=u) (tW:u<=n) (hn:lo0+n<=Q.length):bX E B (.slice t a lo hi none) s s (.ms K p.2.size (lo0+l) (u-l)) none:=bX.pure λ{F g J tm h new} r=>by
 let ⟨i,mw,he,hie⟩:=rY hp;let ⟨v,v1,v2⟩:=r.val ha (by simp)
 let ⟨c1,d1,d2,d3,d4⟩:=Qq (d:=0) r h1 iY;let ⟨c2,f1,f2,f3,f4⟩:=Qq (d:=n) r h2 nO;have z1:l=0->mc c1=true:=λh=>by
  cases c1 with
  |none=>rfl
  |some x=>exact (beq_iff _ _).2 (by have:x=l:=d2;omega)
 have z2:u=0->mc c2=true:=λh=>by
  cases c2 with
  |none=>rfl
  |some x=>exact (beq_iff _ _).2 (by have:x=u:=f2;omega)
 have go:=λv (hv:bU tm a=some v)=>Z4 (new:=new) (hp:=h.hp.get) (mx:=none) (c3:=none) mw he hie hv d1 f1 rfl rfl
 cases v2 with
 |qI _ fT=>
  have Fw:u=0:=IJ.1 tW;have uL:l=0:=by omega
  subst Fw;subst uL;refine ⟨.cR,?_,.qI _ fT⟩;rw[go _ v1];show same (ay (mc c1&&(mc c2&&true)) (some SV.cR) none)=_;rw[z1 rfl,z2 rfl];rfl
 |rE _ _ h0=>
  have Fw:u=0:=IJ.1 tW;have uL:l=0:=by omega
  subst Fw;subst uL;refine ⟨.sle,?_,.rE _ _ h0⟩;rw[go _ v1];show same (ay (mc c1&&(mc c2&&true)) (some SV.sle) none)=_;rw[z1 rfl,z2 rfl];rfl
 |ms _ _ _ fT=>
  have q:=r.bx K _ hb;generalize J K=fp at q;cases q with
  |dD iY=>rw[fT] at iY;cases iY
  | @rows _ _ _ _ svs cn hh hz hu hc q=>
  have fG:C7 p.1 n (uP (g.κ K) lo0):=by
   cases hκ:g.κ K with
   |k m=>rw[hκ] at hc;have:=hc.1;exact (show n<=m-lo0 by omega)
   |u e'=>rw[hκ] at hc;exact hc.1
  refine ⟨xE (g.Z K) (lo0*p.2.size) l u p.2.size (uP (g.κ K) lo0),?_,?_⟩
  ·rw[go _ v1];show same (uA E p.1 (g.Z K) (lo0*p.2.size) n (uP (g.κ K) lo0) c1 c2 none)=_;unfold uA;rw[iV hie,d2,f2];generalize uP (g.κ K) lo0=c at fG;have e1:(IT c p.1&&(Nat.ble l u&&(Nat.ble u (reach c n)&&Xt none u (reach c n))))=true:=by
    have t1:IT c p.1=true:=by
     cases c with
     |k m=>rfl
     |u e'=>exact (beq_iff _ _).2 fG
    have t2:Nat.ble u (reach c n)=true:=kn (by
     cases c with
     |k m=>exact iL tW fG
     |u e'=>exact tW)
    rw[t1,(cN _ _).2 DA,t2];rfl
   rw[e1];rfl
  ·unfold xE;rw[bk,bk];split
   ·rename_i e0;obtain rfl:=(beq_iff _ _).1 e0;rw[nu,OA];exact .ms _ lo0 u fT
   ·rename_i e0;have e0:l≠0:=λh=>e0 ((beq_iff _ _).2 h)
    split
    ·rw[aso];rw[show Nat.add (lo0*p.2.size) (Nat.mul l p.2.size)=(lo0+l)*p.2.size from (eK _ _ _).symm];exact .ms _ (lo0+l) (u-l) fT
    ·rename_i bD;have hul:u=l:=by
      have:¬l<u:=λhc=>bD (kn hc)
      omega
     subst hul;rw[oJ];exact .rE _ _ (by omega)
def asO {P:Program} {n:Int} (hn:n≠0):nK P (binOp .rem t (.int k m) (.int k n))=some (.int k (m.tmod n)):=by
 have:binOp .rem t (.int k m) (.int k n)=Sem.pure (.int k (m.tmod n)):=by
  simp[binOp,Op.intDiv,hn,pure]
 rw[this];rfl
def asQ {P:Program} {n:Int} (hn:n≠0):nK P (binOp .quo t (.int k m) (.int k n))=some (.int k (k.wrap (m.tdiv n))):=by
 have:binOp .quo t (.int k m) (.int k n)=Sem.pure (.int k (k.wrap (m.tdiv n))):=by
  simp[binOp,Op.intDiv,hn,pure]
 rw[this];rfl
def divL (op:BinOp) (k:IntKind) (m n:Int):Option AV:=
 match op with
 | .rem=>some (.int k (m.tmod n))
 | .quo=>some (.int k (k.wrap (m.tdiv n)))
 |_=>none
def aDD {op:BinOp} {k':IntKind} {n:Int} (ha:bM s.ts a= .int k m) (hb:bM s.ts b= .int k' n) (hk:gu k k'=true) (hn:n≠0) (hx:divL op k m n=some x):bX E B (.binOp op t a b t2) s s x none:=bX.bi (f:=λ_ v u=>same (Ey E op t a b v u)) (λ_ _ _=>rfl) ha (by simp) hb (by simp) λ{F g J tm h v w} r hv hw=>by
 have ek:k=k':=by cases k<;>cases k'<;>first|rfl|(cases hk;done)
 subst ek;cases hv;cases hw;cases op<;>first|(cases hx;done)|skip
 ·cases hx;refine ⟨.int k (.lit (k.wrap (m.tdiv n))),?_,.int _ _⟩;show same (GZ (nK E.P (binOp .quo t (.int k m) (.int k n))))=_;rw[asQ hn];rfl
 ·cases hx;refine ⟨.int k (.lit (m.tmod n)),?_,.int _ _⟩;show same (GZ (nK E.P (binOp .rem t (.int k m) (.int k n))))=_;rw[asO hn];rfl
def avk {P:Program} {a b:ByteArray} (hn:a.size+b.size<=1000000):nK P (binOp .add t (.string a) (.string b))=some (.string (a++b)):=by
 have h1:¬(((a.size+b.size:Nat):Int)>IntKind.i64.max):=by
  have:IntKind.i64.max=9223372036854775807:=by decide
  omega
 have:binOp .add t (.string a) (.string b)=Sem.pure (.string (a++b)):=by
  show Op.stringOp .add a b=_;unfold Op.stringOp;simp only[];rw[aA h1];rfl
 rw[this];rfl
def aDE {x y:ByteArray} (ha:bM s.ts a= .str x) (hb:bM s.ts b= .str y) (hn:x.size+y.size<=1000000):bX E B (.binOp .add t a b t2) s s (.str (x++y)) none:=bX.bi (f:=λ_ v u=>same (Ey E .add t a b v u)) (λ_ _ _=>rfl) ha (by simp) hb (by simp) λ{F g J tm h v w} r hv hw=>by
 cases hv;cases hw;refine ⟨.str (x++y),?_,.str _⟩;show same (GZ (nK E.P (binOp .add t (.string x) (.string y))))=_;rw[avk hn];rfl
def agn {b:ByteArray} {n:Int} {c:UInt8} (hi:E.ty.get t=some i) (hd:zR i.desc=true) (ha:bM s.ts a= .str b) (tY:bM s.ts ix= .int k n) (hc:ub b.data.toList n=some c):bX E B (.index t a ix) s s (.int .u8 (c.toNat:Int)) none:=bX.bi (f:=λ_ v u=>au (lq u) λk=>sN E t k v) (λ_ _ _=>rfl) ha (by simp) tY (by simp) λ{F g J tm h v w} r hv hw=>by
 let ⟨j,hj,yg⟩:=Nr hc;subst hj;cases hv;cases hw;refine ⟨_,?_,.int _ _⟩;show sN E t j (.str b)=_;unfold sN;rw[iV hi];generalize i.desc=d at hd;cases d<;>first|(cases hd;done)|skip
 show au (b.data.toList[j]?) (λb=>some (SV.int .u8 (.lit (.ofNat b.toNat)),([]:cQ)))=_
 rw[iV yg];rfl
end
section
variable {F F':Hf} {g g':Gb} {B:Bs} {J:cS} {s s' s1:LS} {tm:Tf} {h:Hs} {hp:Hf} {E:Env} {nt:Nat} {all l:bS}
def aAO {pos:Nat} {b:ByteArray} (ha:bM s.ts it= .it K) (hb:lk K s.bs=some (.iter b pos)) (bD:pos<b.size):bX E B (.next it true) s (s.set K (.iter b (pos+(Utf8.decode b pos).2))) (.cm [.bool true,.int .i64 (pos:Int),.int .i32 (Utf8.decode b pos).1]) (some (K,false)):=bX.wr hb λ{F g J tm h new} r=>by
 let ⟨v,v1,v2⟩:=r.val ha (by simp)
 cases v2;have q:=r.bx K _ hb;generalize J K=fp at q ⊢;cases q with
 |iter hh=>
 refine ⟨.cm [.bool true,uS pos,.int .i32 (.lit (Utf8.decode b pos).1)],.pL b (pos+(Utf8.decode b pos).2),?_,.cm (.cons (.bool _) (.cons (.int _ _) (.cons (.int _ _) .nil))),rfl,λgy tq=>.iter tq⟩
 show one tm it (xk h.hp.get true)=_;unfold one;rw[v1];show au (wz (.ptr (g.Z K) 0)) (λid=>au (Ds (h.hp.get id)) λp=>some (pQ id p))=_
 show au (Ds (h.hp.get (g.Z K))) (λp=>some (pQ (g.Z K) p))=_
 rw[hh];show some (pQ (g.Z K) (b,pos))=_;unfold pQ;rw[show Nat.ble (Nat.succ pos) b.size=true from kn bD];rfl
def akF {pos:Nat} {b:ByteArray} (ha:bM s.ts it= .it K) (hb:lk K s.bs=some (.iter b pos)) (bD:¬pos<b.size):bX E B (.next it true) s s (.cm [.bool false]) none:=bX.pure λ{F g J tm h new} r=>by
 let ⟨v,v1,v2⟩:=r.val ha (by simp)
 cases v2;have q:=r.bx K _ hb;generalize J K=fp at q;cases q with
 |iter hh=>
 refine ⟨.cm [.bool false],?_,.cm (.cons (.bool _) .nil)⟩;show one tm it (xk h.hp.get true)=_;unfold one;rw[v1];show au (Ds (h.hp.get (g.Z K))) (λp=>some (pQ (g.Z K) p))=_
 rw[hh];show some (pQ (g.Z K) (b,pos))=_;unfold pQ;have:Nat.ble (Nat.succ pos) b.size=false:=by
  cases hx:Nat.ble (Nat.succ pos) b.size with
  |false=>rfl
  |true=>exact absurd (fU hx) bD
 rw[this]
def PG:AV->AV->Option Bool
 | .str a,.str b=>some (decide (a=b))
 | .bool a,.bool b=>some (a==b)
 | .int k a,.int k' b=>ay (gu k k') (some (decide (a=b))) none
 |_,_=>none
def abk:AV->UD->Bool
 | .str _,d=>zR d
 | .bool _,d=>Mj d
 | .int k _,d=>alv k d
 |_,_=>false
def pt (k:AV):List (AV×AV)->Option (Option (Nat×AV))
 | []=>some none
 |e::es=>
  match PG k e.1 with
  |some true=>some (some (0,e.2))
  |some false=>(match pt k es with|some (some p)=>some (some (p.1+1,p.2))|r=>r)
  |none=>none
def akX {a b:IntKind} (h:gu a b=true):a=b:=by cases a<;>cases b<;>first|rfl|(cases h;done)
def atp {k:AV} {b:Bool} (hu:VA F g u k) (hv:VA F g' v x) (hb:PG k x=some b):sameKey u v=some b:=by
 unfold PG at hb;split at hb
 ·cases hb;cases hu;cases hv;show some (Ee _ _)=_;rw[wI]
 ·cases hb;cases hu;cases hv;rfl
 ·let ⟨hk,hb⟩:=aJ hb;cases hb;cases hu;cases hv;show ay (gu _ _) (some (Ha _ _)) none=_;rw[hk,yM]
 ·cases hb
def air {k:AV} {d:UD} (hu:VA F g u k) (hd:abk k d=true):Fm u d=true:=by
 cases k<;>first|(cases hd;done)|skip
 ·cases hu;exact hd
 ·cases hu;exact (show (true&&alv _ d)=true by rw[iP];exact hd)
 ·cases hu;exact hd
def U1 {k:AV} {u:SV} (hu:VA F g u k):∀{es:List (AV×AV)} {ms:jh} (j:Nat),bZ F .no (ms.map (·.1)) (es.map (·.1))->bZ F .no (ms.map (·.2.1)) (es.map (·.2))->
  (pt k es=some none->px u ms j=some none)/\∀i x,pt k es=some (some (i,x))->∃v c,px u ms j=some (some (j+i,v,c))/\VA F .no v x/\es[i]? =some (k,x)/\i<ms.length
 | [],[],j,_,_=>⟨λ_=>rfl,λi x h=>by cases h⟩
 | [],m::ms,j,h,_=>by cases h
 |e::es,[],j,h,_=>by cases h
 |e::es,m::ms,j,h1,h2=>by
  cases h1 with|cons a1 t1=>
  cases h2 with|cons a2 t2=>
  let ⟨i1,i2⟩:=U1 hu (es:=es) (ms:=ms) (Nat.add j 1) t1 t2;have step:∀b,PG k e.1=some b->sameKey u m.1=some b:=λb hb=>atp hu a1 hb
  constructor
  ·intro hf;unfold pt at hf;unfold px;split at hf
   ·cases hf
   ·rename_i hk;rw[step _ hk];show px u ms (Nat.add j 1)=_;split at hf
    ·cases hf
    ·exact i1 hf
   ·cases hf
  ·intro i x hf;unfold pt at hf;unfold px;split at hf
   ·rename_i hk;cases hf;rw[step _ hk];refine ⟨m.2.1,m.2.2,rfl,a2,?_,by simp⟩
    have:k=e.1:=by
     unfold PG at hk;split at hk
     ·simp at hk;subst hk;symm;assumption
     ·simp at hk;subst hk;symm;assumption
     ·let ⟨xz,hk⟩:=aJ hk;have hab:=s8 (ux hk);have Cm:=akX xz;subst hab;subst Cm;symm;assumption
     ·cases hk
    simp[this]
   ·rename_i hk;rw[step _ hk];show ∃v c,px u ms (Nat.add j 1)=_/\_;split at hf
    ·rename_i p hp;cases hf;let ⟨v,c,b1,b2,b3,b4⟩:=i2 p.1 p.2 hp;refine ⟨v,c,?_,b2,by simpa using b3,by simpa using b4⟩
     rw[b1,show Nat.add j 1+p.1=j+(p.1+1) from by show j+1+p.1=_;omega]
    ·rename_i bY;exact absurd hf (bY _)
   ·cases hf
def oq (E:Env) (t:TypeId):Option (TI×TI):=au (E.ty.get t) λi=>au (Ce i.desc) λq=>bE (E.ty.get q.1) (E.ty.get q.2) λa b=>some (a,b)
def VZ {p:TI×TI} (h:oq E t=some p):∃i q,E.ty.get t=some i/\Ce i.desc=some q/\E.ty.get q.1=some p.1/\E.ty.get q.2=some p.2:=by
 let ⟨i,hi,h⟩:=aj h;let ⟨q,hq,h⟩:=aj h;let ⟨a,b,h1,h2,h⟩:=bc h;cases h;exact ⟨i,q,hi,hq,h1,h2⟩
def okM (ok:Bool) (v:AV) (b:Bool):AV:=ay ok (.cm [v,.bool b]) v
def apo {ok b:Bool} (h:VA F g v x):VA F g (okV ok v b) (okM ok x b):=by
 cases ok
 ·exact h
 ·exact .cm (.cons h (.cons (.bool b) .nil))
def Ka (ok:Bool) (z:Option AV):Option (Nat×AV)->Option AV
 |some r=>some (okM ok r.2 true)
 |none=>au z λz=>some (okM ok z false)
def apk {ok:Bool} {p:TI×TI} {k:AV} {f:Option (Nat×AV)} (hp:oq E t=some p) (ha:bM s.ts a= .mp K) (hc:bM s.ts c=k) (hk:abk k p.1.desc=true) (hb:lk K s.bs=some (.map es)) (hf:pt k es=some f) (hx:Ka ok (mf p.2 (km p.2.zero) 0) f=some x) (rG:(dE x).isEmpty=true):bX E B (.lookup t a c ok) s s x none:=bX.bi (f:=λhp a b=>same (sO E hp t a b ok)) (λ_ _ _=>rfl) ha (by simp) hc (λe=>by subst e;cases hk) λ{F g J tm h v w} r hv hw=>by
 let ⟨i,q,hi,hq,h1,h2⟩:=VZ hp;cases hv;have q0:=r.bx K _ hb;generalize J K=fp at q0;cases q0 with
 | @map _ ms cl hh oC rp=>
 let ⟨m1,m2⟩:=U1 hw 0 oC rp;have key:∃r,px w ms 0=some r/\∃u,J9 ok (ia p.2 p.2.zero 0) r=some u/\VA F g u x:=by
  cases f with
  |none=>
   let ⟨z,hz,hx⟩:=aj hx;cases hx;let ⟨u,u1,u2⟩:=rj (rJ (F:=F) (g:=.no) p.2.zero) hz;exact ⟨none,m1 hf,okV ok u false,by show au (ia p.2 p.2.zero 0) (λz=>some (okV ok z false))=_;rw[u1];rfl,(apo u2).jI rG⟩
  |some r=>
   cases hx;let ⟨v,c,b1,b2,_,_⟩:=m2 r.1 r.2 hf;exact ⟨_,b1,okV ok v true,rfl,(apo b2).jI rG⟩
 let ⟨r',k1,u,u1,u2⟩:=key;refine ⟨u,?_,u2⟩;show same (sO E h.hp.get t (.mp (g.Z K)) w ok)=_;unfold sO;rw[iV hi,iV hq,yW h1 h2,air hw hk];show same (au (au (kf (h.hp.get (g.Z K))) λp=>some p.1) λes=>au (px w es 0) λr=>J9 ok (ia p.2 p.2.zero 0) r)=_
 rw[hh];show same (au (px w ms 0) λr=>J9 ok (ia p.2 p.2.zero 0) r)=_
 rw[k1];show same (J9 ok (ia p.2 p.2.zero 0) r')=_;rw[u1];rfl
def Sz (es:List (AV×AV)) (k v:AV):Option (Nat×AV)->List (AV×AV)
 |some r=>es.set r.1 (k,v)
 |none=>es++ [(k,v)]
def bZ.set:∀{vs xs} {i:Nat} {v:SV} {x:AV},bZ F g vs xs->VA F g v x->bZ F g (vs.set i v) (xs.set i x)
 |_,_,_,_,_,.nil,_=>.nil
 |_,_,0,_,_,.cons _ t,k=>.cons k t
 |_,_,i+1,_,_,.cons h t,k=>.cons h (t.set k)
def api {op:Op} {d:Operand} {p:TI×TI} {k:AV} {f:Option (Nat×AV)} (dN:∀tm hp new,oO E op tm hp new=two tm a c λa b=>one tm d λc=>unit (vV E hp t a b c)) (hp:oq E t=some p) (ha:bM s.ts a= .mp K) (hc:bM s.ts c=k) (hk:abk k p.1.desc=true) (hd:bM s.ts d=x) (hx:x≠ .undef) (rG:(dE x).isEmpty=true) (hb:lk K s.bs=some (.map es)) (hf:pt k es=some f):
  bX E B op s (s.set K (.map (Sz es k x f))) (.cm []) (some (K,false)):=bX.wr hb λ{F g J tm h new} r=>by
 let ⟨i,q,hi,hq,h1,h2⟩:=VZ hp;let ⟨v,v1,v2⟩:=r.val ha (by simp)
 let ⟨w,w1,w2⟩:=r.val hc (λe=>by subst e;cases hk)
 let ⟨u,u1,u2⟩:=r.val hd hx;cases v2;have xz:(dE k).isEmpty=true:=by cases k<;>first|(cases hk;done)|rfl
 have q0:=r.bx K _ hb;generalize J K=fp at q0 ⊢;cases q0 with
 | @map _ ms cl hh oC rp=>
 let ⟨m1,m2⟩:=U1 w2 0 oC rp;have key:∃r,px w ms 0=some r/\∃Fk cl',SA ms cl w u r= .map Fk cl'/\bZ F .no (Fk.map (·.1)) ((Sz es k x f).map (·.1))/\bZ F .no (Fk.map (·.2.1)) ((Sz es k x f).map (·.2)):=by
  cases f with
  |none=>
   refine ⟨none,m1 hf,ms++ [(w,u,cl)],Nat.add cl 1,rfl,?_,?_⟩
   ·show bZ F .no ((ms++ [(w,u,cl)]).map (·.1)) ((es++ [(k,x)]).map (·.1))
    rw[pT,pT];exact oC.append (.cons (w2.jI xz) .nil)
   ·show bZ F .no ((ms++ [(w,u,cl)]).map (·.2.1)) ((es++ [(k,x)]).map (·.2))
    rw[pT,pT];exact rp.append (.cons (u2.jI rG) .nil)
  |some r=>
   let ⟨v,c,b1,b2,b3,b4⟩:=m2 r.1 r.2 hf;refine ⟨_,b1,ms.set (0+r.1) (w,u,c),cl,rfl,?_,?_⟩
   ·show bZ F .no ((ms.set (0+r.1) (w,u,c)).map (·.1)) ((es.set r.1 (k,x)).map (·.1))
    rw[w6,w6,cE];exact oC.set (w2.jI xz)
   ·show bZ F .no ((ms.set (0+r.1) (w,u,c)).map (·.2.1)) ((es.set r.1 (k,x)).map (·.2))
    rw[w6,w6,cE];exact rp.set (u2.jI rG)
 let ⟨r',k1,Fk,cl',k2,k3,k4⟩:=key;refine ⟨.cm [],.map Fk cl',?_,.cm .nil,rfl,λgy tq=>.map tq k3 k4⟩
 rw[dN];unfold two one;rw[v1,w1];show au (bU tm d) (λc=>unit (vV E h.hp.get t (.mp (g.Z K)) w c))=_
 rw[u1];show unit (vV E h.hp.get t (.mp (g.Z K)) w u)=_;have e1:vV E h.hp.get t (.mp (g.Z K)) w u=some [(g.Z K,some (.map Fk cl'))]:=by
  show au (E.ty.get t) (λi=>au (Ce i.desc) λq=>bE (E.ty.get q.1) (kf (h.hp.get (g.Z K))) λik p=>ay (Fm w ik.desc) (au (px w p.1 0) λr=>some [(g.Z K,some (SA p.1 p.2 w u r))]) none)=_
  rw[iV hi,iV hq,hh];show bE (E.ty.get q.1) (some (ms,cl)) (λik p=>ay (Fm w ik.desc) (au (px w p.1 0) λr=>some [(g.Z K,some (SA p.1 p.2 w u r))]) none)=_
  rw[yW h1 rfl,air w2 hk];show au (px w ms 0) (λr=>some [(g.Z K,some (SA ms cl w u r))])=_
  rw[k1];show some [(g.Z K,some (SA ms cl w u r'))]=_;rw[k2]
 rw[e1];rfl
end
end Go.bQ
end
