/- Part. -/
import Derived.Test.YtbnkhmoelnfjoaaGreatP2
set_option linter.all false
noncomputable section
namespace Go.bX
variable {x y:AV} {xs ys cs:bc} {t e:TypeId} {i:TI} {k n K f p off j new n' u e2 xb:Nat} {d c1:bP} {v w:SV} {mx z:Bool} {svs vs ws:aY} {Q R Q':bA} {l l2:dX} {J γ:Type} {b:Bx} {lo:Option Operand} {o:fA} {fs ts:br} {L L1 L0:Ow} {A:bA->Prop} {q:(Operand×Operand)×TypeId×TypeId} {oR:Nat->fA} {fQ:bA->bA->bA} {fn:Nat->Nat} {sh:Sh} {P:Program} {it:Operand} {CO:List (AV×AV)} {bs:cL}
section
variable {F F':Hf} {g g':Gb} {Y:Nat->Ow} {c:Nat->bP} {s s':LS} {T:Tf} {H:Hf} {E:Env} {pn:Nat->Bool}
def Pv (ts:fA):List (Nat×Operand)->Option (List (Nat×bc))
 | []=>some []
 |p::rest=>bT (BR (dU ts p.2)) (Pv ts rest) λcs l=>some ((p.1,cs)::l)
def LR (place:Nat->Option (Nat×Nat)) (cs:bc):List (Nat×bc)->Option bc
 | []=>some cs
 |p::rest=>az (place p.1) λq=>aQ (Nat.beq p.2.length q.2&&Nat.ble (Nat.add q.1 q.2) cs.length) (LR place (gx cs q.1 p.2) rest) none
inductive PVs (F:Hf) (g:Gb):List (Nat×aY)->List (Nat×bc)->Prop
 |nil:PVs F g [] []
 |cons {j vs xs l m:_} (h:dA F g vs xs) (t:PVs F g l m):PVs F g ((j,vs)::l) ((j,xs)::m)
def CW (h:BR x=some xs):x≠ .undef:=λe=>by rw[e] at h;cases h
def NA (r:Rel F g Y c s T H):∀{l:List (Nat×Operand)} {m:List (Nat×bc)},Pv s.ts l=some m->∃k,ku T l=some k/\PVs F g k m
 | [],_,hm=>by cases hm;exact ⟨[],rfl,.nil⟩
 |p::rest,m,hm=>by
  obtain ⟨cs,m',h1,h2,h3⟩:=bp hm;cases h3;obtain ⟨v,v1,v2⟩:=r.val (x:=p.2) rfl (CW h1);obtain ⟨ws,w1,w2⟩:=CV h1 v2;obtain ⟨k,k1,k2⟩:=NA r h2;refine ⟨(p.1,ws)::k,?_,.cons w2 k2⟩;show az (cE T p.2) (λv=>bT v.cells (ku T rest) λcs l=>some ((p.1,cs)::l))=_
  rw[v1];show bT v.cells (ku T rest) (λcs l=>some ((p.1,cs)::l))=_
  rw[w1,k1];rfl
def LQ {place:Nat->Option (Nat×Nat)}:∀{k:List (Nat×aY)} {m:List (Nat×bc)} {vs:aY} {xs ys:bc},PVs F g k m->dA F g vs xs->LR place xs m=some ys->∃ws,mZ place vs k=some ws/\dA F g ws ys
 |_,_,vs,_,_,.nil,hv,hy=>by cases hy;exact ⟨vs,rfl,hv⟩
 |_,_,vs,xs,ys,.cons (j:=j) (vs:=pv) (l:=kt) h t,hv,hy=>by
  obtain ⟨q,h1,hy⟩:=aq hy;obtain ⟨h2,hy⟩:=aV hy;obtain ⟨ws,w1,w2⟩:=LQ t (hv.eK h q.1) hy;refine ⟨ws,?_,w2⟩;show az (place j) (λq=>aQ (Nat.beq pv.length q.2&&Nat.ble (Nat.add q.1 q.2) vs.length) (mZ place (eK vs q.1 pv) kt) none)=_
  rw[h1];show aQ (Nat.beq pv.length q.2&&Nat.ble (Nat.add q.1 q.2) vs.length) (mZ place (eK vs q.1 pv) kt) none=_;rw[h.length,hv.length,h2];exact w1
def acC (E:Env) (z:bc) (ia:List (Nat×bc)):UD->Option bc
 | .array _ e=>az (E.ty.get e) λie=>LR (rX ie.size) z ia
 | .struct fs=>LR (Ps E fs) z ia
 |_=>none
def avK {k:List (Nat×aY)} {m:List (Nat×bc)} (hi:E.ty.get t=some i) (hk:PVs F g k m) (hy:acC E (wy i.zero) m i.desc=some ys):∃u,same (E1 E t k)=some (u,[])/\VA F g u (.agg ys):=by
 have key:∃ws,Qr i.desc E i.zero k=some (.agg ws)/\dA F g ws ys:=by
  generalize i.desc=d at hy;unfold acC at hy;split at hy
  ·obtain ⟨ie,hie,hy⟩:=aq hy;obtain ⟨ws,w1,w2⟩:=LQ hk sE hy;refine ⟨ws,?_,w2⟩;show az (E.ty.get _) (λie=>JU (mZ (rX ie.size) i.zero k))=_
   rw[hie];show JU (mZ (rX ie.size) i.zero k)=_;rw[w1];rfl
  ·obtain ⟨ws,w1,w2⟩:=LQ hk sE hy;refine ⟨ws,?_,w2⟩;show JU (mZ (Ps E _) i.zero k)=_;rw[w1];rfl
  ·cases hy
 obtain ⟨ws,w1,w2⟩:=key;refine ⟨.agg ws,?_,.agg w2⟩;show same (az (E.ty.get t) λi=>Qr i.desc E i.zero k)=_
 rw[hi];show same (Qr i.desc E i.zero k)=_;rw[w1];rfl
def arrE:UD->Option (Nat×TypeId)
 | .array n e=>some (n,e)
 |_=>none
def amj (E:Env) (t:TypeId) (k:Nat):Option TI:=az (E.ty.get t) λi=>az (arrE i.desc) λq=>az (E.ty.get q.2) λie=>aQ (Nat.ble (Nat.succ k) q.1) (some ie) none
def Qx {ie:TI} (h:amj E t k=some ie):∃i n e,E.ty.get t=some i/\i.desc= .array n e/\E.ty.get e=some ie/\Nat.ble (Nat.succ k) n=true:=by
 obtain ⟨i,hi,h⟩:=aq h;obtain ⟨q,hq,h⟩:=aq h;obtain ⟨ie',hie,h⟩:=aq h;obtain ⟨hk,h⟩:=aV h;cases h;cases hd:i.desc<;>rw[hd] at hq<;>cases hq
 exact ⟨i,_,_,hi,hd,hie,hk⟩
def atX (bs:cL):UD->AV->Option Int
 | .slice _,.sl _ _ _ n _=>some (n:Int)
 | .slice _,.lit .dE=>some 0
 | .slice _,.ms _ _ _ n=>some (n:Int)
 | .string,.lit (.str b)=>some (b.size:Int)
 | .map _ _,.mp K=>(match lk K bs with|some (.map es)=>some (es.length:Int)|_=>none)
 | .map _ _,.lit .mu=>some 0
 |_,_=>none
def aFj {d:UD} {n:Int} (r:Rel F g Y c s T H) (hn:atX s.bs d y=some n) (hv:VA F g v y):xS d v H=some (.int .i64 (.lit n)):=by
 have key:∀{n':Nat},Vi v=some n'->n=(n':Int)->az (Vi v) (λn=>some (uy n))=some (SV.int .i64 (.lit n)):=λ{n'} h1 h2=>by
  rw[h1,h2];rfl
 unfold atX at hn;split at hn
 ·cases hn;rename_i n0 Q;exact key (n':=n0) (by cases hv<;>rfl) rfl
 ·cases hn;cases hv;rfl
 ·cases hn;rename_i n0;exact key (n':=n0) (by cases hv<;>rfl) rfl
 ·cases hn;cases hv;rfl
 ·split at hn
  ·rename_i K _ es hb;cases hn;cases hv;obtain ⟨q,_,q3⟩:=r.bx K _ hb;generalize Y K=L at q q3;cases q with
   | @map _ ms cl hk hv=>
   show az (j2 (H (g K).n)) (λp=>some (uy p.1.length))=_
   rw[(q3 ((g K).n,.map ms cl) (by simp)).1]
   show some (uy ms.length)=_;rw[show ms.length=es.length by simpa using hk.length];rfl
  ·cases hn
 ·cases hn;cases hv;rfl
 ·cases hn
def akI (mx:Bool):AV->AV->Option AV
 | .lit (.int k (.lit m)),.lit (.int k' (.lit n))=>aQ (gI k k') (some (.int k (aQ mx (if m<n then n else m) (if n<m then n else m)))) none
 |_,_=>none
def apP {z:AV} (hz:akI mx x y=some z) (hv:VA F g v x) (hw:VA F g w y):∃u,same (IZ E mx v w)=some (u,[])/\VA F g u z:=by
 unfold akI at hz;split at hz
 ·obtain ⟨hk,hz⟩:=aV hz;cases hz;cases hv;cases hw;rename_i k m k' n;refine ⟨_,?_,.lit _⟩;cases mx
  ·show some (SV.int k (aQ (Aj n m) (.lit n) (.lit m)),[])=some (SV.int k (.lit (if n<m then n else m)),[])
   rw[vw,bH];by_cases hc:n<m<;>simp[hc]
  ·show some (SV.int k (aQ (Aj m n) (.lit n) (.lit m)),[])=some (SV.int k (.lit (if m<n then n else m)),[])
   rw[vw,bH];by_cases hc:m<n<;>simp[hc]
 ·cases hz
def bltL (E:Env) (s:LS) (b:Builtin) (aa:List Operand) (ts:List TypeId):Option AV:=
 match b,aa,ts with
 | .len,[a],[t]=>az (E.ty.get t) λi=>az (atX s.bs i.desc (dU s.ts a)) λn=>some (.int .i64 n)
 | .min,[a,b],_=>akI false (dU s.ts a) (dU s.ts b)
 | .max,[a,b],_=>akI true (dU s.ts a) (dU s.ts b)
 |_,_,_=>none
def Et (x:AV):Option AV:=aQ (sF x) none (some x)
def oI (h:Et x=some y):x=y/\x≠ .undef:=by
 unfold Et at h;cases hx:sF x with
 |true=>rw[hx] at h;cases h
 |false=>rw[hx] at h;cases h;exact ⟨rfl,Gz hx⟩
def aJW:AV->Bool
 | .el _ _ _ _| .jx _| .fn _ _ _=>true
 |_=>false
def Pr (E:Env) (s:LS) (op:Op):Option AV:=
 match op with
 | .move a=>Et (dU s.ts a)
 | .assign a=>Et (dU s.ts a)
 | .pick c a b=>(match dU s.ts c with| .lit (.bool t)=>Et (dU s.ts (aQ t a b))|_=>none)
 | .nilCheck a=>aQ (aJW (dU s.ts a)) (some (dU s.ts a)) none
 | .load t a=>az (E.ty.get t) λi=>az (Et (dU s.ts a)) λy=>Gw i s.bs y
 | .fieldAddr t a f=>az (ES E t f) λp=>az (Et (dU s.ts a)) λy=>arp p y
 | .field t a f=>az (ES E t f) λp=>az (Et (dU s.ts a)) λy=>az (acR y) λcs=>ub p.2 cs p.1
 | .extract a i=>(match dU s.ts a with| .cS xs=>xs[i]? |_=>none)
 | .binOp op t a b _=>bT (Et (dU s.ts a)) (Et (dU s.ts b)) λx y=>amb E op t x y
 | .unOp op _ a=>az (Et (dU s.ts a)) λy=>unL op y
 | .convert src dst a=>bT (E.ty.get src) (E.ty.get dst) λ_ i2=>az (Et (dU s.ts a)) λy=>alP i2.desc y
 | .makeFunc (.func f) a c=>aQ (sA (tW s.ts a.toList)) (aQ (sA (tW s.ts c.toList)) (some (.fn f (tW s.ts a.toList) (tW s.ts c.toList))) none) none
 | .build t parts=>bT (E.ty.get t) (Pv s.ts parts.toList) λi m=>az (acC E (wy i.zero) m i.desc) λys=>some (.agg ys)
 | .index t a ix=>(match dU s.ts a,dU s.ts ix with
  | .agg cs,.lit (.int _ (.lit (.ofNat k)))=>az (amj E t k) λie=>ub ie cs (Nat.mul k ie.size)
  |_,_=>none)
 | .indexAddr t a ix=>(match dU s.ts a,dU s.ts ix with
  | .el K z 0 off,.lit (.int _ (.lit (.ofNat k)))=>az (amj E t k) λie=>some (.el K z 0 (Nat.add off (Nat.mul k ie.size)))
  |_,_=>none)
 | .call c=>(match c.callee with
  | .builtin b=>aQ (sA (tW s.ts c.args.toList)) (bltL E s b c.args.toList c.argTypes.toList) none
  |_=>none)
 |_=>none
def apt {op:Op} (hx:Pr E s op=some x):Ok E pn op s s x []:=by
 unfold Pr at hx;split at hx
 ·obtain ⟨rfl,h2⟩:=oI hx;exact .un (f:=λ_ v=>some (v,[])) (λ_ _ _=>rfl) rfl h2 λr hv=>⟨_,rfl,hv⟩
 ·obtain ⟨rfl,h2⟩:=oI hx;exact .un (f:=λ_ v=>some (v,[])) (λ_ _ _=>rfl) rfl h2 λr hv=>⟨_,rfl,hv⟩
 ·split at hx
  ·rename_i t hc;obtain ⟨rfl,h2⟩:=oI hx;refine .val λ{F g Y c T H} r=> ?_
   obtain ⟨v,v1,v2⟩:=r.val hc (by simp)
   obtain ⟨w,w1,w2⟩:=r.val rfl h2;cases v2;refine ⟨w,λ_=> ?_,w2⟩
   show az (cE T _) (λv=>az (oU v) λb'=>one T (aQ b' _ _) λv=>some (v,[]))=_
   rw[v1];show one T (aQ t _ _) (λv=>some (v,[]))=_
   rw[one,w1];rfl
  ·cases hx
 ·obtain ⟨h1,hx⟩:=aV hx;cases hx;refine .un (f:=λ_ v=>same (PA v)) (λ_ _ _=>rfl) rfl (λe=>by rw[e] at h1;cases h1) λ{F g Y c T H v} r hv=>⟨v,?_,hv⟩
  generalize dU s.ts _=y at h1 hv;cases y<;>first|(cases h1;done)|(cases hv<;>rfl)
 ·obtain ⟨i,hi,hx⟩:=aq hx;obtain ⟨y,hy,hx⟩:=aq hx;obtain ⟨rfl,hn⟩:=oI hy;exact .un (f:=λH v=>same (oX E H _ v)) (λ_ _ _=>rfl) rfl hn λr hv=>aif hi hx r hv
 ·obtain ⟨p,hp,hx⟩:=aq hx;obtain ⟨y,hy,hx⟩:=aq hx;obtain ⟨rfl,hn⟩:=oI hy;exact .un (f:=λ_=>ou E _ _) (λ_ _ _=>rfl) rfl hn λr hv=>avb hp hx hv
 ·obtain ⟨p,hp,hx⟩:=aq hx;obtain ⟨y,hy,hx⟩:=aq hx;obtain ⟨rfl,hn⟩:=oI hy;obtain ⟨cs,hc,hx⟩:=aq hx;exact .un (f:=λ_=>xP E _ _) (λ_ _ _=>rfl) rfl hn λr hv=>by
   obtain ⟨vs,rfl,q⟩:=VF hc hv;exact ava hp q hx
 ·split at hx
  ·rename_i xs ha;exact .un (f:=λ_ v=>az (OI v) λvs=>same (vs[_]?)) (λ_ _ _=>rfl) ha (by simp) λr hv=>by
    cases hv with
    | @cS _ vs _ q=>
    obtain ⟨u,u1,u2⟩:=q.get hx;exact ⟨u,by show same (vs[_]?)=_;rw[u1];rfl,u2⟩
  ·cases hx
 ·obtain ⟨y,z,hy,hz,hx⟩:=bp hx;obtain ⟨rfl,hn⟩:=oI hy;obtain ⟨rfl,hm⟩:=oI hz;exact .bi (f:=λv u=>same (JR E _ _ _ _ v u)) (λ_ _ _=>rfl) rfl hn rfl hm λhv hw=>by
   obtain ⟨u,u1,u2⟩:=aFy hv hw hx;exact ⟨u,by rw[u1];rfl,u2⟩
 ·obtain ⟨y,hy,hx⟩:=aq hx;obtain ⟨rfl,hn⟩:=oI hy;exact .un (f:=λ_ v=>same (unA _ v)) (λ_ _ _=>rfl) rfl hn λr hv=>aJE hx hv
 ·obtain ⟨i,i2,h1,h2,hx⟩:=bp hx;obtain ⟨y,hy,hx⟩:=aq hx;obtain ⟨rfl,hn⟩:=oI hy;exact .un (f:=λ_ v=>same (LZ E _ _ v)) (λ_ _ _=>rfl) rfl hn λr hv=>aCw h1 h2 hx hv
 ·rename_i f a c;obtain ⟨h1,hx⟩:=aV hx;obtain ⟨h2,hx⟩:=aV hx;cases hx;refine .val λ{F g Y _ T H} r=> ?_
  obtain ⟨vs,v1,v2⟩:=r.fT h1;obtain ⟨ws,w1,w2⟩:=r.fT h2;refine ⟨.fn (.func f) vs ws,λ_=> ?_,.fn _ v2 w2⟩
  show aQ (Vc (.func f)) (bT (fT T a.toList) (fT T c.toList) λl m=>some (SV.fn (.func f) l m,[])) none=_
  rw[v1,w1];rfl
 ·obtain ⟨i,m,h1,h2,hx⟩:=bp hx;obtain ⟨ys,h3,hx⟩:=aq hx;cases hx;refine .val λ{F g Y c T H} r=> ?_
  obtain ⟨k,k1,k2⟩:=NA r h2;obtain ⟨u,u1,u2⟩:=avK h1 k2 h3;refine ⟨u,λ_=> ?_,u2⟩
  show az (ku T _) (λia=>same (E1 E _ ia))=_
  rw[k1];exact u1
 ·split at hx
  ·rename_i cs _ k ha yW;obtain ⟨ie,hie,hx⟩:=aq hx;obtain ⟨i,n,e,h1,h2,h3,h4⟩:=Qx hie;exact .bi (f:=λv u=>az (kX u) λk=>vR E _ k v) (λ_ _ _=>rfl) ha (by simp) yW (by simp) λhv hw=>by
    cases hv with
    | @agg _ vs _ q=>
    cases hw;obtain ⟨u,u1,u2⟩:=vO q hx;refine ⟨u,?_,u2⟩;show az (E.ty.get _) (λi=>abz i.desc E k (.agg vs))=_
    rw[h1];show abz i.desc E k (.agg vs)=_;rw[h2];show bT (some vs) (E.ty.get e) (λcs ie=>aQ (Nat.ble (Nat.succ k) n) (same (ij ie cs (Nat.mul k ie.size))) none)=_
    rw[h3];show aQ (Nat.ble (Nat.succ k) n) (same (ij ie vs (Nat.mul k ie.size))) none=_;rw[h4,u1];rfl
  ·cases hx
 ·split at hx
  ·rename_i K z off _ k ha yW;obtain ⟨ie,hie,hx⟩:=aq hx;obtain ⟨i,n,e,h1,h2,h3,h4⟩:=Qx hie;cases hx;exact .bi (f:=λv u=>az (kX u) λk=>same (oj E _ v k)) (λ_ _ _=>rfl) ha (by simp) yW (by simp) λ{F g v w} hv hw=>by
    cases hv;cases hw;refine ⟨.ptr (g K).n (0*z+(off+k*ie.size)),?_,.el K z 0 _ (by assumption)⟩
    show same (az (E.ty.get _) λi=>GB i.desc E (.ptr (g K).n (0*z+off)) k)=_
    rw[h1];show same (GB i.desc E (.ptr (g K).n (0*z+off)) k)=_;rw[h2];show same (aQ (Nat.ble (Nat.succ k) n) (az (E.ty.get e) λie=>some (SV.ptr (g K).n (Nat.add (0*z+off) (Nat.mul k ie.size)))) none)=_
    rw[h4,h3];show some (SV.ptr (g K).n (0*z+off+k*ie.size),[])=_;rw[fU]
  ·cases hx
 ·split at hx
  ·rename_i c _ b hc;obtain ⟨h1,hx⟩:=aV hx;refine .val λ{F g Y CU T H} r=> ?_
   obtain ⟨vs,v1,v2⟩:=r.fT h1;have key:∃u,(∀new,rm E H new b vs c.argTypes.toList=some (u,[]))/\VA F g u x:=by
    generalize c.args.toList=aa at v2 hx;generalize c.argTypes.toList=ts at hx;unfold bltL at hx;split at hx
    ·obtain ⟨i,hi,hx⟩:=aq hx;obtain ⟨n,hn,hx⟩:=aq hx;cases hx;cases v2 with|cons q1 q2=>
     cases q2;refine ⟨_,λ_=> ?_,.lit _⟩
     show az (E.ty.get _) (λi=>same (xS i.desc _ H))=_
     rw[hi];show same (xS i.desc _ H)=_;rw[aFj r hn q1];rfl
    ·cases v2 with|cons q1 q2=>
     cases q2 with|cons q2 q3=>
     cases q3;obtain ⟨u,u1,u2⟩:=apP hx q1 q2;exact ⟨u,λ_=>u1,u2⟩
    ·cases v2 with|cons q1 q2=>
     cases q2 with|cons q2 q3=>
     cases q3;obtain ⟨u,u1,u2⟩:=apP hx q1 q2;exact ⟨u,λ_=>u1,u2⟩
    ·cases hx
   obtain ⟨u,u1,u2⟩:=key;refine ⟨u,λnew=> ?_,u2⟩
   show rY E T H new c=_;unfold rY;rw[hc];show az (fT T c.args.toList) (λaa=>rm E H new b aa c.argTypes.toList)=_
   rw[v1];exact u1 new
  ·cases hx
 ·cases hx
def elN {id:Nat} {cp:Cp} (e:g K=⟨id,cp,true⟩):VA F g (.ptr id f) (.el K 0 0 f):=by
 have:=VA.el (F:=F) (g:=g) K 0 0 f (by rw[e])
 rwa[e,cA] at this
def rn {id s:Nat} {cp:Cp} (e:g K=⟨id,cp,true⟩):VA F g (.sl id 0 n cp) (.ms K s 0 n):=by
 have:=VA.ms (F:=F) (g:=g) (K:=K) s 0 n (by rw[e])
 rw[e,lV] at this;cases cp<;>exact this
def als {id:Nat} {cp:Cp} (h:g K=⟨id,cp,true⟩) (q:dA F g svs xs):eH F g K (.flat e xs) [(id,.cells e svs)]:=by
 have:=eH.flat (K:=K) (e:=e) q;rwa[h] at this
def lX {id s:Nat} {cp:Cp} (h:g K=⟨id,cp,true⟩) (hz:z=true->Q≠ []) (hu:∀r∈Q,r.length=s) (hc:yy e s Q.length svs.length cp) (q:dA F lA (svs.take (Q.length*s)) Q.flatten):eH F g K (.rows z e s Q) [(id,.cells e svs)]:=by
 have:=eH.cy (F:=F) (g:=g) (K:=K) (z:=z) (e:=e) (by rw[h]) hz hu (by rw[h];exact hc) (TR.uI hu q) (o:= []) (λp hp=>by cases hp)
 rwa[h] at this
def y7 (sz:Nat):Nat->bc->bA
 |0,_=> []
 |n+1,cs=>cs.take sz::y7 sz n (cs.drop sz)
def acB {sz:Nat}:∀{n:Nat} {cs:bc},cs.length=n*sz->(y7 sz n cs).length=n/\(∀r∈y7 sz n cs,r.length=sz)/\(y7 sz n cs).flatten=cs
 |0,cs,hl=>by
  rw[lV] at hl;rw[wa.1 hl];exact ⟨rfl,λr hr=>(by cases hr),rfl⟩
 |n+1,cs,hl=>by
  rw[gD,pt] at hl;obtain ⟨a,b,c⟩:=acB (sz:=sz) (n:=n) (cs:=cs.drop sz) (by rw[iX];omega)
  refine ⟨by show (y7 sz n (cs.drop sz)).length+1=_;rw[a],λr hr=> ?_,?_⟩
  ·rcases cH.1 (show r∈cs.take sz::y7 sz n (cs.drop sz) from hr) with rfl|hr
   ·rw[dR];omega
   ·exact b r hr
  ·show cs.take sz++(y7 sz n (cs.drop sz)).flatten=cs;rw[c,DN]
def U1 (z:bc):Nat->bc
 |0=> []
 |n+1=>z++U1 z n
def aaB {z:aY} {x:bc} (hz:dA F g z x):∀n,dA F g (rep z n) (U1 x n)
 |0=>.nil
 |n+1=>hz.append (aaB hz n)
def U0 (z:bc):∀n,(U1 z n).length=n*z.length
 |0=>by simp[U1]
 |n+1=>by show (z++U1 z n).length=_;rw[gO,U0 z n,gD,pt,AD]
def WC {place:Nat->Option (Nat×Nat)}:∀{m:List (Nat×bc)} {xs ys:bc},LR place xs m=some ys->ys.length=xs.length
 | [],_,_,hy=>by cases hy;rfl
 |p::rest,xs,ys,hy=>by
  obtain ⟨q,h1,hy⟩:=aq hy;obtain ⟨h2,hy⟩:=aV hy;rw[WC hy];rw[bF] at h2;have e1:p.2.length=q.2:=(beq_iff _ _).1 h2.1;have e2:q.1+q.2<=xs.length:=tP h2.2;unfold gx;rw[gO,gO,dR,iX,show Nat.add q.1 p.2.length=q.1+p.2.length from rfl];omega
def Nc {ie:TI} (h:pT ie=true):ie.zero.length=ie.size:=by
 unfold pT at h;rw[bF,bF] at h;exact (beq_iff _ _).1 h.2.2
def Qk (E:Env) (t:TypeId):Option (TypeId×TI):=az (E.ty.get t) λi=>az (qP i.desc) λe=>az (E.ty.get e) λie=>some (e,ie)
def Ap {p:TypeId×TI} (h:Qk E t=some p):∃i,E.ty.get t=some i/\qP i.desc=some p.1/\E.ty.get p.1=some p.2:=by
 obtain ⟨i,hi,h⟩:=aq h;obtain ⟨e,he,h⟩:=aq h;obtain ⟨ie,hie,h⟩:=aq h;cases h;exact ⟨i,hi,he,hie⟩
def aaL (E:Env) (s:LS) (K:Nat) (op:Op):Option (Bx×AV):=
 match op with
 | .box e a=>az (BR (dU s.ts a)) λxs=>aQ (lQ K (ky xs)) none (some (.flat e xs,.loc K 0))
 | .alloc e=>az (E.ty.get e) λi=>some (.flat e (wy i.zero),.loc K 0)
 | .buildSlice t len parts=>bT (Qk E t) (Pv s.ts parts.toList) λp m=>aQ (pT p.2&&Nat.ble (Nat.mul len p.2.size) 16777216) (az (LR (rX p.2.size) (U1 (wy p.2.zero) len) m) λys=>
   aQ (ky ys).isEmpty (some (.rows false p.1 p.2.size (y7 p.2.size len ys),.ms K p.2.size 0 len)) (aQ (Nat.beq len 1 && !lQ K (ky ys)) (some (.flat p.1 ys,.ms K p.2.size 0 1)) none)) none
 | .makeMap _ none=>some (.map [],.mp K)
 | .range t a=>az (E.ty.get t) λi=>aQ (EF i.desc) (match dU s.ts a with| .lit (.str b)=>some (.iter b 0,.it K)|_=>none) none
 |_=>none
def Ly {l:br} (h:lQ K l=false):∀k∈l,k≠K:=λk hm e=>by
 rw[(qf K l).2 (e ▸ hm)] at h;cases h
def aps {op:Op} {p:Bx×AV} (hf:s.free K) (hp:pn K=false) (hx:aaL E s K op=some p):Ok E pn op s (s.set K p.1) p.2 [K]:=by
 unfold aaL at hx;split at hx
 ·rename_i e a;obtain ⟨xs,h1,hx⟩:=aq hx;rw[bH] at hx;split at hx
  ·cases hx
  ·rename_i hm;cases hx;refine .lay hp hf λ{F g Y c T H new} r=> ?_
   obtain ⟨v,v1,v2⟩:=r.val rfl (CW h1);obtain ⟨vs,w1,w2⟩:=CV h1 v2;refine ⟨.ptr new 0,.cells e vs,.k 1,?_,λg' e1 e2=>⟨elN e1,als e1 (w2.same (.refl F) λk hk=>e2 k (Ly (by simpa using hm) k hk))⟩⟩
   show one T a (Xx new e)=_;rw[one,v1];show az v.cells _=_;rw[w1];rfl
 ·rename_i e;obtain ⟨i,h1,hx⟩:=aq hx;cases hx;exact .lay hp hf λ{F g Y c T H new} r=>⟨.ptr new 0,.cells e i.zero,.k 1,by show az (E.ty.get e) _=_;rw[h1];rfl,λg' e1 e2=>⟨elN e1,als e1 sE⟩⟩
 ·rename_i t len parts;obtain ⟨q,m,h1,h2,hx⟩:=bp hx;obtain ⟨h3,hx⟩:=aV hx;obtain ⟨ys,h4,hx⟩:=aq hx;obtain ⟨i,hi,he,hie⟩:=Ap h1;have js:=(kL.1 h3).1;have hlen:ys.length=len*q.2.size:=by rw[WC h4,U0,wy,nS,Nc js]
  have run:∀{F:Hf} {g:Gb} {Y:Nat->Ow} {c:Nat->bP} {T:Tf} {H:Hf} {new:Nat},Rel F g Y c s T H->∃ws,dA F g ws ys/\qT E (.buildSlice t len parts) T H new=some (.sl new 0 len (.k len),[(new,some (.cells q.1 ws))]):=λ{F g Y c T H new} r=>by
   obtain ⟨k,k1,k2⟩:=NA r h2;obtain ⟨ws,w1,w2⟩:=LQ k2 (aaB sE len) h4;refine ⟨ws,w2,?_⟩;show az (ku T parts.toList) (λia=>ti E new t len ia)=_
   rw[k1];show az (E.ty.get t) _=_;rw[hi];show az (qP i.desc) _=_;rw[he];show az (E.ty.get q.1) _=_;rw[hie];show aQ (pT q.2&&Nat.ble (Nat.mul len q.2.size) 16777216) (az (mZ (rX q.2.size) (rep q.2.zero len) k) λcs=>some (SV.sl new 0 len (.k len),[(new,some (SO.cells q.1 cs))])) none=_
   rw[h3,w1];rfl
  rw[bH] at hx;split at hx
  ·rename_i h5;cases hx;obtain ⟨c1,c2,c3⟩:=acB hlen;refine .lay hp hf λ{F g Y c T H new} r=> ?_
   obtain ⟨ws,w2,w3⟩:=run (new:=new) r;refine ⟨_,_,.k len,w3,λg' e1 e2=>⟨rn e1,lX e1 (λe=>by cases e) c2 (by rw[c1];exact ⟨dg _,by rw[w2.length,hlen]⟩) ?_⟩⟩
   rw[c1,c3,kq (by rw[w2.length,hlen];exact dg _)]
   exact w2.qU h5
  ·obtain ⟨h6,hx⟩:=aV hx;cases hx;rw[bF] at h6;obtain rfl:=(beq_iff _ _).1 h6.1;refine .lay hp hf λ{F g Y c T H new} r=> ?_
   obtain ⟨ws,w2,w3⟩:=run (new:=new) r;exact ⟨_,_,.k 1,w3,λg' e1 e2=>⟨rn e1,als e1 (w2.same (.refl F) λk hk=>e2 k (Ly (by simpa using h6.2) k hk))⟩⟩
 ·cases hx;refine .lay hp hf λ{F g Y c T H new} r=>⟨.mp new,.map [] 0,.k 0,rfl,λg' e1 e2=>⟨?_,?_⟩⟩
  ·have:=VA.mp (F:=F) (g:=g') K;rwa[e1] at this
  ·have:=eH.map (F:=F) (g:=g') (K:=K) (es:= []) (ms:= []) (c:=0) .nil .nil;rwa[e1] at this
 ·rename_i t a;obtain ⟨i,h1,hx⟩:=aq hx;obtain ⟨h2,hx⟩:=aV hx;split at hx
  ·rename_i b ha;cases hx;refine .lay hp hf λ{F g Y c T H new} r=> ?_
   obtain ⟨v,v1,v2⟩:=r.val ha (by simp)
   cases v2;refine ⟨.ptr new 0,.nF b 0,.k 0,?_,λg' e1 e2=>⟨?_,?_⟩⟩
   ·show one T a (vQ E H new t)=_;rw[one,v1];show az (E.ty.get t) _=_;rw[h1];show az (Pn i.desc (.str b) H) _=_;generalize i.desc=d at h2;cases d<;>first|(cases h2;done)|rfl
   ·have:=VA.it (F:=F) (g:=g') K;rwa[e1] at this
   ·have:=eH.iter (F:=F) (g:=g') (K:=K) (s:=b) (pos:=0);rwa[e1] at this
  ·cases hx
 ·cases hx
def Pq (E:Env) (s:LS) (op:Op):Option (Nat×Bx):=
 match op with
 | .store t a c=>bT (E.ty.get t) (BR (dU s.ts c)) λi xs=>(match dU s.ts a with
  | .el K _ j off=>(match lk K s.bs with
   |some (.flat e cs)=>zer j (aQ (Nat.beq xs.length i.size&&Nat.ble (Nat.add off xs.length) cs.length) (some (K,.flat e (gx cs off xs))) none)
   |_=>none)
  |_=>none)
 |_=>none
def Wg {id:Nat} (hi:E.ty.get t=some i) (hw:w.cells=some vs) (hH:H id=some (.cells e svs)) (hl:(Nat.beq vs.length i.size&&Nat.ble (Nat.add off vs.length) svs.length)=true):
  unit (rW E H t w (.ptr id off))=some (.cS [],[(id,some (.cells e (eK svs off vs)))]):=by
 show unit (rP (E.ty.get t) w.cells (nq (H id)) λi xs p=>aQ (Nat.beq xs.length i.size&&Nat.ble (Nat.add off xs.length) p.2.length) (some [(id,some (SO.cells p.1 (eK p.2 off xs)))]) none)=_
 rw[hi,hw,hH];show unit (aQ (Nat.beq vs.length i.size&&Nat.ble (Nat.add off vs.length) svs.length) (some [(id,some (SO.cells e (eK svs off vs)))]) none)=_;rw[hl];rfl
def apr {op:Op} {p:Nat×Bx} (hx:Pq E s op=some p):Ok E pn op s (s.set p.1 p.2) (.cS []) [p.1]:=by
 unfold Pq at hx;split at hx
 ·rename_i t a b;obtain ⟨i,xs,h1,h2,hx⟩:=bp hx;split at hx
  ·rename_i K z j off ha;split at hx
   ·rename_i e cs hb;obtain ⟨rfl,hx⟩:=YP hx;obtain ⟨h3,hx⟩:=aV hx;cases hx;refine .wr hb λ{F g Y c T H} r=> ?_
    obtain ⟨v,v1,v2⟩:=r.val ha (by simp)
    obtain ⟨w,w1,w2⟩:=r.val rfl (CW h2);obtain ⟨vs,u1,u2⟩:=CV h2 w2;cases v2;obtain ⟨svs,hφ,q,hH⟩:=r.flat hb;refine ⟨.cS [],_,.cells e (eK svs off vs),[],[],hφ,λnew=> ?_,.cS .nil,.flat (q.eK u2 off),.refl _⟩
    show two T a b (λa v=>unit (rW E H t v a))=_
    rw[two,v1,w1];show unit (rW E H t w (.ptr (g K).n (0*z+off)))=_;rw[lV,cA];exact Wg h1 u1 hH (by rw[u2.length,q.length];exact h3)
   ·cases hx
  ·cases hx
 ·cases hx
end
section
variable {F F':Hf} {g g':Gb} {Y:Nat->Ow} {c:Nat->bP} {s s':LS} {T:Tf} {H:Hf} {E:Env} {pn:Nat->Bool}
def j6 {x:Option J} {a:J} {f:J->Option γ} (h:x=some a):az x f=f a:=by rw[h];rfl
def G4 {O:Type} {x:Option J} {y:Option O} {a:J} {b:O} {f:J->O->Option γ} (h:x=some a) (k:y=some b):bT x y f=f a b:=by rw[h,k];rfl
def CN {J:Type} {s:Nat}:∀{Q:List (List J)},(∀r∈Q,r.length=s)->∀l,(Q.drop l).flatten=Q.flatten.drop (l*s)
 |_,_,0=>by simp
 | [],_,l+1=>by simp
 |r::Q,hu,l+1=>by
  rw[List.drop_succ_cons,CN (λq hq=>hu q (by simp[hq])) l,qF,gD,pt,AD,<-tV,List.drop_left' (hu r (by simp))]
def JC {J:Type} {s:Nat}:∀{Q:List (List J)},(∀r∈Q,r.length=s)->∀l,(Q.take l).flatten=Q.flatten.take (l*s)
 |_,_,0=>by simp
 | [],_,l+1=>by simp
 |r::Q,hu,l+1=>by
  rw[S0,qF,JC (λq hq=>hu q (by simp[hq])) l,qF,gD,pt,AD,<-hu r (by simp),D0]
def ach {s lo:Nat} {Q:List (List J)} (hu:∀r∈Q,r.length=s):((Q.drop lo).take n).flatten=(Q.flatten.drop (lo*s)).take (n*s):=by
 rw[JC (λr hr=>hu r (oE hr)),CN hu]
def Pd {s:Nat} {Q:List (List J)} {R:List J} (hj:Q[j]? =some R):j*s+s<=Q.length*s:=by
 have:=kK s (show j+1<=Q.length from (bY.1 hj).1);rwa[gD,pt] at this
def auX {s:Nat} {Q:List (List J)} {R:List J} (hu:∀r∈Q,r.length=s) (hj:Q[j]? =some R):(Q.flatten.drop (j*s)).take s=R:=by
 obtain ⟨cY,he⟩:=bY.1 hj;rw[<-CN hu,qJ cY,qF,he,DZ (hu R (cT hj))]
def yY {J:Type} (rows:List J) (n:Int):Option J:=if 0<=n then rows[n.toNat]? else none
def Na {rows:List J} {n:Int} {R:J} (hg:yY rows n=some R):∃k:Nat,n=k/\rows[k]? =some R:=by
 unfold yY at hg;split at hg
 ·exact ⟨n.toNat,by omega,hg⟩
 ·cases hg
def atq (sh:Sh) (x:AV):AV:=
 match sh with
 | .d=>x
 | .o _ _=>.undef
def F9:dX->bc->bc
 |_,[]=> []
 |l,x::r=>atq (l.headD .d) x::F9 l.tail r
def xX (sh:Sh) (x:AV):AV:=aQ (jJ x).isEmpty (atq sh x) .undef
def tZ:dX->bc->bc
 |_,[]=> []
 |l,x::r=>xX (l.headD .d) x::tZ l.tail r
def By:Nat->dX->bc->fA
 |_,_,[]=> []
 |p,l,x::r=>aQ (sF (xX (l.headD .d) x)) (aQ (sF x) (By (Nat.succ p) l.tail r) ((p,x)::By (Nat.succ p) l.tail r)) (By (Nat.succ p) l.tail r)
def ke.see:∀{l vs xs L},ke F l vs xs L->dA F lA vs (F9 l xs)
 |_,_,_,_,.nil=>.nil
 |l,_,_,_,.cons (v:=v) q t=>.cons (by
  show VA F lA v (atq (l.headD .d) _);generalize l.headD .d=sh at q;cases sh with
  |d=>cases q with
   |d q=>exact q
   |any=>exact .undef v
  |o b l=>exact .undef v) t.see
def TR.at {s:Nat}:∀{l vs Q L} {j:Nat} {R},TR F l vs Q L->(∀r∈Q,r.length=s)->Q[j]? =some R->∃L0,ke F l ((vs.drop (j*s)).take s) R L0
 |_,_,_,_,_,_,.nil,_,h=>by cases h
 |l,_,_,_,0,R,.cons (vs:=vs) (a:=a) q t,hu,h=>by
  obtain rfl:_=R:=by simpa using h
  exact ⟨a,by rw[lV,rR,DZ (by rw[q.length];exact hu _ (by simp))];exact q⟩
 |l,_,_,_,j+1,R,.cons (vs:=vs) q t,hu,h=>by
  have hl:vs.length=s:=by rw[q.length];exact hu _ (by simp)
  have:=t.at (λr hr=>hu r (fO _ hr)) (show _=some R by simpa using h)
  rwa[gD,pt,AD,<-tV,<-hl,YQ,hl]
def TR.take {s:Nat}:∀{l vs Q L} (n:Nat),TR F l vs Q L->(∀r∈Q,r.length=s)->∃L',L'.Sublist L/\TR F l (vs.take (n*s)) (Q.take n) L'
 |_,_,_,_,0,_,_=>⟨[],Oy _,by simpa using .nil⟩
 |_,_,_,_,n+1,.nil,_=>⟨[],.refl _,by simpa using .nil⟩
 |l,_,_,_,n+1,.cons (vs:=vs) q t,hu=>by
  obtain ⟨L',h1,h2⟩:=t.take n λr hr=>hu r (fO _ hr)
  refine ⟨_,(SY _).append h1,?_⟩;rw[gD,pt,AD,<-hu _ (jt),<-q.length,D0,S0,q.length,hu _ (jt)];exact .cons q h2
def TR.append:∀{l vs Q L ws R L2},TR F l vs Q L->TR F l ws R L2->TR F l (vs++ws) (Q++R) (L++L2)
 |_,_,_,_,_,_,_,.nil,k=>k
 |_,_,_,_,_,_,_,.cons q t,k=>by rw[lu,lu];exact .cons q (t.append k)
def TC.put (sh:Sh) (h:VA F g v x):TC F sh v (xX sh x) []:=by
 unfold xX;rw[bH];split
 ·rename_i hk;cases sh with
  |d=>exact .d (h.qU hk)
  |o=>exact .any v
 ·exact .any v
def ke.aaI:∀{l ws xs},dA F g ws xs->ke F l ws (tZ l xs) []
 |_,_,_,.nil=>.nil
 |l,_,_,.cons h t=>.cons (a:= []) (TC.put _ h) (ke.aaI t)
def ke.put:∀{l vs R L ws xs},ke F l vs R L->dA F g ws xs->xs.length<=R.length->∃L',L'.Sublist L/\ke F l (ws++vs.drop ws.length) (tZ l xs++R.drop xs.length) L'
 |l,vs,R,L,_,_,q,.nil,_=>⟨L,.refl _,by simpa[tZ] using q⟩
 |l,_,_,_,_,_,.nil,.cons h t,hl=>by cases hl
 |l,_,_,_,_,_,.cons (a:=a) q qs,.cons h t,hl=>by
  obtain ⟨L',h1,h2⟩:=qs.put t (by simpa using hl)
  exact ⟨L',h1.trans (YS _ _),.cons (a:= []) (TC.put _ h) (by simpa using h2)⟩
def ke.spl:∀{l vs R L ws xs} (f:Nat),ke F l vs R L->dA F g ws xs->f+xs.length<=R.length->∃L',L'.Sublist L/\ke F l (eK vs f ws) (gx R f (tZ (l.drop f) xs)) L'
 |l,vs,R,L,ws,xs,0,q,h,hl=>by
  obtain ⟨L',h1,h2⟩:=q.put h (by omega)
  refine ⟨L',h1,?_⟩;show ke F l (vs.take 0++ws++vs.drop (Nat.add 0 ws.length)) (R.take 0++tZ l xs++R.drop (Nat.add 0 (tZ l xs).length)) L';rw[show (tZ l xs).length=xs.length by rw[<-(ke.aaI (F:=F) (l:=l) h).length,h.length],show Nat.add 0 ws.length=ws.length from cA _,show Nat.add 0 xs.length=xs.length from cA _]
  exact h2
 |l,_,_,_,ws,xs,f+1,.nil,h,hl=>by simp at hl
 |l,_,_,_,ws,xs,f+1,.cons (v:=v) (vs:=vs) (x:=x) (xs:=R) q t,h,hl=>by
  obtain ⟨L',h1,h2⟩:=t.spl f h (by simp at hl;omega)
  refine ⟨_,(SY _).append h1,?_⟩;have e1:eK (v::vs) (f+1) ws=v::eK vs f ws:=by
   show (v::vs).take (f+1)++ws++(v::vs).drop (f+1+ws.length)=v::(vs.take f++ws++vs.drop (f+ws.length));rw[show f+1+ws.length=f+ws.length+1 by omega];rfl
  have e2:∀ys,gx (x::R) (f+1) ys=x::gx R f ys:=λys=>by
   show (x::R).take (f+1)++ys++(x::R).drop (f+1+ys.length)=x::(R.take f++ys++R.drop (f+ys.length));rw[show f+1+ys.length=f+ys.length+1 by omega];rfl
  rw[e1,e2,show l.drop (f+1)=l.tail.drop f by cases l<;>simp]
  exact .cons q h2
def OW {a v b:aY} (h:f+ws.length<=v.length):eK (a++(v++b)) (a.length+f) ws=a++(eK v f ws++b):=by
 show (a++(v++b)).take (a.length+f)++ws++(a++(v++b)).drop (a.length+f+ws.length)=a++((v.take f++ws++v.drop (f+ws.length))++b);rw[D0,agx (by omega),fU,agy,agw h]
 simp
def S9 {R:bc} (h1:f+xs.length<=R.length):(gx R f xs).length=R.length:=by
 show (R.take f++xs++R.drop (f+xs.length)).length=_;rw[gO,gO,dR,iX];omega
def HK {R xs:aY} (h1:f+xs.length<=R.length):(eK R f xs).length=R.length:=by
 show (R.take f++xs++R.drop (f+xs.length)).length=_;rw[gO,gO,dR,iX];omega
def TR.spl {s:Nat} (h:dA F g ws xs) (hl:f+xs.length<=s):∀{l vs Q L} {j:Nat} {R},TR F l vs Q L->(∀r∈Q,r.length=s)->Q[j]? =some R->∃L',L'.Sublist L/\TR F l (eK vs (j*s+f) ws) (Q.set j (gx R f (tZ (l.drop f) xs))) L'
 |_,_,_,_,_,_,.nil,_,hj=>by cases hj
 |l,_,_,_,0,R,.cons (vs:=vs) (ws:=b) q t,hu,hj=>by
  obtain rfl:_=R:=by simpa using hj
  have hr:=hu _ (jt);obtain ⟨L',h1,h2⟩:=q.spl f h (by omega)
  refine ⟨_,h1.append (.refl _),?_⟩;have:=OW (a:= []) (v:=vs) (b:=b) (f:=f) (ws:=ws) (by rw[h.length,q.length];omega)
  rw[lV,show eK (vs++b) (0+f) ws=eK vs f ws++b from this];exact .cons h2 t
 |l,_,_,_,j+1,R,.cons (vs:=vs) (ws:=b) q t,hu,hj=>by
  obtain ⟨L',h1,h2⟩:=t.spl h hl (λr hr=>hu r (fO _ hr)) (show _=some R by simpa using hj)
  have hv:vs.length=s:=by rw[q.length];exact hu _ (jt)
  refine ⟨_,(SY _).append h1,?_⟩;have hlen:=t.length λr hr=>hu r (fO _ hr)
  have hjs:=Pd (s:=s) (show _=some R by simpa using hj)
  have:=OW (a:=vs) (v:=b) (b:= []) (f:=j*s+f) (ws:=ws) (by rw[h.length];omega)
  rw[tN,tN,hv] at this;rw[show (j+1)*s+f=s+(j*s+f) by rw[gD];omega,this]
  exact .cons q h2
def afP {N:Nat} (h1:off+ws.length<=N) (h2:N<=vs.length):(eK vs off ws).take N=eK (vs.take N) off ws:=by
 show (vs.take off++ws++vs.drop (off+ws.length)).take N=(vs.take N).take off++ws++(vs.take N).drop (off+ws.length);have hl:(vs.take off++ws).length=off+ws.length:=by rw[gO,dR,fB (by omega)]
 rw[List.take_append,kq (by omega),hl,tS,oD,fB (by omega)]
def aoR (h:off+ws.length<=vs.length):(eK vs off ws)[p]? =if p<off then vs[p]? else if p<off+ws.length then ws[p-off]? else vs[p]? :=by
 show (vs.take off++ws++vs.drop (off+ws.length))[p]? =_;have hl:(vs.take off).length=off:=by rw[dR];omega
 rw[lu];by_cases h1:p<off
 ·rw[aH h1,nR (by omega),eN,aH h1]
 ·rw[aL h1,nf (by omega),hl]
  by_cases h2:p<off+ws.length
  ·rw[aH h2,nR (by omega)]
  ·rw[aL h2,nf (by omega),fa]
   congr 1;omega
def Rel.cy (r:Rel F g Y c s T H) {K:Nat} {z:Bool} {e sz:Nat} {l:dX} {Q:bA} {o:fA} (hb:lk K s.bs=some (.cy z e sz l Q o)):(Q= []/\o= []/\(g K).b=false/\Y K= [])\/
  ((g K).b=true/\∃svs L,Y K=((g K).n,.cells e svs)::L/\H (g K).n=some (.cells e svs)/\(z=true->Q≠ [])/\(∀r∈Q,r.length=sz)/\yy e sz Q.length svs.length (g K).c/\TR F l (svs.take (Q.length*sz)) Q L/\HoA F g svs o):=by
 obtain ⟨q,_,q3⟩:=r.bx K _ hb;generalize Y K=L at q q3;cases q with
 |nil h=>exact .inl ⟨rfl,rfl,h,rfl⟩
 |cy h1 h2 h3 h4 h5 h6=>exact .inr ⟨h1,_,_,rfl,(q3 (_,_) (by simp)).1,h2,h3,h4,h5,h6⟩
def Rel.row (r:Rel F g Y c s T H) {e sz:Nat} {R:bc} (hb:lk K s.bs=some (.cy z e sz l Q o)) (hj:Q[j]? =some R):
  (g K).b=true/\∃svs L,Y K=((g K).n,.cells e svs)::L/\H (g K).n=some (.cells e svs)/\(∀r∈Q,r.length=sz)/\yy e sz Q.length svs.length (g K).c/\TR F l (svs.take (Q.length*sz)) Q L/\HoA F g svs o/\dA F lA ((svs.drop (j*sz)).take sz) (F9 l R)/\R.length=sz/\j*sz+sz<=svs.length:=by
 rcases r.cy hb with ⟨rfl,_⟩|⟨h1,svs,L,h2,h3,_,h4,h5,h6,h7⟩
 ·cases hj
 ·obtain ⟨L0,q⟩:=h6.at h4 hj;have hle:=Pd (s:=sz) hj;rw[tS,oD,fB (by omega)] at q
  exact ⟨h1,svs,L,h2,h3,h4,h5,h6,h7,q.see,h4 R (cT hj),jj hle (oA h5)⟩
structure cD where
 need:Prop
 got:Prop
 pf:got
def eqO (a b:Nat):cD:=⟨a=b,a=a,rfl⟩
structure o8 where
 Ep:List cD
 s:LS
 x:AV
 W:br
def iF:List cD->Prop
 | []=>True
 |q::l=>q.need/\iF l
def ui (E:Env) (pn:Nat->Bool) (op:Op) (s:LS) (r:o8):Prop:=iF r.Ep->Ok E pn op s r.s r.x r.W
def eqH (j sz:Nat):br->fA->List cD
 |f::fs,p::o=>eqO p.1 (Nat.add (Nat.mul j sz) f)::eqH j sz fs o
 |_,_=> []
def atC (R:bc):br->fA->bc
 |f::fs,p::o=>atC (R.set f p.2) fs o
 |_,_=>R
def dA.set:∀{vs xs} {i:Nat} {v:SV} {x:AV},dA F g vs xs->vs[i]? =some v->VA F g v x->dA F g vs (xs.set i x)
 |_,_,_,_,_,.nil,_,_=>.nil
 |_,_,0,_,_,.cons _ t,h,k=>by obtain rfl:=kV (show some _=some _ from h);exact .cons k t
 |_,_,i+1,_,_,.cons h t,hi,k=>.cons h (t.set (by simpa using hi) k)
def ahI {svs:aY} {j sz:Nat}:∀{fs:br} {o:fA} {R:bc},dA F g ((svs.drop (j*sz)).take sz) R->HoA F g svs o->(∀f∈fs,f<sz)->iF (eqH j sz fs o)->dA F g ((svs.drop (j*sz)).take sz) (atC R fs o)
 | [],_,_,q,_,_,_=>q
 |_::_,[],_,q,_,_,_=>q
 |f::fs,p::o,R,q,ho,hf,ha=>by
  obtain ⟨h1,h2⟩:p.1=j*sz+f/\iF (eqH j sz fs o):=ha;obtain ⟨v,v1,v2⟩:=ho p (by simp)
  refine ahI (fs:=fs) (o:=o) (q.set (i:=f) ?_ v2) (λp hp=>ho p (fO _ hp)) (λf hf'=>hf f (fO _ hf')) h2
  rw[eN,aH (hf f (by simp)),fa,<-h1]
  exact v1
def XA (sz:Nat):br->Bool
 | []=>true
 |f::l=>Nat.ble (Nat.succ f) sz&&XA sz l
def abh {sz:Nat}:∀{l:br},XA sz l=true->∀f∈l,f<sz
 |_::_,h,f,hf=>by
  have h:=kL.1 (show (Nat.ble (Nat.succ _) sz&&XA sz _)=true from h);rcases cH.1 hf with rfl|hf
  ·exact (bV _ _).1 h.1
  ·exact abh h.2 f hf
def ats (E:Env) (s:LS) (op:Op) (R:bc) (fs:br) (ob:Prop->cD):Option o8:=
 match op with
 | .load t a=>az (E.ty.get t) λi=>(match dU s.ts a with
  | .el K sz j f=>(match lk K s.bs with
   |some (.cy z e Ea l Q o)=>aQ (Nat.beq sz Ea&&(Nat.ble (Nat.add f i.size) sz&&(XA sz fs&&(ky (F9 l R)).isEmpty))) (az (ub i (((atC (F9 l R) fs o).drop f).take i.size) 0) λx=>some ⟨ob (Q[j]? =some R)::eqH j sz fs o,s,x,[]⟩) none
   |_=>none)
  |_=>none)
 | .indexAddr t a ix=>az (E.ty.get t) λi=>az (qP i.desc) λe=>az (E.ty.get e) λie=>(match dU s.ts a,dU s.ts ix with
  | .sl _ _ sz _ Q,.lit (.int _ (.lit n))=>aQ (Nat.beq ie.size sz) (some ⟨[ob (yY Q n=some R)],s,.jx R,[]⟩) none
  |_,_=>none)
 |_=>none
def aby {ie:TI} {id m:Nat} {c:Cp} (hi:E.ty.get t=some i) (he:qP i.desc=some e) (hie:E.ty.get e=some ie) (hk:k<m):same (oj E t (.sl id off m c) k)=some (.ptr id (off+k*ie.size),[]):=by
 unfold oj;rw[j6 hi,uG he];show same (AN E e id off m k)=_;unfold AN;rw[hie,(bV _ _).2 hk];rfl
def aBO {op:Op} {R:bc} {ob:Prop->cD} (gQ:∀P,(ob P).need=P) {r:o8} (h:ats E s op R fs ob=some r):ui E pn op s r:=by
 unfold ats at h;split at h
 ·obtain ⟨i,hi,h⟩:=aq h;split at h
  ·rename_i K sz j f ha;split at h
   ·rename_i z e Ea l Q o hb;obtain ⟨hc,h⟩:=aV h;obtain ⟨x,hx,h⟩:=aq h;cases h;simp only[bF] at hc;obtain ⟨h1,h2,h3,h4⟩:=hc;obtain rfl:=(beq_iff _ _).1 h1;have h2:f+i.size<=sz:=(bV _ _).1 h2;intro hh;obtain ⟨hj,hh⟩:=hh;rw[gQ] at hj;exact .un (f:=λH v=>same (oX E H _ v)) (λ_ _ _=>rfl) ha (by simp) λ{F g Y c T H v} r hv=>by
     cases hv;obtain ⟨_,svs,L,_,hH,_,_,_,ho,q,hR,hl⟩:=r.row hb hj;obtain ⟨u,u1,u2⟩:=vO (((ahI (q.qU h4) ho (abh h3) hh).drop f).take i.size) hx;rw[tS,oD,tV,fB (by omega)] at u1
     exact ⟨u,LA hi (ru hH) (aaN u1 (by omega)),u2⟩
   ·cases h
  ·cases h
 ·obtain ⟨i,hi,h⟩:=aq h;obtain ⟨e,he,h⟩:=aq h;obtain ⟨ie,hie,h⟩:=aq h;split at h
  ·rename_i m e' sz n0 Q _ n ha yW;obtain ⟨h1,h⟩:=aV h;cases h;obtain rfl:=(beq_iff _ _).1 h1;intro hh;have hR:=hh.1;rw[gQ] at hR;obtain ⟨k,rfl,hk⟩:=Na hR;exact .bi (f:=λv u=>az (kX u) λk=>same (oj E _ v k)) (λ_ _ _=>rfl) ha (by simp) yW (by simp) λ{F g v w} hv hw=>by
    cases hw;cases hv with
    |nil=>cases hk
    |sle=>cases hk
    | @sl _ _ id off cp _ _ _ _ e2 svs hn hF hc hm hu hl q=>
    subst hn;have hle:=Pd (s:=ie.size) hk;have hRl:=hu R (cT hk);refine ⟨_,aby hi he hie (bY.1 hk).1,.jx (wL hF (by omega) (by omega)) (by omega) ?_⟩
    have:=(q.drop (k*ie.size)).take ie.size;rw[auX hu hk,tS,oD,tV,fB (by omega)] at this
    rw[hRl];exact this
  ·cases h
 ·cases h
def alh (E:Env) (s:LS) (op:Op):Option o8:=
 match op with
 | .load t a=>az (E.ty.get t) λi=>(match dU s.ts a with
  | .el K sz j f=>(match lk K s.bs with
   |some (.cy _ _ _ _ _ (p::_))=>aQ (l5 i.desc) none (some ⟨[eqO p.1 (Nat.add (Nat.mul j sz) f)],s,p.2,[]⟩)
   |_=>none)
  |_=>none)
 |_=>none
def aCp {op:Op} {r:o8} (h:alh E s op=some r):ui E pn op s r:=by
 unfold alh at h;split at h
 ·obtain ⟨i,hi,h⟩:=aq h;split at h
  ·rename_i K sz j f ha;split at h
   ·rename_i p o hb;rw[bH] at h;split at h
    ·cases h
    ·rename_i hg;cases h;intro hh;have hp:p.1=j*sz+f:=hh.1;exact .un (f:=λH v=>same (oX E H _ v)) (λ_ _ _=>rfl) ha (by simp) λ{F g Y c T H v} r hv=>by
      cases hv;rcases r.cy hb with ⟨_,h,_⟩|⟨_,svs,L,_,hH,_,_,_,_,ho⟩
      ·cases h
      ·obtain ⟨v,v1,v2⟩:=ho p (by simp)
       refine ⟨v,LA hi (ru hH) ?_,v2⟩;unfold ij;rw[bH,aL hg,<-hp];exact v1
   ·cases h
  ·cases h
 ·cases h
def auj (E:Env) (s:LS) (op:Op) (k:Nat) (ob:Prop->cD):Option o8:=
 match op with
 | .indexAddr t a ix=>az (E.ty.get t) λi=>az (qP i.desc) λe=>az (E.ty.get e) λie=>(match dU s.ts a,dU s.ts ix with
  | .ms K sz lo n,.lit (.int _ (.lit m))=>aQ (Nat.beq ie.size sz) (some ⟨[ob (m=(k:Int)/\k<n)],s,.el K sz (Nat.add lo k) 0,[]⟩) none
  |_,_=>none)
 |_=>none
def aCo {op:Op} {ob:Prop->cD} (gQ:∀P,(ob P).need=P) {r:o8} (h:auj E s op k ob=some r):ui E pn op s r:=by
 unfold auj at h;split at h
 ·obtain ⟨i,hi,h⟩:=aq h;obtain ⟨e,he,h⟩:=aq h;obtain ⟨ie,hie,h⟩:=aq h;split at h
  ·rename_i K sz lo n _ m ha yW;obtain ⟨h1,h⟩:=aV h;cases h;obtain rfl:=(beq_iff _ _).1 h1;intro hh;have hm:=hh.1;rw[gQ] at hm;obtain ⟨rfl,hk⟩:=hm;exact .bi (f:=λv u=>az (kX u) λk=>same (oj E _ v k)) (λ_ _ _=>rfl) ha (by simp) yW (by simp) λ{F g v w} hv hw=>by
    cases hw;cases hv with
    |rn=>cases hk
    |xc=>cases hk
    |ms _ _ _ hb=>
    refine ⟨_,aby hi he hie hk,?_⟩;rw[<-gD];exact .el K ie.size (lo+k) 0 hb
  ·cases h
 ·cases h
def Dl (Q:bA) (j f:Nat) (xs:bc):Option bA:=az (Q[j]?) λR=>some (Q.set j (gx R f xs))
def asY (E:Env) (s:LS) (op:Op) (Q':bA) (ob:Prop->cD):Option o8:=
 match op with
 | .store t a c=>bT (E.ty.get t) (BR (dU s.ts c)) λi xs=>(match dU s.ts a with
  | .el K sz j f=>(match lk K s.bs with
   |some (.cy z e Ea l Q o)=>aQ (Nat.beq sz Ea&&(Nat.beq xs.length i.size&&Nat.ble (Nat.add f xs.length) sz)) (some ⟨[ob (Dl Q j f (tZ (l.drop f) xs)=some Q')],s.set K (.cy z e sz l Q' (By (Nat.add (Nat.mul j sz) f) (l.drop f) xs)),.cS [],[K]⟩) none
   |_=>none)
  |_=>none)
 |_=>none
def Vr:∀{l:dX} {ws:aY} {xs:bc} (p:Nat),dA F g ws xs->∀q∈By p l xs,p<=q.1/\∃v,ws[q.1-p]? =some v/\VA F g v q.2
 |_,_,_,_,.nil,_,h=>by cases h
 |l,_,_,p,.cons (v:=v) (vs:=vs) (x:=x) (xs:=xs) h t,q,hq=>by
  have ih:q∈By (Nat.succ p) l.tail xs->p<=q.1/\∃w,(v::vs)[q.1-p]? =some w/\VA F g w q.2:=λhq=>by
   obtain ⟨h1,w,w1,w2⟩:=Vr (p+1) t q hq;exact ⟨by omega,w,by rw[show q.1-p=(q.1-(p+1))+1 by omega];exact w1,w2⟩
  have hq:q∈aQ (sF (xX (l.headD .d) x)) (aQ (sF x) (By (Nat.succ p) l.tail xs) ((p,x)::By (Nat.succ p) l.tail xs)) (By (Nat.succ p) l.tail xs):=hq;rw[bH,bH] at hq;split at hq
  ·split at hq
   ·exact ih hq
   ·rcases cH.1 hq with rfl|hq
    ·exact ⟨dg _,v,by rw[nT];rfl,h⟩
    ·exact ih hq
  ·exact ih hq
def azz {op:Op} {ob:Prop->cD} (gQ:∀P,(ob P).need=P) {r:o8} (h:asY E s op Q' ob=some r):ui E pn op s r:=by
 unfold asY at h;split at h
 ·obtain ⟨i,xs,hi,hx,h⟩:=bp h;split at h
  ·rename_i K sz j f ha;split at h
   ·rename_i z e Ea l Q o hb;obtain ⟨hc,h⟩:=aV h;cases h;simp only[bF] at hc;obtain ⟨h1,h2,h3⟩:=hc;obtain rfl:=(beq_iff _ _).1 h1;have h3:f+xs.length<=sz:=(bV _ _).1 h3;intro hh;have hQ:=hh.1;rw[gQ] at hQ;obtain ⟨R,hj,hQ⟩:=aq hQ;cases hQ;refine .wr hb λ{F g Y c T H} r=> ?_
    obtain ⟨v,v1,v2⟩:=r.val ha (by simp)
    obtain ⟨w,w1,w2⟩:=r.val rfl (CW hx);obtain ⟨ws,u1,u2⟩:=CV hx w2;cases v2;obtain ⟨s8,svs,L,hφ,hH,hu,hc,q,ho,_,hR,hl⟩:=r.row hb hj;obtain ⟨L',hs,q'⟩:=q.spl u2 h3 hu hj;have hle:=Pd (s:=sz) hj;have hwl:=u2.length;refine ⟨.cS [],.cells e svs,.cells e (eK svs (j*sz+f) ws),L,L',hφ,λnew=> ?_,.cS .nil,.cy s8 (λ_ e0=> ?_) (λr hr=> ?_) ?_ ?_ (λp hp=> ?_),hs⟩
    ·show two T _ _ (λa v=>unit (rW E H _ v a))=_
     rw[two,v1,w1];exact Wg hi u1 hH (by rw[hwl,bF];exact ⟨h2,(bV _ _).2 (show j*sz+f+xs.length<=svs.length by omega)⟩)
    ·have:=bN List.length e0;rw[nc] at this;rw[wa.1 this] at hj;cases hj
    ·rcases YU hr with hr|rfl
     ·exact hu r hr
     ·rw[S9 (by rw[<-(ke.aaI (F:=F) u2).length,hwl,hR];exact h3)];exact hR
    ·rw[nc,HK (by omega)];exact hc
    ·rw[nc,afP (by omega) (oA hc)];exact q'
    ·obtain ⟨k1,v,k2,k3⟩:=Vr _ u2 p hp;have k1:j*sz+f<=p.1:=k1;have k2:ws[p.1-(j*sz+f)]? =some v:=k2;have:=(bY.1 k2).1;exact ⟨v,by rw[aoR (by omega),aL (by omega),aH (by omega)];exact k2,k3⟩
   ·cases h
  ·cases h
 ·cases h
end
section
variable {F F':Hf} {g g':Gb} {Y:Nat->Ow} {c:Nat->bP} {s s':LS} {T:Tf} {H:Hf} {E:Env} {pn:Nat->Bool}
def nL (K:Nat) (x:AV):AV:=aQ (lQ K (jJ x)) .undef x
def P9 (K:Nat) (x:AV):K∉jJ (nL K x):=by
 unfold nL;rw[bH];split
 ·exact λhc=>by cases hc
 ·rename_i hx;exact λhc=>hx ((qf _ _).2 hc)
def GP (q:VA F g v x):VA F g v (nL K x):=by
 unfold nL;rw[bH];split
 ·exact .undef v
 ·exact q
def ace {K:Nat}:∀{xs:bc} {vs:aY},dA F g vs xs->dA F g vs (xs.map (nL K))
 |_,_,.nil=>.nil
 |_,_,.cons h t=>.cons (GP h) (ace t)
def GO (K:Nat):∀(l:bc),K∉ky (l.map (nL K))
 | [],hc=>by cases hc
 |x::l,hc=>(eR.1 (show K∈jJ (nL K x)++ky (l.map (nL K)) from hc)).elim (P9 K x) (GO K l)
def Bx.nP (K:Nat):Bx->Bx
 | .flat e cs=>.flat e (cs.map (nL K))
 | .cy z e s l Q o=>.cy z e s l Q (o.map λp=>(p.1,nL K p.2))
 |b=>b
def LS.nP (s:LS) (K:Nat):LS:=⟨s.ts.map λp=>(p.1,nL K p.2),s.bs.map λp=>(p.1,p.2.nP K)⟩
def aro (s:LS) (K:Nat):(s.nP K).free K:=by
 refine ⟨λt x hx=> ?_,λk b cZ hb=> ?_⟩
 ·obtain ⟨y,_,rfl⟩:=v7.1 ((Bn (λ(_:Nat) (x:AV)=>nL K x) t s.ts).symm.trans hx)
  exact P9 K y
 ·obtain ⟨y,_,rfl⟩:=v7.1 ((Bn (λ(_:Nat) (b:Bx)=>b.nP K) k s.bs).symm.trans hb)
  cases y with
  |flat e cs=>exact GO K cs
  |cy z e s l Q o=>
   show K∉ky ((o.map λp=>(p.1,nL K p.2)).map (·.2))
   rw[DR,show ((λp:Nat×AV=>p.2) ∘ λp:Nat×AV=>(p.1,nL K p.2))=nL K ∘ (·.2) from rfl,<-DR]
   exact GO K _
  |_=>exact λhc=>by cases hc
def eH.nP (K:Nat) (q:eH F g k b L):eH F g k (b.nP K) L:=by
 cases q with
 |flat q=>exact .flat (ace q)
 |nil hb=>exact .nil hb
 |cy hb hz hu hc q ho=>
  refine .cy hb hz hu hc q λp hp=> ?_
  obtain ⟨p0,hp0,rfl⟩:=cO.1 hp;obtain ⟨v,v1,v2⟩:=ho p0 hp0;exact ⟨v,v1,GP v2⟩
 |map hk hv=>exact .map hk hv
 |iter=>exact .iter
def Rel.nP (r:Rel F g Y c s T H) (K:Nat):Rel F g Y c (s.nP K) T H:=r.akm (ft:=λ_=>nL K) (fb:=λ_ b=>b.nP K) r.fr (λ_=>by unfold nL;rw[bH];split<;>rfl) (λ_ _ _ _=>GP) λ_ _ _ _ q=>q.nP K
structure Srx where
 Ep:List cD
 R:bA
 o:Nat->fA
def XT (s:LS) (sz:Nat) (l:dX) (y:AV) (R:bA) (o:Nat->fA):Prop:=y≠ .undef/\∀{F:Hf} {g:Gb} {Y:Nat->Ow} {c:Nat->bP} {T:Tf} {H:Hf} {v:SV},Rel F g Y c s T H->VA F g v y->
 ∃xs,u9 H sz v=some (R.length,xs)/\TR F l xs R []/\(∀r∈R,r.length=sz)/\∀n,∀q∈o n,n<=q.1/\∃v,xs[q.1-n]? =some v/\VA F g v q.2
def Zd {sz id:Nat} {cp:Cp} (hh:je (H id) off (n*sz)=some (e,svs)) (hl:off+n*sz<=svs.length):u9 H sz (.sl id off n cp)=some (n,(svs.drop off).take (n*sz)):=by
 show A5 H sz (.sl id off n cp)=_;unfold A5;refine G4 (a:=n) rfl (b:=((svs.drop off).take (n*sz))) ?_;show mj H id off (Nat.mul n sz)=_;unfold mj;rw[show je (H id) off (Nat.mul n sz)=some (e,svs) from hh];show aQ (Nat.ble (Nat.add off (Nat.mul n sz)) svs.length) (some ((svs.drop off).take (n*sz))) none=_;rw[show Nat.ble (Nat.add off (Nat.mul n sz)) svs.length=true from (bV _ _).2 hl]
def ke.dat:∀{vs xs L},ke F [] vs xs L->dA F lA vs xs
 |_,_,_,.nil=>.nil
 |_,_,_,.cons (v:=v) q t=>.cons (match q with| .d q=>q| .any _=>.undef v) (ke.dat t)
def TR.dat:∀{vs Q L},TR F [] vs Q L->dA F lA vs Q.flatten
 |_,_,_,.nil=>.nil
 |_,_,_,.cons q t=>by rw[qF];exact q.dat.append t.dat
def A4 {sz:Nat} (hv:v= .dE\/v= .sle):∃xs,u9 H sz v=some (([]:bA).length,xs)/\TR F l xs [] []/\(∀r∈([]:bA),r.length=sz)/\∀n,∀q∈(λ_=> []:Nat->fA) n,n<=q.1/\∃v,xs[q.1-n]? =some v/\VA F g v q.2:=
 ⟨[],by rcases hv with rfl|rfl<;>rfl,.nil,λ_ hr=>(by cases hr),λ_ _ hq=>by cases hq⟩
def atk {m e sz:Nat}:XT s sz [] (.sl m e sz n R) R (λ_=> []):=⟨by simp,λr hv=>by
 cases hv with
 |nil=>exact A4 (.inl rfl)
 |sle=>exact A4 (.inr rfl)
 |sl hn hF hc hm hu hl q=>subst hn;exact ⟨_,Zd (yv (λi o h=>(r.fr i o h).1) hF) hl,.uI hu q,hu,λ_ _ hq=>by cases hq⟩⟩
def aBJ {sz lo:Nat} (hb:lk K s.bs=some (.cy z e sz [] Q o)) (hR:(Q.drop lo).take n=R) (hn:lo+n<=Q.length):XT s sz [] (.ms K sz lo n) R (λ_=> []):=⟨by simp,λ{F g Y c T H v} r hv=>by
 subst hR;have axi:∀{n},n=0->(Q.drop lo).take n= []:=λe=>by rw[e,DY]
 cases hv with
 |rn=>rw[axi rfl];exact A4 (.inl rfl)
 |xc=>rw[axi rfl];exact A4 (.inr rfl)
 |ms _ _ _ o7=>
  rcases r.cy hb with ⟨_,_,h,_⟩|⟨_,svs,L,_,hH,_,hu,hc,q,_⟩
  ·rw[h] at o7;cases o7
  ·have hl:=oA hc;have hle:lo*sz+n*sz<=Q.length*sz:=by rw[<-gD];exact kK _ hn
   have hlen:((Q.drop lo).take n).length=n:=by rw[dR,iX];omega
   have jL:∀r∈(Q.drop lo).take n,r.length=sz:=λr hr=>hu r (oE (qG hr))
   refine ⟨_,by rw[hlen];exact Zd (ru hH) (by omega),.uI jL ?_,jL,λ_ _ hq=>by cases hq⟩
   have:=(q.dat.drop (lo*sz)).take (n*sz);rwa[tS,oD,fB (by omega),<-ach hu] at this⟩
def atj {sz:Nat} (hb:lk K s.bs=some (.flat e cs)) (hl:cs.length=sz):XT s sz l (.ms K sz 0 1) [tZ l cs] (λn=>By n l cs):=⟨by simp,λ{F g Y c T H v} r hv=>by
 cases hv with
 |ms _ _ _ o7=>
 obtain ⟨svs,_,q,hH⟩:=r.flat hb;have EG:svs.length=sz:=by rw[q.length,hl]
 refine ⟨svs,?_,by simpa using TR.cons (ke.aaI (l:=l) q) .nil,λr hr=> ?_,λn=>Vr n q⟩
 ·rw[Zd (ru hH) (by omega),lV,rR,kq (by omega)];rfl
 ·rw[ez.1 hr,<-(ke.aaI (F:=F) (l:=l) q).length,EG]⟩
def atl (s:LS) (sz:Nat) (l:dX) (y:AV) (A:bA->Prop) (R:bA) (ob:Prop->cD):Option Srx:=
 match y with
 | .lit .dE=>some ⟨[ob (A [])],[],λ_=> []⟩
 | .sl _ _ Ea _ Q=>aQ (Nat.beq Ea sz&&l.isEmpty) (some ⟨[ob (A Q)],Q,λ_=> []⟩) none
 | .ms K Ea lo n=>
  (match lk K s.bs with
  |some (.cy _ _ sz'' [] Q _)=>aQ (Nat.beq Ea sz&&(Nat.beq sz'' sz&&l.isEmpty)) (some ⟨[ob (A R/\(Q.drop lo).take n=R/\lo+n<=Q.length)],R,λ_=> []⟩) none
  |some (.flat _ cs)=>aQ (Nat.beq Ea sz&&(Nat.beq cs.length sz&&(Nat.beq lo 0&&Nat.beq n 1))) (some ⟨[ob (A [tZ l cs])],[tZ l cs],λn=>By n l cs⟩) none
  |_=>none)
 |_=>none
def aBK {sz:Nat} {ob:Prop->cD} (gQ:∀P,(ob P).need=P) {q:Srx} (h:atl s sz l y A R ob=some q) (hh:iF q.Ep):A q.R/\XT s sz l y q.R q.o:=by
 unfold atl at h;split at h
 ·cases h;have h1:=hh.1;rw[gQ] at h1;exact ⟨h1,by simp,λr hv=>by cases hv;exact A4 (.inl rfl)⟩
 ·obtain ⟨h1,h⟩:=aV h;cases h;rw[bF] at h1;have h2:=hh.1;rw[gQ] at h2;obtain rfl:=(beq_iff _ _).1 h1.1;obtain rfl:l= []:=by simpa using h1.2
  exact ⟨h2,atk⟩
 ·split at h
  ·rename_i hb;obtain ⟨h1,h⟩:=aV h;cases h;simp only[bF] at h1;have h2:=hh.1;rw[gQ] at h2;obtain rfl:=(beq_iff _ _).1 h1.1;obtain rfl:=(beq_iff _ _).1 h1.2.1;obtain rfl:l= []:=by simpa using h1.2.2
   exact ⟨h2.1,aBJ hb h2.2.1 h2.2.2⟩
  ·rename_i hb;obtain ⟨h1,h⟩:=aV h;cases h;simp only[bF] at h1;have h2:=hh.1;rw[gQ] at h2;obtain rfl:=(beq_iff _ _).1 h1.1;obtain rfl:=(beq_iff _ _).1 h1.2.2.1;obtain rfl:=(beq_iff _ _).1 h1.2.2.2;exact ⟨h2,atj hb ((beq_iff _ _).1 h1.2.1)⟩
  ·cases h
 ·cases h
structure V8 (w:Bool) (Q:bA) (n:Nat) (Q':bA) (n':Nat) (R:bA):Prop where
 hw:w=true->n=Q.length
 hn:n<=Q.length
 n6:n<=1000000
 r6:R.length<=1000000
 eq:Q.take n++R=Q'
 len:Q'.length=n'
def asb {m:Nat} {xs:aY} {ie:TI} (hi:E.ty.get t=some i) (hd:qP i.desc=some e) (he:E.ty.get e=some ie) (js:pT ie=true) (hw:u9 H ie.size w=some (m,xs)) (hm:m<=1000000):
  nN E H new t v w=aQ (Nat.beq m 0) (aQ (Vj v) (some (v,[])) none) (vi v H new e ie.size m xs):=by
 unfold nN;rw[j6 hi,j6 hd];unfold VE;rw[j6 he,js];show az (u9 H ie.size w) (λq=>aQ (Nat.ble q.1 1000000) (aQ (Nat.beq q.1 0) (aQ (Vj v) (some (v,[])) none) (vi v H new e ie.size q.1 q.2)) none)=_
 rw[j6 hw];show aQ (Nat.ble m 1000000) _ none=_;rw[(bV _ _).2 hm]
def aml (r:Rel F g Y c s T H) (hn:H new=none) {z':Bool} {ie:TI} {xs:aY} (hi:E.ty.get t=some i) (hd:qP i.desc=some e) (he:E.ty.get e=some ie) (js:pT ie=true) (hv:VA F g v (.ms K ie.size 0 n)) (hw:u9 H ie.size w=some (R.length,xs)) (hx:TR F l xs R []) (hu:∀x∈R,x.length=ie.size) (hoR:∀n,∀q∈oR n,n<=q.1/\∃v,xs[q.1-n]? =some v/\VA F g v q.2) (hko:K∉ky ((oR (n*ie.size)).map (·.2))) (hq:n<=Q.length) (xh:n<=1000000) (hR:R.length<=1000000) (hz':z'=true->z=true/\n=Q.length) (hb:lk K s.bs=some (.cy z e ie.size l Q o)):
  ∃v' us gk L',nN E H new t v w=some (v',us)/\VA F (lT g K gk) v' (.ms K ie.size 0 (Q.take n++R).length)/\eH F (lT g K gk) K (.cy z' e ie.size l (Q.take n++R) (oR (n*ie.size))) L'/\(L'.map (·.1)).Nodup/\(∀p∈L',gz H us p.1=some p.2/\(c p.1=some K\/H p.1=none))/\(∀u∈us,u.1=new\/c u.1=some K)/\(gz H us new=none\/new∈L'.map (·.1)):=by
 have hlen:(Q.take n++R).length=n+R.length:=by rw[gO,dR];omega
 have cX:xs.length=R.length*ie.size:=hx.length hu;have same:lT g K (g K)=g:=funext λk=>by unfold lT;split<;>simp_all
 have EG:Vj v=true:=by cases hv<;>rfl
 obtain ⟨_,nd,own⟩:=r.bx K _ hb;rw[asb hi hd he js hw hR];have hho:∀{gk:GK} {old tl:aY},old.length=n*ie.size->HoA F (lT g K gk) (old++xs++tl) (oR (n*ie.size)):=λ{gk old tl} ho p hp=>by
  obtain ⟨h1,v,v1,v2⟩:=hoR _ p hp;have:=(bY.1 v1).1;refine ⟨v,?_,v2.same (.refl F) λk hk=>show lT g K gk k=g k from aL λ(ek:k=K)=>hko (ek ▸ Ag (cO.2 ⟨p,hp,rfl⟩) k hk)⟩
  rw[nR (by rw[gO];omega),nf (by omega),ho]
  exact v1
 by_cases hR0:R.length=0
 ·obtain rfl:R= []:=wa.1 hR0;have fV:oR (n*ie.size)= []:=S2.2 λp hp=>by
   obtain ⟨_,v,v1,_⟩:=hoR _ p hp;rw[wa.1 (show xs.length=0 by rw[cX];exact lV _)] at v1
   cases v1
  rw[tN,fV,dR,fB hq];have go:∀L',eH F g K (.cy z' e ie.size l (Q.take n) []) L'->L'.Sublist (Y K)->∃v' us gk L',aQ (Nat.beq ([]:bA).length 0) (aQ (Vj v) (some (v,[])) none) (vi v H new e ie.size ([]:bA).length xs)=some (v',us)/\VA F (lT g K gk) v' (.ms K ie.size 0 n)/\eH F (lT g K gk) K (.cy z' e ie.size l (Q.take n) []) L'/\(L'.map (·.1)).Nodup/\(∀p∈L',gz H us p.1=some p.2/\(c p.1=some K\/H p.1=none))/\(∀u∈us,u.1=new\/c u.1=some K)/\(gz H us new=none\/new∈L'.map (·.1)):=λL' mU hs=>
   ⟨v,[],g K,L',by rw[EG];rfl,by rw[same];exact hv,by rw[same];exact mU,(hs.map _).nodup nd,λp hp=>⟨(own p (hs.subset hp)).1,.inl (own p (hs.subset hp)).2⟩,λ_ hu=>(by cases hu),.inl hn⟩
  rcases r.cy hb with ⟨rfl,_,hbf,hφ⟩|⟨s8,svs,L,hφ,hH,hz,sd,hc,q,_⟩
  ·exact go [] (by simpa using .nil hbf) (Oy _)
  ·obtain ⟨L',hs,q'⟩:=q.take n sd;have hle:=kK ie.size hq;rw[oD,fB hle] at q';refine go _ (.cy s8 (λe0=> ?_) (λr hr=>sd r (qG hr)) ?_ ?_ λp hp=>by cases hp) (hφ ▸ hs.cons_cons _)
   ·rw[(hz' e0).2,xx];exact hz (hz' e0).1
   ·rw[dR,fB hq];cases hκ:(g K).c with
    |k m=>rw[hκ] at hc;exact ⟨jj hq hc.1,hc.2⟩
    |u e'=>rw[hκ] at hc;exact ⟨hc.1,jj hle hc.2⟩
   ·rw[dR,fB hq];exact q'
 rw[show Nat.beq R.length 0=false from by
  cases hx:Nat.beq R.length 0 with
  |false=>rfl
  |true=>exact absurd ((beq_iff _ _).1 hx) hR0]
 show ∃v' us gk L',vi v H new e ie.size R.length xs=some (v',us)/\_;have cZ:Q.take n++R≠ []:=λhc=>hR0 (by rw[(SX.1 hc).2];rfl)
 have fresh:∀{us:dQ} {old:aY} {L0:Ow},TR F l old (Q.take n) L0->old.length=n*ie.size->(∀r∈Q.take n,r.length=ie.size)->L0.Sublist (Y K)->gz H us new=some (.cells e (old++xs))->(∀p∈L0,gz H us p.1=H p.1)->(∀u∈us,u.1=new\/c u.1=some K)->vi v H new e ie.size R.length xs=some (.sl new 0 (Nat.add n R.length) (.u e),us)->
   ∃v' us gk L',vi v H new e ie.size R.length xs=some (v',us)/\VA F (lT g K gk) v' (.ms K ie.size 0 (Q.take n++R).length)/\eH F (lT g K gk) K (.cy z' e ie.size l (Q.take n++R) (oR (n*ie.size))) L'/\(L'.map (·.1)).Nodup/\(∀p∈L',gz H us p.1=some p.2/\(c p.1=some K\/H p.1=none))/\(∀u∈us,u.1=new\/c u.1=some K)/\(gz H us new=none\/new∈L'.map (·.1)):=λ{us old L0} q ho sd hs l9 hL jL qt=>by
  have eg:lT g K ⟨new,.u e,true⟩ K=⟨new,.u e,true⟩:=aH rfl;have hl:(old++xs).length=(Q.take n++R).length*ie.size:=by rw[gO,ho,cX,hlen,gD]
  refine ⟨_,us,⟨new,.u e,true⟩,(new,.cells e (old++xs))::L0,qt,by rw[hlen];exact rn eg,?_,?_,λp hp=> ?_,jL,.inr (by simp)⟩
  ·have:=eH.cy (F:=F) (g:=lT g K ⟨new,.u e,true⟩) (K:=K) (z:=z') (e:=e) (s:=ie.size) (l:=l) (Q:=Q.take n++R) (o:=oR (n*ie.size)) (svs:=old++xs) (L:=L0) (by rw[eg]) (λ_=>cZ) (λx hx=>(eR.1 hx).elim (sd x) (hu x)) (by rw[eg];exact ⟨rfl,by rw[hl];exact dg _⟩) (by rw[<-hl,xx];simpa using q.append hx) (by simpa using hho (tl:= []) ho)
   rwa[eg] at this
  ·rw[jc,px];refine ⟨λhm=> ?_,(hs.map _).nodup nd⟩
   obtain ⟨p,hp,e0⟩:=cO.1 hm;have:=(own p (hs.subset hp)).1;rw[show p.1=new from e0,hn] at this;cases this
  ·rcases cH.1 hp with rfl|hp
   ·exact ⟨l9,.inr hn⟩
   ·exact ⟨(hL p hp).trans (own p (hs.subset hp)).1,.inl (own p (hs.subset hp)).2⟩
 have one:∀{x:SO} {i:Nat},gz H [(new,some x)] i=if i=new then some x else H i:=λ{x i}=>rfl
 rcases r.cy hb with ⟨rfl,_,hbf,hφ⟩|⟨s8,svs,L,hφ,hH,hz,sd,hc,q,_⟩
 ·have HS:v= .dE:=by
   cases hv with
   |rn=>rfl
   |xc _ _ h0=>cases h0
   |ms _ _ _ o7=>rw[hbf] at o7;cases o7
  subst HS;obtain rfl:n=0:=DX.1 hq;exact fresh (us:= [(new,some (.cells e xs))]) (old:= []) (L0:= []) (by simpa using .nil) (by simp) (λr hr=>by simp at hr) (Oy _) (by rw[one,aH rfl];rfl) (λp hp=>by cases hp) (λu hu=>.inl (by rw[ez.1 hu])) (by rw[show Nat.add 0 R.length=R.length from cA _];rfl)
 ·have wB:v= .sl (g K).n 0 n (g K).c:=by
   cases hv with
   |rn s o7=>rw[s8] at o7;cases o7
   |xc _ _ h0=>cases h0
   |ms=>rw[lV];cases (g K).c<;>rfl
  have hl:=oA hc;have hle:=kK ie.size hq;have ho:(svs.take (n*ie.size)).length=n*ie.size:=by rw[dR];omega
  obtain ⟨L0,hs,q'⟩:=q.take n sd;rw[oD,fB hle] at q';have hut:∀r∈Q.take n,r.length=ie.size:=λr hr=>sd r (qG hr)
  have hsK:L0.Sublist (Y K):=hφ ▸ hs.trans (List.sublist_cons_self _ _);rw[hφ] at nd own;have alj:∀p∈L0,p.1≠(g K).n/\p.1≠new:=λp hp=>⟨λe0=>(px.1 nd).1 (e0 ▸ cO.2 ⟨p,hs.subset hp,rfl⟩),λe0=>by
   have:=(own p (fO _ (hs.subset hp))).1;rw[e0,hn] at this;cases this⟩
  have hcK:=(own _ jt).2;have hold:mj H (g K).n 0 (Nat.mul n ie.size)=some (svs.take (n*ie.size)):=by
   unfold mj;rw[hH];show aQ (Nat.ble (Nat.add 0 (Nat.mul n ie.size)) svs.length) (some ((svs.drop 0).take (n*ie.size))) none=_;rw[(bV _ _).2 (show Nat.add 0 (Nat.mul n ie.size)<=svs.length by rw[show Nat.add 0 (Nat.mul n ie.size)=n*ie.size from cA _];omega)]
   rfl
  have hto:vi v H new e ie.size R.length xs=Qy new e ie.size (g K).n 0 n (g K).c R.length xs (e,svs) (svs.take (n*ie.size)):=by
   rw[wB];show L9 H new e ie.size R.length xs (g K).n 0 n (g K).c=_;unfold L9;rw[(bV _ _).2 xh];show aQ (XF n R.length (g K).c) _ _=_;rw[bH];split
   ·rename_i Jl;rw[j6 hold];cases hκ:(g K).c with
    |u e'=>rw[hκ] at Jl;cases Jl
    |k m=>
     rw[hκ] at Jl;have Jl:m<n+R.length:=(bV _ _).1 Jl;show _=aQ (Nat.ble (Nat.add n R.length) m) _ _;rw[show Nat.ble (Nat.add n R.length) m=false from by
      cases hx:Nat.ble (Nat.add n R.length) m with
      |false=>rfl
      |true=>exact absurd ((bV _ _).1 hx) (by show ¬n+R.length<=m;omega)]
   ·exact G4 (by rw[hH];rfl) hold
  cases hκ:(g K).c with
  |u e'=>
   rw[hκ] at hc hto;obtain ⟨rfl,EK⟩:=hc;refine fresh (us:= [((g K).n,none),(new,some (.cells e' (svs.take (n*ie.size)++xs)))]) q' ho hut hsK ?_ (λp hp=> ?_) (λu hu=> ?_) ?_
   ·show jo (jo H _) _ new=_;exact aH rfl
   ·show jo (jo H _) _ p.1=_;exact (aL (alj p hp).2).trans (aL (alj p hp).1)
   ·rcases cH.1 hu with rfl|hu
    ·exact .inr hcK
    ·exact .inl (by rw[ez.1 hu])
   ·rw[hto];show aQ (Nat.ble (Nat.add 0 (Nat.mul n ie.size)) svs.length&&Nat.beq e' e') _ none=_;rw[(bV _ _).2 (show Nat.add 0 (Nat.mul n ie.size)<=svs.length by rw[show Nat.add 0 (Nat.mul n ie.size)=n*ie.size from cA _];omega),(beq_iff e' e').2 rfl]
    rfl
  |k m=>
   rw[hκ] at hc hto;obtain ⟨sY,Jr⟩:=hc;have e1:Qy new e ie.size (g K).n 0 n (.k m) R.length xs (e,svs) (svs.take (n*ie.size))=aQ (Nat.ble (Nat.add n R.length) m) (aQ (Nat.ble (Nat.add 0 (Nat.mul (Nat.add n R.length) ie.size)) svs.length) (some (.sl (g K).n 0 (Nat.add n R.length) (.k m),[((g K).n,some (.cells e (eK svs (Nat.add 0 (Nat.mul n ie.size)) xs)))])) none) (wv new e (Nat.add n R.length) (svs.take (n*ie.size)++xs) []):=rfl;rw[e1] at hto;cases my:Nat.ble (Nat.add n R.length) m with
   |false=>
    refine fresh (us:= [(new,some (.cells e (svs.take (n*ie.size)++xs)))]) q' ho hut hsK (by rw[one,aH rfl]) (λp hp=>by rw[one,aL (alj p hp).2]) (λu hu=>.inl (by rw[ez.1 hu])) (by rw[hto,my];rfl)
   |true=>
    have hm:n+R.length<=m:=(bV _ _).1 my;have aya:(n+R.length)*ie.size<=svs.length:=by rw[Jr];exact kK _ hm
    have hz0:Nat.add 0 (Nat.mul n ie.size)=n*ie.size:=cA _;have hl3:(svs.take (n*ie.size)++xs).length=(Q.take n++R).length*ie.size:=by rw[gO,ho,cX,hlen,gD]
    rw[my,(bV _ _).2 (show Nat.add 0 (Nat.mul (Nat.add n R.length) ie.size)<=svs.length by rw[show Nat.add 0 (Nat.mul (Nat.add n R.length) ie.size)=(n+R.length)*ie.size from cA _];exact aya),hz0] at hto
    refine ⟨_,_,g K,((g K).n,.cells e (eK svs (n*ie.size) xs))::L0,hto,?_,?_,?_,λp hp=> ?_,λu hu=>.inr (by rw[ez.1 hu];exact hcK),.inl ?_⟩
    ·rw[same,hlen];have:=VA.ms (F:=F) (g:=g) (K:=K) ie.size 0 (n+R.length) s8;rw[lV,hκ] at this;exact this
    ·have key:=eH.cy (F:=F) (g:=lT g K (g K)) (K:=K) (z:=z') (e:=e) (s:=ie.size) (l:=l) (Q:=Q.take n++R) (o:=oR (n*ie.size)) (svs:=eK svs (n*ie.size) xs) (L:=L0) (by rw[same];exact s8) (λ_=>cZ) (λx hx=>(eR.1 hx).elim (hut x) (hu x)) (by rw[same,hκ,hlen,HK (by rw[cX,<-gD];exact aya)];exact ⟨hm,Jr⟩) (by
      rw[<-hl3,show (eK svs (n*ie.size) xs)=svs.take (n*ie.size)++xs++svs.drop (n*ie.size+xs.length) from rfl,YR];simpa using q'.append hx) (hho ho)
     rwa[same] at key ⊢
    ·exact px.2 ⟨λhm=>(px.1 nd).1 ((hs.map _).subset hm),(hs.map _).nodup (px.1 nd).2⟩
    ·rcases cH.1 hp with rfl|hp
     ·exact ⟨aH rfl,.inl hcK⟩
     ·have:=own p (fO _ (hs.subset hp));exact ⟨(aL (alj p hp).1).trans this.1,.inl this.2⟩
    ·exact (aL λ(e0:new=(g K).n)=>by rw[e0,hH] at hn;cases hn).trans hn
def asW (b:Builtin) (op:Op):Option ((Operand×Operand)×TypeId×TypeId):=
 match op with
 | .call c=>(match c.callee with
  | .builtin b'=>aQ (decide (b'=b)) (match c.args.toList,c.argTypes.toList with
   | [a,y],[t1,t2]=>some ((a,y),t1,t2)
   |_,_=>none) none
  |_=>none)
 |_=>none
def aog {b:Builtin} {op:Op} (h:asW b op=some q):∃c,op= .call c/\c.callee= .builtin b/\c.args.toList= [q.1.1,q.1.2]/\c.argTypes.toList= [q.2.1,q.2.2]:=by
 unfold asW at h;split at h
 ·rename_i c;split at h
  ·rename_i b' hc;obtain ⟨h1,h2⟩:=aV h;clear h;have e:b'=b:=by simpa using h1
   split at h2
   ·rename_i ha ht;cases h2;exact ⟨c,rfl,by rw[hc,e],ha,ht⟩
   ·cases h2
  ·cases h
 ·cases h
def avt (s:LS) (y:AV) (d:bP):Option ((Nat×Nat)×Nat):=
 match y with
 | .ms K sz 0 n=>some ((K,n),sz)
 | .lit .dE=>az d λK=>(match lk K s.bs with
  |some (.cy true _ sz _ [] _)=>some ((K,0),sz)
  |_=>none)
 |_=>none
def aCs {q:(Nat×Nat)×Nat} (h:avt s y d=some q):y≠ .undef/\∀{F:Hf} {g:Gb} {Y:Nat->Ow} {c:Nat->bP} {T:Tf} {H:Hf} {v:SV},Rel F g Y c s T H->VA F g v y->VA F g v (.ms q.1.1 q.2 0 q.1.2):=by
 unfold avt at h;split at h
 ·cases h;exact ⟨by simp,λ_ hv=>hv⟩
 ·obtain ⟨K,_,h⟩:=aq h;split at h
  ·rename_i hb;cases h;refine ⟨by simp,λr hv=> ?_⟩
   cases hv;rcases r.cy hb with ⟨_,_,hbf,_⟩|⟨_,_,_,_,_,hz,_⟩
   ·exact .rn _ hbf
   ·exact absurd rfl (hz rfl)
  ·cases h
 ·cases h
def avP (E:Env) (pn:Nat->Bool) (s:LS) (d:bP) (op:Op) (w:Bool) (A:bA->Nat->bA->Prop) (fQ:bA->bA->bA) (fn:Nat->Nat) (jD:bA->Bool) (R:bA) (ob:Prop->cD):Option o8:=
 az (asW .append op) λq=>bT (Qk E q.2.1) (E.ty.get q.2.2) λp i2=>az (avt s (dU s.ts q.1.1) d) λk=>(match lk k.1.1 s.bs with
  |some (.cy z e sz l Q _)=>az (atl s p.2.size l (dU s.ts q.1.2) (A Q k.1.2) R ob) λsc=>
   aQ ((pT p.2&&(II i2.desc&&jD sc.R))&&((Nat.beq k.2 p.2.size&&(Nat.beq sz p.2.size&&Nat.beq e p.1))&&(!pn k.1.1 && !lQ k.1.1 (ky ((sc.o (Nat.mul k.1.2 p.2.size)).map (·.2))))))
    (some ⟨sc.Ep,(s.nP k.1.1).set k.1.1 (.cy (w&&z) e sz l (fQ Q sc.R) (sc.o (Nat.mul k.1.2 p.2.size))),.ms k.1.1 sz 0 (fn k.1.2),[k.1.1]⟩) none
  |_=>none)
def aiJ {op:Op} {w:Bool} {A:bA->Nat->bA->Prop} {jD:bA->Bool} {ob:Prop->cD} (hAP:∀Q n R,A Q n R->jD R=true->V8 w Q n (fQ Q R) (fn n) R) (gQ:∀P,(ob P).need=P) {r:o8} (h:avP E pn s d op w A fQ fn jD R ob=some r):ui E pn op s r:=by
 obtain ⟨⟨⟨a,y⟩,t1,t2⟩,h1,h0⟩:=aq h;clear h;obtain ⟨cl,rfl,sY,Jr,hc3⟩:=aog h1;obtain ⟨p,i2,h2,h3,h⟩:=bp h0;clear h0;obtain ⟨⟨⟨K,n⟩,sz0⟩,h4,h⟩:=aq h;dsimp only at h;split at h
 ·rename_i z e sz l Q o hb;obtain ⟨sc,h5,h⟩:=aq h;obtain ⟨h6,h⟩:=aV h;cases h;simp only[bF] at h6;obtain ⟨⟨k1,k2,k8⟩,⟨k3,k4,k5⟩,k6,k7⟩:=h6;intro hh;obtain ⟨hA0,hS⟩:=aBK gQ h5 hh;have hA:=hAP _ _ _ hA0 k8;obtain ⟨d1,d2⟩:=aCs h4;obtain rfl:=(beq_iff _ _).1 k3;obtain rfl:=(beq_iff _ _).1 k4;obtain rfl:=(beq_iff _ _).1 k5;obtain ⟨i,hi,he,hie⟩:=Ap h2;rw[<-hA.len,<-hA.eq];refine .boxG (λr=>r.nP K) λ{F g Y c T H new} r hn=> ?_
  obtain ⟨v,v1,v2⟩:=r.val rfl d1;obtain ⟨x,w1,w2⟩:=r.val rfl hS.1;obtain ⟨xs,x1,x2,x3,x4⟩:=hS.2 r w2;obtain ⟨v',us,gk,L',u1,u2,u3,u4,u5,u6,u7⟩:=aml (z':=w&&z) r hn hi he hie k1 (d2 r v2) x1 x2 x3 x4 ((λhm=>Ly (by simpa using k7) K hm rfl)) hA.hn hA.n6 hA.r6 (λhz=>by rw[bF] at hz;exact ⟨hz.2,hA.hw hz.1⟩) hb
  refine ⟨v',us,gk,L',?_,u2,u3,u4,u5,u6,.inr ⟨by simpa using k6,aro s K⟩,u7⟩
  show rY E T H new cl=_;unfold rY;rw[sY];show az (fT T cl.args.toList) (λaa=>rm E H new .append aa cl.argTypes.toList)=_
  rw[Jr,hc3];have e1:fT T [a,y]=some [v,x]:=by
   show bT (cE T a) (bT (cE T y) (some []) λv l=>some (v::l)) (λv l=>some (v::l))=_
   rw[v1,w1];rfl
  rw[e1];show az (E.ty.get t2) (λi=>aQ (II i.desc) (nN E H new t1 v x) none)=_
  rw[j6 h3,k2];exact u1
 ·cases h
def appI (E:Env) (pn:Nat->Bool) (s:LS) (d:bP) (op:Op) (w:Bool) (R Q':bA) (n':Nat) (ob:Prop->cD):Option o8:=avP E pn s d op w (λQ n R=>V8 w Q n Q' n' R) (λ_ _=>Q') (λ_=>n') (λ_=>true) R ob
def TapP (Q:bA) (n:Nat):Prop:=n=Q.length/\n<=1000000
def tapI (E:Env) (pn:Nat->Bool) (s:LS) (d:bP) (op:Op) (ob:Prop->cD):Option o8:=avP E pn s d op true (λQ n _=>TapP Q n) (λQ R=>Q++R) Nat.succ (λR=>Nat.beq R.length 1) [] ob
def aCJ {op:Op} {w:Bool} {ob:Prop->cD} (gQ:∀P,(ob P).need=P) {r:o8} (h:appI E pn s d op w R Q' n' ob=some r):ui E pn op s r:=aiJ (λ_ _ _ h _=>h) gQ h
def azy {op:Op} {ob:Prop->cD} (gQ:∀P,(ob P).need=P) {r:o8} (h:tapI E pn s d op ob=some r):ui E pn op s r:=aiJ (λQ n R h hc=>by
 obtain ⟨rfl,h6⟩:=h;have hc:R.length=1:=(beq_iff _ _).1 hc;exact ⟨λ_=>rfl,dg _,h6,by omega,by rw[xx],by rw[gO,hc]⟩) gQ h
end
section
variable {F F':Hf} {g g':Gb} {Y:Nat->Ow} {c:Nat->bP} {s s':LS} {T:Tf} {H:Hf} {E:Env} {pn:Nat->Bool}
def cvS (m e s:Nat) (x:AV):AV:=
 match x with
 | .lit .dE=>.sl m e s 0 []
 | .sl m' e' s' n Q=>.sl (aQ (Nat.beq m 2||(Nat.beq m 0&&Nat.beq m' 1)) m m') e' s' n Q
 |x=>x
def aFu {m e sz:Nat} (q:VA F g v x):VA F g v (cvS m e sz x):=by
 unfold cvS;split
 ·cases q;exact .nil _ _ _
 ·rw[bH];split
  ·rename_i h;have hm:m=2\/m=0:=by
    rw[pE,bF] at h;exact h.imp (beq_iff _ _).1 λh=>(beq_iff _ _).1 h.1
   cases q with
   |nil=>exact .nil _ _ _
   |sle=>
    rcases hm with rfl|rfl
    ·exact .sle _ _
    ·cases h
   |sl hn hF hc _ hu hl q=>exact .sl hn hF hc (λe=>by omega) hu hl q
  ·exact q
 ·exact q
def cvG (k:bc->bc) (x:AV):AV:=
 match x with
 | .agg cs=>.agg (k cs)
 | .lit (.agg vs)=>.agg (k (wy vs))
 | .cS cs=>.cS (k cs)
 |x=>x
def arE {k:bc->bc} (hk:∀{vs xs},dA F g vs xs->dA F g vs (k xs)) (q:VA F g v x):VA F g v (cvG k x):=by
 unfold cvG;split
 ·cases q with|agg h=>exact .agg (hk h)
 ·cases q;exact .agg (hk sE)
 ·cases q with|cS h=>exact .cS (hk h)
 ·exact q
mutual
def cv:AV->AV->AV
 | .sl m e s _ _,x=>cvS m e s x
 | .agg ws,x=>cvG (λxs=>JL ws xs) x
 | .cS ws,x=>cvG (λxs=>JL ws xs) x
 | .undef,_=>.undef
 |_,x=>x
def JL:bc->bc->bc
 |w::ws,x::xs=>cv w x::JL ws xs
 |_,xs=>xs
end
mutual
def CS:∀{w x:AV} {v:SV},VA F g v x->VA F g v (cv w x)
 | .sl m e s _ _,_,_,q=>aFu q
 | .agg ws,x,v,q=>arE (λq=>EY q) q
 | .cS ws,x,v,q=>arE (λq=>EY q) q
 | .undef,_,v,_=>.undef v
 | .lit _,_,_,q| .jx _,_,_,q| .fn _ _ _,_,_,q| .el _ _ _ _,_,_,q| .ms _ _ _ _,_,_,q| .mp _,_,_,q| .it _,_,_,q=>q
def EY:∀{ws xs:bc} {vs:aY},dA F g vs xs->dA F g vs (JL ws xs)
 | [],_,_,q=>q
 |_::_,_,_,.nil=>.nil
 |_::_,_,_,.cons h t=>.cons (CS h) (EY t)
end
def cvO:fA->fA->fA
 |w::ws,p::o=>(p.1,cv w.2 p.2)::cvO ws o
 |_,o=>o
def arD {svs:aY}:∀{w o:fA},HoA F g svs o->HoA F g svs (cvO w o)
 | [],_,h=>h
 |_::_,[],h=>h
 |w::ws,p::o,h=>λq hq=>by
  rcases cH.1 (show q∈(p.1,cv w.2 p.2)::cvO ws o from hq) with rfl|hq
  ·obtain ⟨v,v1,v2⟩:=h p (by simp)
   exact ⟨v,v1,CS v2⟩
  ·exact arD (λp hp=>h p (fO _ hp)) q hq
def cvB (w b:Bx):Bx:=
 match w,b with
 | .flat _ ws,.flat e cs=>.flat e (JL ws cs)
 | .cy z' _ _ _ _ o',.cy z e s l Q o=>.cy (z&&z') e s l Q (cvO o' o)
 |_,b=>b
def aFv {w:Bx} (q:eH F g k b L):eH F g k (cvB w b) L:=by
 unfold cvB;split
 ·cases q with|flat q=>exact .flat (EY q)
 ·rename_i o' z e s l Q o;cases q with
  |nil hb=>cases o'<;>exact .nil hb
  |cy hb hz hu hc q ho=>exact .cy hb (λh=>hz (kL.1 h).1) hu hc q (arD ho)
 ·exact q
def avM (ts:fA):Option Operand->Option (Option Int)
 |none=>some none
 |some x=>(match dU ts x with| .lit (.int _ (.lit n))=>some (some n)|_=>none)
def Qs (r:Rel F g Y c s T H) {o:Option Operand} {b:Option Int} {d:Nat} (hb:avM s.ts o=some b) (hn:b.getD d=(n:Int)):∃c,j1 T o=some c/\c.getD d=n/\(d=0\/d=n->n=0->nv c=true):=by
 cases o with
 |none=>
  cases hb;exact ⟨none,rfl,SW hn,λ_ _=>rfl⟩
 |some x=>
  have hb:(match dU s.ts x with| .lit (.int _ (.lit n))=>some (some n)|_=>none)=some b:=hb
  split at hb
  ·rename_i k m hv;cases hb;obtain rfl:m=(n:Int):=hn;obtain ⟨v,v1,v2⟩:=r.val hv (by simp)
   cases v2;exact ⟨some n,by show az (cE T x) (λv=>az (kX v) λn=>some (some n))=_;rw[v1];rfl,rfl,λ_ h=>(beq_iff _ _).2 h⟩
  ·cases hb
def xI {a:Operand} {hi:Option Operand} {c2:bP} {ie:TI} (sW:E.ty.get t=some i) (hd:qP i.desc=some e) (he:E.ty.get e=some ie) (hv:cE T a=some v) (h1:j1 T lo=some c1) (h2:j1 T hi=some c2):
  qT E (.slice t a lo hi none) T H new=same (ID v E e c1 c2 none):=by
 show one T a (λv=>rP (j1 T lo) (j1 T hi) (some none) λl u m=>same (Bb E t v l u m))=_
 unfold one;rw[hv,h1,h2];show same (Bb E t v c1 c2 none)=_;unfold Bb;rw[sW];show same (aoX i.desc E v c1 c2 none)=_;rw[uG hd];show same (az (E.ty.get e) λ_=>ID v E e c1 c2 none)=_
 rw[he];rfl
def aaj {ie:TI} {id l:Nat} {cp:Cp} {c2:bP} (hie:E.ty.get e=some ie) (d1:c1.getD 0=l) (d2:c2.getD n=u) (hlu:l<=u) (hu:u<=n) (hc:aef e n cp):ID (.sl id off n cp) E e c1 c2 none=some (zy id off l u ie.size cp):=by
 show xJ E e id off n cp c1 c2 none=_;unfold xJ;rw[j6 hie,d1,d2];have e1:(Y1 cp e&&(Nat.ble l u&&(Nat.ble u (reach cp n)&&akJ none u (reach cp n))))=true:=by
  rw[(bV _ _).2 hlu];cases cp with
  |k m=>rw[show Nat.ble u (reach (.k m) n)=true from (bV _ _).2 (jj hu hc)];rfl
  |u e'=>rw[show Nat.ble u (reach (.u e') n)=true from (bV _ _).2 hu,show Y1 (.u e') e=true from (beq_iff _ _).2 hc];rfl
 rw[e1];rfl
def aee (lo hi:Int) (n l u:Nat):Prop:=lo=(l:Int)/\hi=(u:Int)/\l<=u/\u<=n
def CutR (Q:bA) (lo hi:Int) (R:bA) (n:Nat):Prop:=∃l u,aee lo hi Q.length l u/\(Q.drop l).take (u-l)=R/\R.length=n
def acx (m:Nat) (lo:Option Operand):Nat:= @Option.rec _ (λ_=>Nat) (aQ (Nat.beq m 2) 2 0) (λ_=>2) lo
def arF {m:Nat} (h:acx m lo=1):False:=by
 unfold acx at h;cases lo with
 |none=>have h:aQ (Nat.beq m 2) 2 0=1:=h;rw[bH] at h;split at h<;>cases h
 |some=>cases h
def asX (c:Cp) (a b:Nat):F4 (F4 c a) b=F4 c (a+b):=by
 cases c with
 |k m=>exact bN Cp.k (Nat.sub_sub m a b)
 |u e=>rfl
def avD {id l s':Nat} {m:Nat} {cp:Cp} {e':TypeId} (hn:Q.length=n) (hF:je (F id) off (n*s')=some (e',svs)) (hu:∀r∈Q,r.length=s') (hl:off+n*s'<=svs.length) (hq:dA F lA ((svs.drop off).take (n*s')) Q.flatten) (h1:l<=u) (h2:u<=n) (hc:aef e n cp) (h0:lo=none->l=0):VA F g (zy id off l u s' cp) (.sl (acx m lo) e s' (u-l) ((Q.drop l).take (u-l))):=by
 subst hn;have hlen:((Q.drop l).take (u-l)).length=u-l:=by rw[dR,iX];omega
 have jL:∀r∈(Q.drop l).take (u-l),r.length=s':=λr hr=>hu r (oE (qG hr))
 have hle:l*s'+(u-l)*s'<=Q.length*s':=by rw[<-gD];exact kK _ (by omega)
 have hq2:dA F lA ((svs.drop (off+l*s')).take ((u-l)*s')) ((Q.drop l).take (u-l)).flatten:=by
  have:=(hq.drop (l*s')).take ((u-l)*s');rwa[tS,oD,tV,fB (by omega),<-ach hu] at this
 unfold zy;rw[bH,bH];split
 ·rename_i e0;obtain rfl:=(beq_iff _ _).1 e0;rw[lV] at hle hq2;rw[Nat.sub_zero] at*;refine .sl hlen (wL hF (dg _) (by omega)) ?_ (λh=>(arF h).elim) jL (by omega) (by simpa using hq2)
  cases cp with
  |k m=>exact jj h2 hc
  |u e'=>exact hc
 ·rename_i e0;split
  ·refine .sl hlen (wL hF (show off<=off+l*s' from xy _ _) (show off+l*s'+(u-l)*s'<=off+Q.length*s' by omega)) ?_ (λh=>(arF h).elim) jL (show off+l*s'+(u-l)*s'<=svs.length by omega) hq2
   cases cp with
   |k m=>exact (show u-l<=m-l from Nat.sub_le_sub_right (jj h2 hc) l)
   |u e'=>exact hc
  ·rename_i cY;obtain rfl:u=l:=by
    have:¬l<u:=λhc=>cY ((bV _ _).2 hc)
    omega
   rw[nT,DY];cases lo with
   |none=>exact absurd ((beq_iff _ _).2 (h0 rfl)) e0
   |some=>exact .sle e s'
def avE (E:Env) (s:LS) (op:Op) (l u:Nat) (R:bA) (n':Nat) (ob:Prop->cD):Option o8:=
 match op with
 | .slice t a lo hi none=>az (Qk E t) λp=>bT (avM s.ts lo) (avM s.ts hi) λb1 b2=>(match dU s.ts a with
  | .sl m e sz n Q=>aQ (Nat.beq e p.1&&Nat.beq sz p.2.size) (some ⟨[ob (CutR Q (b1.getD 0) (b2.getD (n:Nat)) R n')],s,.sl (acx m lo) e sz n' R,[]⟩) none
  | .ms K sz lo0 n=>(match lk K s.bs with
   |some (.cy _ e Ea _ Q _)=>aQ (Nat.beq e p.1&&(Nat.beq sz p.2.size&&Nat.beq Ea p.2.size)) (some ⟨[ob (aee (b1.getD 0) (b2.getD (n:Nat)) n l u/\lo0+n<=Q.length)],s,.ms K sz (Nat.add lo0 l) (Nat.sub u l),[]⟩) none
   |_=>none)
  |_=>none)
 |_=>none
def aCv {op:Op} {l:Nat} {ob:Prop->cD} (gQ:∀P,(ob P).need=P) {r:o8} (h:avE E s op l u R n' ob=some r):ui E pn op s r:=by
 unfold avE at h;split at h
 ·rename_i t a lo hi;obtain ⟨p,hp,h⟩:=aq h;obtain ⟨b1,b2,h1,h2,h⟩:=bp h;obtain ⟨i,sW,he,hie⟩:=Ap hp;split at h
  ·rename_i m e sz n Q ha;obtain ⟨h3,h⟩:=aV h;cases h;rw[bF] at h3;obtain rfl:=(beq_iff _ _).1 h3.1;obtain rfl:=(beq_iff _ _).1 h3.2;intro hh;have hc:=hh.1;rw[gQ] at hc;obtain ⟨l,u,⟨c1,c2,c3,c4⟩,rfl,rfl⟩:=hc;refine .val λ{F g Y c T H} r=> ?_
   obtain ⟨v,v1,v2⟩:=r.val ha (by simp)
   have hn:Q.length=n:=by cases v2<;>first|rfl|assumption
   rw[hn] at c4;have hlen:((Q.drop l).take (u-l)).length=u-l:=by rw[dR,iX];omega
   obtain ⟨d1,f1,f2,f3⟩:=Qs (d:=0) r h1 c1;obtain ⟨d2,k1,k2,k3⟩:=Qs (d:=n) r h2 c2;have h0:lo=none->l=0:=λe=>by subst e;cases h1;exact (SW c1).symm
   rw[hlen];generalize hm:acx m lo=m' at*;cases v2 with
   |nil=>
    have hu0:u=0:=DX.1 c4;have uq:l=0:=by omega
    subst hu0;subst uq;refine ⟨.dE,λnew=> ?_,.nil _ _ _⟩
    rw[xI sW he hie v1 f1 k1];show same (aQ (nv d1&&(nv d2&&true)) (some SV.dE) none)=_;rw[f3 (.inl rfl) rfl,k3 (.inl rfl) rfl];rfl
   |sle=>
    have hu0:u=0:=DX.1 c4;have uq:l=0:=by omega
    subst hu0;subst uq;refine ⟨.sle,λnew=> ?_,?_⟩
    ·rw[xI sW he hie v1 f1 k1];show same (aQ (nv d1&&(nv d2&&true)) (some SV.sle) none)=_;rw[f3 (.inl rfl) rfl,k3 (.inl rfl) rfl];rfl
    ·rw[<-hm];cases lo<;>exact .sle _ _
   |sl _ hF hct _ hu hl q=>
    refine ⟨_,λnew=> ?_,by rw[<-hm];exact avD hn hF hu hl q c3 c4 hct h0⟩
    rw[xI sW he hie v1 f1 k1,aaj hie f2 k2 c3 c4 hct];rfl
  ·rename_i K sz lo0 n ha;split at h
   ·rename_i z e Ea l' Q o hb;obtain ⟨h3,h⟩:=aV h;cases h;simp only[bF] at h3;obtain rfl:=(beq_iff _ _).1 h3.1;obtain rfl:=(beq_iff _ _).1 h3.2.1;obtain rfl:=(beq_iff _ _).1 h3.2.2;intro hh;have hc:=hh.1;rw[gQ] at hc;obtain ⟨⟨c1,c2,c3,c4⟩,hn⟩:=hc;refine .val λ{F g Y c T H} r=> ?_
    obtain ⟨v,v1,v2⟩:=r.val ha (by simp)
    obtain ⟨d1,f1,f2,f3⟩:=Qs (d:=0) r h1 c1;obtain ⟨d2,k1,k2,k3⟩:=Qs (d:=n) r h2 c2;show ∃v,(∀new,_)/\VA F g v (.ms K p.2.size (lo0+l) (u-l));cases v2 with
    |rn _ o7=>
     have hu0:u=0:=DX.1 c4;have uq:l=0:=by omega
     subst hu0;subst uq;refine ⟨.dE,λnew=> ?_,.rn _ o7⟩
     rw[xI sW he hie v1 f1 k1];show same (aQ (nv d1&&(nv d2&&true)) (some SV.dE) none)=_;rw[f3 (.inl rfl) rfl,k3 (.inl rfl) rfl];rfl
    |xc _ _ h0=>
     have hu0:u=0:=DX.1 c4;have uq:l=0:=by omega
     subst hu0;subst uq;refine ⟨.sle,λnew=> ?_,.xc _ _ h0⟩
     rw[xI sW he hie v1 f1 k1];show same (aQ (nv d1&&(nv d2&&true)) (some SV.sle) none)=_;rw[f3 (.inl rfl) rfl,k3 (.inl rfl) rfl];rfl
    |ms _ _ _ o7=>
     rcases r.cy hb with ⟨_,_,h,_⟩|⟨_,svs,L,_,hH,_,hu,jm,_,_⟩
     ·rw[h] at o7;cases o7
     have hct:aef p.1 n (F4 (g K).c lo0):=by
      cases hκ:(g K).c with
      |k m=>rw[hκ] at jm;have:=jm.1;exact (show n<=m-lo0 by omega)
      |u e'=>rw[hκ] at jm;exact jm.1
     refine ⟨_,λnew=>by rw[xI sW he hie v1 f1 k1,aaj hie f2 k2 c3 c4 hct];rfl,?_⟩
     unfold zy;rw[bH,bH];split
     ·rename_i e0;obtain rfl:=(beq_iff _ _).1 e0;exact .ms _ lo0 u o7
     ·rename_i e0;have e0:l≠0:=λh=>e0 ((beq_iff _ _).2 h)
      split
      ·rw[asX,show Nat.add (lo0*p.2.size) (Nat.mul l p.2.size)=(lo0+l)*p.2.size from (gD _ _ _).symm];exact .ms _ (lo0+l) (u-l) o7
      ·rename_i cY;obtain rfl:u=l:=by
        have:¬l<u:=λhc=>cY ((bV _ _).2 hc)
        omega
       rw[nT];exact .xc _ _ (by omega)
   ·cases h
  ·cases h
 ·cases h
def LN (K:Nat):fA->Bool
 | []=>true
 |p::l=> !lQ K (jJ p.2)&&LN K l
def P6 (K:Nat):cL->Bool
 | []=>true
 |p::l=>(Nat.beq p.1 K|| !lQ K p.2.keys)&&P6 K l
def Gt {l:br} (h:(!lQ K l)=true):K∉l:=λhm=>Ly (by simpa using h) K hm rfl
def NY {K:Nat}:∀{ts:fA},LN K ts=true->∀t x,lk t ts=some x->K∉jJ x
 |(k,y)::l,hf,t,x,hx=>by
  have hf:=kL.1 (show (!lQ K (jJ y)&&LN K l)=true from hf);rw[dz] at hx;split at hx
  ·cases hx;exact Gt hf.1
  ·exact NY hf.2 t x hx
def acd {K:Nat}:∀{bs:cL},P6 K bs=true->∀k b,k≠K->lk k bs=some b->K∉b.keys
 |(k',b')::l,hf,k,b,cZ,hx=>by
  have hf:=kL.1 (show ((Nat.beq k' K|| !lQ K b'.keys)&&P6 K l)=true from hf);rw[dz] at hx;split at hx
  ·rename_i e;cases hx;rcases (pE _ _).mp hf.1 with h|h
   ·exact absurd (e.trans ((beq_iff _ _).1 h)) cZ
   ·exact Gt h
  ·exact acd hf.2 k b cZ hx
def LO (s:LS) (K:Nat):Bool:=LN K s.ts&&P6 K s.bs
def BK (hf:LO s K=true):s.free K:=
 have hf:=kL.1 (show (LN K s.ts&&P6 K s.bs)=true from hf)
 ⟨NY hf.1,acd hf.2⟩
def MkP (n1 n2:Int) (z:bc) (Q:bA) (l:Nat):Prop:=∃m:Nat,n1=(l:Int)/\n2=(m:Int)/\l<=m/\m<=1000000/\List.replicate l z=Q
def tabN {id s:Nat} {cp:Cp} (h:g K=⟨id,cp,true⟩) (hu:∀r∈Q,r.length=s) (hc:yy e s Q.length svs.length cp) (q:TR F l (svs.take (Q.length*s)) Q []):eH F g K (.cy false e s l Q []) [(id,.cells e svs)]:=by
 have:=eH.cy (F:=F) (g:=g) (K:=K) (z:=false) (e:=e) (by rw[h]) (λh=>by cases h) hu (by rw[h];exact hc) q (o:= []) (λp hp=>by cases hp)
 rwa[h] at this
def mkC (sh:Sh) (w:AV) (v:SV):AV:=
 match sh with
 | .d=>cv w (.lit v)
 | .o b _=>(match v,w with
  | .dE,.sl _ e s _ _=>wi b e s 0 []
  |_,_=>.undef)
def mkT:dX->bc->aY->bc
 |_,_,[]=> []
 |sh,ws,v::vs=>mkC (sh.headD .d) (ws.headD .dE) v::mkT sh.tail ws.tail vs
def aFh {F:Hf} {w:AV}:TC F sh v (mkC sh w v) []:=by
 cases sh with
 |d=>exact .d (CS (.lit v))
 |o b l=>
  show TC F (.o b l) v (match v,w with| .dE,.sl _ e s _ _=>wi b e s 0 []|_,_=>.undef) []
  split
  ·exact .nil
  ·exact .any _
def abd {F:Hf}:∀{vs:aY} {sh:dX} {ws:bc},ke F sh vs (mkT sh ws vs) []
 | [],_,_=>.nil
 |v::vs,sh,ws=>.cons (a:= []) aFh abd
def mkI (E:Env) (pn:Nat->Bool) (s:LS) (d:bP) (op:Op) (z:bc) (Q:bA) (l:Nat) (sh:dX) (ob:Prop->cD):Option o8:=
 match op with
 | .makeSlice t a c=>bT (Qk E t) d λp K=>(match dU s.ts a,dU s.ts c with
  | .lit (.int _ (.lit n1)),.lit (.int _ (.lit n2))=>aQ (pT p.2&&(!pn K&&LO s K)) (some ⟨[ob (MkP n1 n2 (mkT sh z p.2.zero) Q l)],s.set K (.cy false p.1 p.2.size sh Q []),.ms K p.2.size 0 l,[K]⟩) none
  |_,_=>none)
 |_=>none
def aaC {z:aY}:∀{l m:Nat},l<=m->(rep z m).take (l*z.length)=rep z l
 |0,_,_=>by simp[rep]
 |l+1,0,h=>by omega
 |l+1,m+1,h=>by
  show (z++rep z m).take _=z++rep z l;rw[gD,pt,AD,D0,aaC (by omega)]
def aFg {op:Op} {z:bc} {l:Nat} {sh:dX} {ob:Prop->cD} (gQ:∀P,(ob P).need=P) {r:o8} (h:mkI E pn s d op z Q l sh ob=some r):ui E pn op s r:=by
 unfold mkI at h;split at h
 ·rename_i t a c;obtain ⟨p,K,hp,hd,h⟩:=bp h;split at h
  ·rename_i n1 _ n2 ha hc;obtain ⟨h1,h⟩:=aV h;cases h;simp only[bF] at h1;obtain ⟨k1,k2,k3⟩:=h1;intro hh;have hm:=hh.1;rw[gQ] at hm;obtain ⟨m,rfl,rfl,hlm,hm6,rfl⟩:=hm;obtain ⟨i,hi,he,hie⟩:=Ap hp;have mH:=Nc k1;have hzl:(mkT sh z p.2.zero).length=p.2.size:=by rw[<-(abd (F:=λ_=>none)).length,mH]
   refine .lay (by simpa using k2) (BK k3) λ{F g Y c T H new} r=> ?_
   obtain ⟨v,v1,v2⟩:=r.val ha (by simp)
   obtain ⟨w,w1,w2⟩:=r.val hc (by simp)
   cases v2;cases w2;refine ⟨.sl new 0 l (.k m),.cells p.1 (rep p.2.zero m),.k m,?_,λg' e1 e2=>⟨rn e1,tabN e1 (λr hr=>by rw[List.eq_of_mem_replicate hr];exact hzl) ?_ ?_⟩⟩
   ·show two T a _ (λu v=>bT (kX u) (kX v) (Bj E new t))=_
    rw[two,v1,w1];show Bj E new t l m=_;unfold Bj;rw[j6 hi,j6 he,j6 hie,(bV _ _).2 hlm,(bV _ _).2 hm6,k1];rfl
   ·have:∀m,(rep p.2.zero m).length=m*p.2.size:=λm=>by
     rw[(aaB (F:=λ_=>none) (g:=lA) sE m).length,U0,wy,nS,mH]
    rw[tR];exact ⟨hlm,this m⟩
   ·rw[tR,<-mH,aaC hlm];have:∀l,TR F sh (rep p.2.zero l) (List.replicate l (mkT sh z p.2.zero)) []:=λl=>by
     induction l with
     |zero=>exact .nil
     |succ l ih=>rw[SU];exact .cons (a:= []) (b:= []) abd ih
    exact this l
  ·cases h
 ·cases h
def divL (op:BinOp) (k:IntKind) (m n:Int):Option AV:=
 match op with
 | .rem=>some (.int k (m.tmod n))
 | .quo=>some (.int k (k.wrap (m.tdiv n)))
 |_=>none
def asT (E:Env) (s:LS) (op:Op) (n:Nat) (ob:Prop->cD):Option o8:=
 match op with
 | .binOp o _ a b _=>(match dU s.ts a,dU s.ts b with
  | .lit (.int k (.lit x)),.lit (.int k' (.lit y))=>aQ (gI k k') (az (divL o k x y) λz=>some ⟨[ob (y≠0)],s,z,[]⟩) none
  | .lit (.str x),.lit (.str y)=>(match o with
   | .add=>some ⟨[ob (x.size+y.size<=1000000)],s,.str (x++y),[]⟩
   |_=>none)
  |_,_=>none)
 | .index t a ix=>az (E.ty.get t) λi=>(match dU s.ts a,dU s.ts ix with
  | .lit (.str b),.lit (.int _ (.lit m))=>aQ (EF i.desc) (some ⟨[ob ((yY b.data.toList m).map UInt8.toNat=some n)],s,.int .u8 (n:Int),[]⟩) none
  |_,_=>none)
 | .next it true=>(match dU s.ts it with
  | .it K=>(match lk K s.bs with
   |some (.iter b pos)=>aQ (Nat.beq n 0) (some ⟨[ob (¬pos<b.size)],s,.cS [.bool false],[]⟩) (some ⟨[ob (pos<b.size)],s.set K (.iter b (Nat.add pos (Utf8.decode b pos).2)),.cS [.bool true,.int .i64 (pos:Int),.int .i32 (Utf8.decode b pos).1],[K]⟩)
   |_=>none)
  |_=>none)
 |_=>none
def atu {k:IntKind} {m n:Int} (hn:n≠0):nJ P (binOp .rem t (.int k m) (.int k n))=some (.int k (m.tmod n)):=by
 have:binOp .rem t (.int k m) (.int k n)=Sem.pure (.int k (m.tmod n)):=by
  simp[binOp,Op.intDiv,hn,pure]
 rw[this];rfl
def atv {k:IntKind} {m n:Int} (hn:n≠0):nJ P (binOp .quo t (.int k m) (.int k n))=some (.int k (k.wrap (m.tdiv n))):=by
 have:binOp .quo t (.int k m) (.int k n)=Sem.pure (.int k (k.wrap (m.tdiv n))):=by
  simp[binOp,Op.intDiv,hn,pure]
 rw[this];rfl
def avI {a b:ByteArray} (hn:a.size+b.size<=1000000):nJ P (binOp .add t (.string a) (.string b))=some (.string (a++b)):=by
 have h1:¬(((a.size+b.size:Nat):Int)>IntKind.i64.max):=by
  have:IntKind.i64.max=9223372036854775807:=by decide
  omega
 have:binOp .add t (.string a) (.string b)=Sem.pure (.string (a++b)):=by
  show Op.stringOp .add a b=_;unfold Op.stringOp;simp only[];rw[aL h1];rfl
 rw[this];rfl
def abo (r:Rel F g Y c s T H) {pos:Nat} {b:ByteArray} (ha:dU s.ts it= .it K) (hb:lk K s.bs=some (.iter b pos)):Y K= [((g K).n,.nF b pos)]/\∀new,qT E (.next it true) T H new=some (xQ (g K).n (b,pos)):=by
 obtain ⟨v,v1,v2⟩:=r.val ha (by simp)
 cases v2;obtain ⟨q,_,q3⟩:=r.bx K _ hb;generalize Y K=L at q q3;cases q with
 |iter=>
 refine ⟨rfl,λnew=> ?_⟩
 show one T it (yK H true)=_;rw[one,v1];show az (LG (H (g K).n)) (λp=>some (xQ (g K).n p))=_
 rw[(q3 ((g K).n,.nF b pos) (by simp)).1];rfl
def azw {op:Op} {ob:Prop->cD} (gQ:∀P,(ob P).need=P) {r:o8} (h:asT E s op n ob=some r):ui E pn op s r:=by
 unfold asT at h;split at h
 ·rename_i o t a b t2;split at h
  ·rename_i k x k' y ha hb;obtain ⟨hk,h⟩:=aV h;obtain ⟨z,hz,h⟩:=aq h;cases h;obtain rfl:=NL hk;intro hh;have hn:=hh.1;rw[gQ] at hn;exact .bi (f:=λv u=>same (JR E _ _ _ _ v u)) (λ_ _ _=>rfl) ha (by simp) hb (by simp) λ{F g v w} hv hw=>by
    cases hv;cases hw;cases o<;>first|(cases hz;done)|skip
    ·cases hz;refine ⟨.int k (.lit (k.wrap (x.tdiv y))),?_,.lit _⟩;show same (Gl (nJ E.P (binOp .quo t (.int k x) (.int k y))))=_;rw[atv hn];rfl
    ·cases hz;refine ⟨.int k (.lit (x.tmod y)),?_,.lit _⟩;show same (Gl (nJ E.P (binOp .rem t (.int k x) (.int k y))))=_;rw[atu hn];rfl
  ·rename_i x y ha hb;split at h
   ·cases h;intro hh;have hn:=hh.1;rw[gQ] at hn;exact .bi (f:=λv u=>same (JR E _ _ _ _ v u)) (λ_ _ _=>rfl) ha (by simp) hb (by simp) λ{F g v w} hv hw=>by
     cases hv;cases hw;refine ⟨.str (x++y),?_,.lit _⟩;show same (Gl (nJ E.P (binOp .add t (.string x) (.string y))))=_;rw[avI hn];rfl
   ·cases h
  ·cases h
 ·obtain ⟨i,hi,h⟩:=aq h;split at h
  ·rename_i b _ m ha yW;obtain ⟨hd,h⟩:=aV h;cases h;intro hh;have hn:=hh.1;rw[gQ] at hn;obtain ⟨cc,h1,h2⟩:=v7.1 hn;obtain ⟨j,rfl,h3⟩:=Na h1;exact .bi (f:=λv u=>az (kX u) λk=>vR E _ k v) (λ_ _ _=>rfl) ha (by simp) yW (by simp) λ{F g v w} hv hw=>by
    cases hv;cases hw;refine ⟨_,?_,.lit _⟩;show vR E _ j (.str b)=_;unfold vR;rw[j6 hi];generalize i.desc=d at hd;cases d<;>first|(cases hd;done)|skip
    show az (b.data.toList[j]?) (λb=>some (SV.int .u8 (.lit (.ofNat b.toNat)),([]:dQ)))=_
    rw[j6 h3,<-h2];rfl
  ·cases h
 ·split at h
  ·rename_i K ha;split at h
   ·rename_i b pos hb;rw[bH] at h;split at h
    ·cases h;intro hh;have cY:=hh.1;rw[gQ] at cY;refine .val λ{F g Y c T H} r=>⟨.cS [.bool false],λnew=> ?_,.cS (.cons (.lit _) .nil)⟩
     rw[(abo r ha hb).2];have hx:Nat.ble (Nat.succ pos) b.size=false:=by
      cases hx:Nat.ble (Nat.succ pos) b.size with
      |false=>rfl
      |true=>exact absurd ((bV _ _).1 hx) cY
     show some (aQ (Nat.ble (Nat.succ pos) b.size) _ _)=_;rw[hx]
    ·cases h;intro hh;have cY:=hh.1;rw[gQ] at cY;refine .wr hb λ{F g Y c T H} r=> ?_
     obtain ⟨hφ,go⟩:=abo (E:=E) r ha hb;refine ⟨.cS [.bool true,uy pos,.int .i32 (.lit (Utf8.decode b pos).1)],_,.nF b (pos+(Utf8.decode b pos).2),[],[],hφ,λnew=> ?_,.cS (.cons (.lit _) (.cons (.lit _) (.cons (.lit _) .nil))),.iter,.refl _⟩
     rw[go];show some (aQ (Nat.ble (Nat.succ pos) b.size) _ _)=_;rw[(bV _ _).2 cY];rfl
   ·cases h
  ·cases h
 ·cases h
end
section
variable {F F':Hf} {g g':Gb} {Y:Nat->Ow} {c:Nat->bP} {s s':LS} {T:Tf} {H:Hf} {E:Env} {pn:Nat->Bool}
def akR:AV->AV->Option Bool
 | .lit (.str a),.lit (.str b)=>some (decide (a=b))
 | .lit (.bool a),.lit (.bool b)=>some (a==b)
 | .lit (.int k (.lit a)),.lit (.int k' (.lit b))=>aQ (gI k k') (some (decide (a=b))) none
 |_,_=>none
def abn:AV->UD->Bool
 | .lit (.str _),d=>EF d
 | .lit (.bool _),d=>LH d
 | .lit (.int k (.lit _)),d=>akX k d
 |_,_=>false
def qE (k:AV):List (AV×AV)->Option (Option (Nat×AV))
 | []=>some none
 |e::es=>
  match akR k e.1 with
  |some true=>some (some (0,e.2))
  |some false=>(match qE k es with|some (some p)=>some (some (p.1+1,p.2))|r=>r)
  |none=>none
def NM {k:AV} {u:SV} {b:Bool} (hu:VA F g u k) (hv:VA F g' v x) (hb:akR k x=some b):sameKey u v=some b/\(b=true->k=x):=by
 unfold akR at hb;split at hb
 ·cases hb;cases hu;cases hv;exact ⟨by show some (Dk _ _)=_;rw[vI],λh=>by simp at h;rw[h]⟩
 ·cases hb;cases hu;cases hv;exact ⟨rfl,λh=>by simp at h;rw[h]⟩
 ·obtain ⟨hk,hb⟩:=aV hb;cases hb;cases hu;cases hv;exact ⟨by show aQ (gI _ _) (some (GA _ _)) none=_;rw[hk,AM],λh=>by simp at h;rw[h,NL hk]⟩
 ·cases hb
def aim {k:AV} {u:SV} {d:UD} (hu:VA F g u k) (hd:abn k d=true):I4 u d=true/\(jJ k).isEmpty=true:=by
 unfold abn at hd;split at hd
 ·cases hu;exact ⟨hd,rfl⟩
 ·cases hu;exact ⟨hd,rfl⟩
 ·cases hu;exact ⟨(show (true&&akX _ d)=true by rw[gR];exact hd),rfl⟩
 ·cases hd
def Vw {k:AV} {u:SV} (hu:VA F g u k):∀{es:List (AV×AV)} {ms:ji} (j:Nat),dA F lA (ms.map (·.1)) (es.map (·.1))->dA F lA (ms.map (·.2.1)) (es.map (·.2))->
  (qE k es=some none->pQ u ms j=some none)/\∀i x,qE k es=some (some (i,x))->∃v c,pQ u ms j=some (some (j+i,v,c))/\VA F lA v x/\es[i]? =some (k,x)/\i<ms.length
 | [],[],j,_,_=>⟨λ_=>rfl,λi x h=>by cases h⟩
 | [],m::ms,j,h,_=>by cases h
 |e::es,[],j,h,_=>by cases h
 |e::es,m::ms,j,h1,h2=>by
  cases h1 with|cons a1 t1=>
  cases h2 with|cons a2 t2=>
  obtain ⟨i1,i2⟩:=Vw hu (es:=es) (ms:=ms) (Nat.add j 1) t1 t2;constructor
  ·intro hf;unfold qE at hf;unfold pQ;split at hf
   ·cases hf
   ·rename_i hk;rw[(NM hu a1 hk).1];show pQ u ms (Nat.add j 1)=_;split at hf
    ·cases hf
    ·exact i1 hf
   ·cases hf
  ·intro i x hf;unfold qE at hf;unfold pQ;split at hf
   ·rename_i hk;cases hf;obtain ⟨q1,q2⟩:=NM hu a1 hk;rw[q1];exact ⟨m.2.1,m.2.2,rfl,a2,by rw[q2 rfl];rfl,by simp⟩
   ·rename_i hk;rw[(NM hu a1 hk).1];show ∃v c,pQ u ms (Nat.add j 1)=_/\_;split at hf
    ·rename_i p hp;cases hf;obtain ⟨v,c,b1,b2,b3,b4⟩:=i2 p.1 p.2 hp;refine ⟨v,c,?_,b2,by simpa using b3,by simpa using b4⟩
     rw[b1,show Nat.add j 1+p.1=j+(p.1+1) from by show j+1+p.1=_;omega]
    ·rename_i cZ;exact absurd hf (cZ _)
   ·cases hf
def sJ (E:Env) (t:TypeId):Option (TI×TI):=az (E.ty.get t) λi=>az (Bm i.desc) λq=>bT (E.ty.get q.1) (E.ty.get q.2) λa b=>some (a,b)
def Wy {p:TI×TI} (h:sJ E t=some p):∃i q,E.ty.get t=some i/\Bm i.desc=some q/\E.ty.get q.1=some p.1/\E.ty.get q.2=some p.2:=by
 obtain ⟨i,hi,h⟩:=aq h;obtain ⟨q,hq,h⟩:=aq h;obtain ⟨a,b,h1,h2,h⟩:=bp h;cases h;exact ⟨i,q,hi,hq,h1,h2⟩
def okM (ok:Bool) (v:AV) (b:Bool):AV:=aQ ok (.cS [v,.bool b]) v
def apJ {ok b:Bool} (h:VA F g v x):VA F g (okV ok v b) (okM ok x b):=by
 cases ok
 ·exact h
 ·exact .cS (.cons h (.cons (.lit _) .nil))
def P8 (ok:Bool) (z:Option AV):Option (Nat×AV)->Option AV
 |some r=>some (okM ok r.2 true)
 |none=>az z λz=>some (okM ok z false)
def YY (es:List (AV×AV)) (k v:AV):Option (Nat×AV)->List (AV×AV)
 |some r=>es.set r.1 (k,v)
 |none=>es++ [(k,v)]
def dA.atp:∀{vs xs} {i:Nat} {v:SV} {x:AV},dA F g vs xs->VA F g v x->dA F g (vs.set i v) (xs.set i x)
 |_,_,_,_,_,.nil,_=>.nil
 |_,_,0,_,_,.cons _ t,k=>.cons k t
 |_,_,i+1,_,_,.cons h t,k=>.cons h (t.atp k)
def Rel.map (r:Rel F g Y c s T H) {K:Nat} {es:List (AV×AV)} (hb:lk K s.bs=some (.map es)):∃ms cl,Y K= [((g K).n,.map ms cl)]/\H (g K).n=some (.map ms cl)/\dA F lA (ms.map (·.1)) (es.map (·.1))/\dA F lA (ms.map (·.2.1)) (es.map (·.2)):=by
 obtain ⟨q,_,q3⟩:=r.bx K _ hb;generalize Y K=L at q q3;cases q with
 | @map _ ms cl hk hv=>exact ⟨ms,cl,rfl,(q3 ((g K).n,.map ms cl) (by simp)).1,hk,hv⟩
def atT (E:Env) (s:LS) (op:Op) (x:AV) (CO:List (AV×AV)) (ob:Prop->cD):Option o8:=
 match op with
 | .lookup t a c ok=>az (sJ E t) λp=>(match dU s.ts a with
  | .mp K=>(match lk K s.bs with
   |some (.map es)=>aQ (abn (dU s.ts c) p.1.desc&&(jJ x).isEmpty) (some ⟨[ob (∃f,qE (dU s.ts c) es=some f/\P8 ok (ub p.2 (wy p.2.zero) 0) f=some x)],s,x,[]⟩) none
   |_=>none)
  |_=>none)
 | .mapUpdate t a c d=>az (sJ E t) λp=>(match dU s.ts a with
  | .mp K=>(match lk K s.bs with
   |some (.map es)=>aQ (abn (dU s.ts c) p.1.desc) (az (Et (dU s.ts d)) λx'=>aQ (jJ x').isEmpty (some ⟨[ob (∃f,qE (dU s.ts c) es=some f/\YY es (dU s.ts c) x' f=CO)],s.set K (.map CO),.cS [],[K]⟩) none) none
   |_=>none)
  |_=>none)
 |_=>none
def ain {k:AV} {d:UD} (h:abn k d=true):k≠ .undef:=λe=>by rw[e] at h;cases h
def aCe {op:Op} {ob:Prop->cD} (gQ:∀P,(ob P).need=P) {r:o8} (h:atT E s op x CO ob=some r):ui E pn op s r:=by
 unfold atT at h;split at h
 ·rename_i t a k ok;obtain ⟨p,hp,h⟩:=aq h;split at h
  ·rename_i K ha;split at h
   ·rename_i es hb;obtain ⟨h1,h⟩:=aV h;cases h;rw[bF] at h1;intro hh;have hf:=hh.1;rw[gQ] at hf;obtain ⟨f,hf,hx⟩:=hf;obtain ⟨i,q,hi,hq,e1,e2⟩:=Wy hp;refine .val λ{F g Y c T H} r=> ?_
    obtain ⟨v,v1,v2⟩:=r.val ha (by simp)
    obtain ⟨w,w1,w2⟩:=r.val rfl (ain h1.1);cases v2;obtain ⟨ms,cl,_,hH,EL,wB⟩:=r.map hb;obtain ⟨m1,m2⟩:=Vw w2 0 EL wB;have key:∃r,pQ w ms 0=some r/\∃u,JA ok (ij p.2 p.2.zero 0) r=some u/\VA F g u x:=by
     cases f with
     |none=>
      obtain ⟨z,hz,hx⟩:=aq hx;cases hx;obtain ⟨u,u1,u2⟩:=vO (sE (F:=F) (g:=lA) (vs:=p.2.zero)) hz;exact ⟨none,m1 hf,okV ok u false,by show az (ij p.2 p.2.zero 0) (λz=>some (okV ok z false))=_;rw[u1];rfl,(apJ u2).qU h1.2⟩
     |some r=>
      cases hx;obtain ⟨v,c,b1,b2,_,_⟩:=m2 r.1 r.2 hf;exact ⟨_,b1,okV ok v true,rfl,(apJ b2).qU h1.2⟩
    obtain ⟨r',k1,u,u1,u2⟩:=key;refine ⟨u,λnew=> ?_,u2⟩
    show two T a k (λa b=>same (sD E H t a b ok))=_
    rw[two,v1,w1];show same (sD E H t (.mp (g K).n) w ok)=_;unfold sD;rw[j6 hi,j6 hq,G4 e1 e2,(aim w2 h1.1).1];show same (az (az (j2 (H (g K).n)) λp=>some p.1) λes=>az (pQ w es 0) λr=>JA ok (ij p.2 p.2.zero 0) r)=_
    rw[hH];show same (az (pQ w ms 0) λr=>JA ok (ij p.2 p.2.zero 0) r)=_
    rw[k1];show same (JA ok (ij p.2 p.2.zero 0) r')=_;rw[u1];rfl
   ·cases h
  ·cases h
 ·rename_i t a k d;obtain ⟨p,hp,h⟩:=aq h;split at h
  ·rename_i K ha;split at h
   ·rename_i es hb;obtain ⟨h1,h⟩:=aV h;obtain ⟨x',h2,h⟩:=aq h;obtain ⟨rfl,cZ⟩:=oI h2;obtain ⟨h3,h⟩:=aV h;cases h;intro hh;have hf:=hh.1;rw[gQ] at hf;obtain ⟨f,hf,rfl⟩:=hf;obtain ⟨i,q,hi,hq,e1,e2⟩:=Wy hp;refine .wr hb λ{F g Y c T H} r=> ?_
    obtain ⟨v,v1,v2⟩:=r.val ha (by simp)
    obtain ⟨w,w1,w2⟩:=r.val rfl (ain h1);obtain ⟨u,u1,u2⟩:=r.val rfl cZ;cases v2;obtain ⟨ms,cl,hφ,hH,EL,wB⟩:=r.map hb;obtain ⟨hlk,hkk⟩:=aim w2 h1;obtain ⟨m1,m2⟩:=Vw w2 0 EL wB;have key:∃r,pQ w ms 0=some r/\∃Eu cl',YZ ms cl w u r= .map Eu cl'/\dA F lA (Eu.map (·.1)) ((YY es (dU s.ts k) (dU s.ts d) f).map (·.1))/\dA F lA (Eu.map (·.2.1)) ((YY es (dU s.ts k) (dU s.ts d) f).map (·.2)):=by
     cases f with
     |none=>
      refine ⟨none,m1 hf,ms++ [(w,u,cl)],Nat.add cl 1,rfl,?_,?_⟩
      ·show dA F lA ((ms++ [(w,u,cl)]).map (·.1)) ((es++ [(dU s.ts k,dU s.ts d)]).map (·.1))
       rw[mB,mB];exact EL.append (.cons (w2.qU hkk) .nil)
      ·show dA F lA ((ms++ [(w,u,cl)]).map (·.2.1)) ((es++ [(dU s.ts k,dU s.ts d)]).map (·.2))
       rw[mB,mB];exact wB.append (.cons (u2.qU h3) .nil)
     |some r=>
      obtain ⟨v,c,b1,b2,b3,b4⟩:=m2 r.1 r.2 hf;refine ⟨_,b1,ms.set (0+r.1) (w,u,c),cl,rfl,?_,?_⟩
      ·show dA F lA ((ms.set (0+r.1) (w,u,c)).map (·.1)) ((es.set r.1 (dU s.ts k,dU s.ts d)).map (·.1))
       rw[DP,DP,cA];exact EL.atp (w2.qU hkk)
      ·show dA F lA ((ms.set (0+r.1) (w,u,c)).map (·.2.1)) ((es.set r.1 (dU s.ts k,dU s.ts d)).map (·.2))
       rw[DP,DP,cA];exact wB.atp (u2.qU h3)
    obtain ⟨r',k1,Eu,cl',k2,k3,k4⟩:=key;refine ⟨.cS [],_,.map Eu cl',[],[],hφ,λnew=> ?_,.cS .nil,.map k3 k4,.refl _⟩
    show two T a k (λa b=>one T d λc=>unit (vn E H t a b c))=_
    unfold two one;rw[v1,w1];show az (cE T d) (λc=>unit (vn E H t (.mp (g K).n) w c))=_
    rw[u1];show unit (vn E H t (.mp (g K).n) w u)=_;have e1:vn E H t (.mp (g K).n) w u=some [((g K).n,some (.map Eu cl'))]:=by
     show az (E.ty.get t) (λi=>az (Bm i.desc) λq=>bT (E.ty.get q.1) (j2 (H (g K).n)) λik p=>aQ (I4 w ik.desc) (az (pQ w p.1 0) λr=>some [((g K).n,some (YZ p.1 p.2 w u r))]) none)=_
     rw[j6 hi,j6 hq,hH,G4 e1 (show j2 (some (SO.map ms cl))=some (ms,cl) from rfl),hlk];show az (pQ w ms 0) (λr=>some [((g K).n,some (YZ ms cl w u r))])=_
     rw[k1];show some [((g K).n,some (YZ ms cl w u r'))]=_;rw[k2]
    rw[e1];rfl
   ·cases h
  ·cases h
 ·cases h
inductive Pl where
 |row (R:bc) (fs:br)
 |nat (k:Nat)
 |uF (Q:bA)
 |app (w:Bool) (R Q:bA) (n:Nat)
 |Iq
 |cut (l u:Nat) (R:bA) (n:Nat)
 |mk (z:bc) (Q:bA) (l:Nat) (sh:dX)
 |val (n:Nat)
 |lkp (x:AV) (es:List (AV×AV))
 |eqv (y:AV)
 |laid (b:Bx)
def OO (E:Env) (pn:Nat->Bool) (s:LS) (d:bP) (op:Op):Option o8:=
 (Pr E s op).elim ((Pq E s op).elim ((alh E s op).elim (az d λK=>aQ (!pn K&&LO s K) (az (aaL E s K op) λp=>some ⟨[],s.set K p.1,p.2,[K]⟩) none) some) λp=>some ⟨[],s.set p.1 p.2,.cS [],[p.1]⟩) λx=>some ⟨[],s,x,[]⟩
def Nr {op:Op} {r:o8} (h:OO E pn s d op=some r):ui E pn op s r:=by
 unfold OO at h;cases h1:Pr E s op with
 |some x=>rw[h1] at h;cases h;exact λ_=>apt h1
 |none=>
  rw[h1] at h;cases h2:Pq E s op with
  |some x=>rw[h2] at h;cases h;exact λ_=>apr h2
  |none=>
   rw[h2] at h;cases h3:alh E s op with
   |some x=>rw[h3] at h;cases h;exact aCp h3
   |none=>
    rw[h3] at h;obtain ⟨K,_,h⟩:=aq h;obtain ⟨h4,h⟩:=aV h;obtain ⟨p,h5,h⟩:=aq h;cases h;rw[bF] at h4;exact λ_=>aps (BK h4.2) (by simpa using h4.1) h5
def awK (E:Env) (pn:Nat->Bool) (s:LS) (d:bP) (op:Op) (pl:Pl) (ob:Prop->cD):Option o8:=
 match pl with
 | .row R fs=>ats E s op R fs ob
 | .nat k=>auj E s op k ob
 | .uF Q=>asY E s op Q ob
 | .app w R Q n=>appI E pn s d op w R Q n ob
 | .Iq=>tapI E pn s d op ob
 | .cut l u R n=>avE E s op l u R n ob
 | .mk z Q l sh=>mkI E pn s d op z Q l sh ob
 | .val n=>asT E s op n ob
 | .lkp x es=>atT E s op x es ob
 | .eqv y=>az (OO E pn s d op) λr=>some ⟨ob (r.x=y)::r.Ep,r.s,y,r.W⟩
 | .laid b=>bT d (OO E pn s d op) λK r=>some ⟨ob (lk K r.s.bs=some b)::r.Ep,r.s.set K b,r.x,r.W⟩
def ata {op:Op} {pl:Pl} {ob:Prop->cD} (gQ:∀P,(ob P).need=P) {r:o8} (h:awK E pn s d op pl ob=some r):ui E pn op s r:=by
 cases pl with
 |row=>exact aBO gQ h
 |nat=>exact aCo gQ h
 |uF=>exact azz gQ h
 |app=>exact aCJ gQ h
 |Iq=>exact azy gQ h
 |cut=>exact aCv gQ h
 |mk=>exact aFg gQ h
 |val=>exact azw gQ h
 |lkp=>exact aCe gQ h
 |eqv y=>
  obtain ⟨r0,h1,h⟩:=aq h;cases h;intro ho;obtain ⟨o1,o2⟩:=ho;rw[gQ] at o1;subst o1;exact (show Ok E pn op s r0.s r0.x r0.W from Nr h1 o2)
 |laid b=>
  obtain ⟨K,r0,_,h1,h⟩:=bp h;cases h;intro ho;obtain ⟨o1,o2⟩:=ho;rw[gQ] at o1;have h2:=Nr h1 o2;refine ⟨λ{F g Y c T H new} r hn=> ?_⟩
  obtain ⟨v,us,g',φ',c',a1,a2,a3,a4⟩:=h2.go r hn;refine ⟨v,us,g',φ',c',a1,a2,a3.sub (λ_ _ h=>h) λk b' hb=> ?_,a4⟩
  rw[show (r0.s.set K b).bs=(K,b)::r0.s.bs from rfl,dz] at hb;split at hb
  ·rename_i e;rw[e,o1];exact hb
  ·exact hb
end
section
variable {F F':Hf} {g g':Gb} {Y:Nat->Ow} {c:Nat->bP} {s s':LS} {T:Tf} {H:Hf} {E:Env} {pn:Nat->Bool}
mutual
def GN (K:Nat) (D:Nat->Nat->AV) (L:Nat->Nat->AV):AV->AV
 | .agg cs=>.agg (CM K D L cs)
 | .cS cs=>.cS (CM K D L cs)
 | .fn f a b=>.fn f (CM K D L a) (CM K D L b)
 | .ms k s lo n=>aQ (Nat.beq k K) (D s lo) (.ms k s lo n)
 | .el k s j f=>aQ (Nat.beq k K) (L j f) (.el k s j f)
 |x=>x
def CM (K:Nat) (D:Nat->Nat->AV) (L:Nat->Nat->AV):bc->bc
 | []=> []
 |x::l=>GN K D L x::CM K D L l
end
mutual
def aaZ (K sz:Nat):AV->br
 | .agg cs=>Cy K sz cs
 | .cS cs=>Cy K sz cs
 | .fn f a b=>Cy K sz a++Cy K sz b
 | .ms k s lo n=>aQ (Nat.beq k K&&(Nat.beq s sz&&Nat.beq lo 0)) [n] []
 |_=> []
def Cy (K sz:Nat):bc->br
 | []=> []
 |x::l=>aaZ K sz x++Cy K sz l
end
mutual
def aio {K sz:Nat} {D:Nat->Nat->AV} {L:Nat->Nat->AV} {N:Nat->Prop} (h1:∀{v s lo n},(s=sz->lo=0->N n)->VA F g v (.ms K s lo n)->VA F g v (D s lo)) (h2:∀{v s j f},VA F g v (.el K s j f)->VA F g v (L j f)):∀{x:AV} {v:SV},(∀n∈aaZ K sz x,N n)->VA F g v x->VA F g v (GN K D L x)
 | .agg cs,_,hn,.agg q=>.agg (ya h1 h2 hn q)
 | .cS cs,_,hn,.cS q=>.cS (ya h1 h2 hn q)
 | .fn f a b,_,hn,.fn _ q1 q2=>.fn _ (ya h1 h2 (λn h=>hn n (gE _ h)) q1) (ya h1 h2 (λn h=>hn n (iz _ h)) q2)
 | .ms k s lo n,v,hn,q=>by
  show VA F g v (aQ (Nat.beq k K) (D s lo) (.ms k s lo n));rw[bH];split
  ·rename_i e;obtain rfl:=(beq_iff _ _).1 e;refine h1 (λe1 e2=>hn n ?_) q
   show n∈aQ (Nat.beq k k&&(Nat.beq s sz&&Nat.beq lo 0)) [n] [];rw[e,(beq_iff _ _).2 e1,(beq_iff _ _).2 e2];exact ez.2 rfl
  ·exact q
 | .el k s j f,v,hn,q=>by
  show VA F g v (aQ (Nat.beq k K) (L j f) (.el k s j f));rw[bH];split
  ·rename_i e;obtain rfl:=(beq_iff _ _).1 e;exact h2 q
  ·exact q
 | .lit _,_,_,q| .sl ..,_,_,q| .jx _,_,_,q| .mp _,_,_,q| .it _,_,_,q| .undef,_,_,q=>q
def ya {K sz:Nat} {D:Nat->Nat->AV} {L:Nat->Nat->AV} {N:Nat->Prop} (h1:∀{v s lo n},(s=sz->lo=0->N n)->VA F g v (.ms K s lo n)->VA F g v (D s lo)) (h2:∀{v s j f},VA F g v (.el K s j f)->VA F g v (L j f)):∀{x:bc} {v:aY},(∀n∈Cy K sz x,N n)->dA F g v x->dA F g v (CM K D L x)
 |_,_,_,.nil=>.nil
 |_,_,hn,.cons q t=>.cons (aio h1 h2 (λn h=>hn n (gE _ h)) q) (ya h1 h2 (λn h=>hn n (iz _ h)) t)
end
def Bx.mapV (k:AV->AV) (ks:bc->bc):Bx->Bx
 | .flat e cs=>.flat e (ks cs)
 | .cy z e s l Q o=>.cy z e s l Q (o.map λp=>(p.1,k p.2))
 |b=>b
def Vd (K sz:Nat):fA->br
 | []=> []
 |p::l=>aaZ K sz p.2++Vd K sz l
def Ve (K sz:Nat):cL->br
 | []=> []
 |p::l=>(match p.2 with| .flat _ cs=>Cy K sz cs| .cy _ _ _ _ _ o=>Vd K sz o|_=> [])++Ve K sz l
def ND {K sz n t:Nat} {x:AV}:∀{l:fA},(t,x)∈l->n∈aaZ K sz x->n∈Vd K sz l
 |p::l,h,hn=>(cH.1 h).elim (λe=>gE _ (e ▸ hn)) λh=>iz _ (ND h hn)
def LS.fX (s:LS) (K:Nat) (D:Nat->Nat->AV) (L:Nat->Nat->AV):LS:=⟨s.ts.map λp=>(p.1,GN K D L p.2),(ki K s.bs).map λp=>(p.1,p.2.mapV (GN K D L) (CM K D L))⟩
def noK (x:AV):AV:=aQ (jJ x).isEmpty x .undef
def aFc (q:VA F g v x):VA F g' v (noK x):=by
 unfold noK;rw[bH];split
 ·rename_i h;exact q.qU h
 ·exact .undef v
def ahY:∀{vs xs},dA F g vs xs->dA F g' vs (xs.map noK)
 |_,_,.nil=>.nil
 |_,_,.cons q t=>.cons (aFc q) (ahY t)
def zw (m n:Nat) (b:Bx) (s lo:Nat):AV:=
 match b with
 | .cy z e sz _ Q _=>aQ (Nat.beq s sz&&Nat.beq lo 0) (.sl (aQ (Nat.beq m 2) 2 (aQ z 1 0)) e sz n Q) .undef
 |_=>.undef
def GM (b:Bx) (j f:Nat):AV:=
 match b with
 | .flat _ cs=>aQ (Nat.beq j 0&&Nat.ble f cs.length) (.jx ((cs.map noK).drop f)) .undef
 |_=>.undef
def Bx.Is (b:Bx):Nat×bA:=
 match b with
 | .cy _ _ sz _ Q _=>(sz,Q)
 |_=>(0,[])
def LS.acb (s:LS) (K m n:Nat) (b:Bx):LS:=s.fX K (zw m n b) (GM b)
def aca (s:LS) (K n:Nat) (b:Bx) (ob:Prop->cD):List cD:=ob (b.Is.2.length=n)::(Vd K b.Is.1 s.ts++Ve K b.Is.1 s.bs).map λn'=>ob (b.Is.2.length=n')
def acQ {J:Type} {f:J->cD}:∀{l:List J},iF (l.map f)->∀x∈l,(f x).need
 |y::l,h,x,hx=>(cH.1 hx).elim (λe=>e ▸ h.1) λhx=>acQ h.2 x hx
def NF {K sz n k:Nat} {b:Bx}:∀{l:cL},(k,b)∈l->(n∈match b with| .flat _ cs=>Cy K sz cs| .cy _ _ _ _ _ o=>Vd K sz o|_=> [])->n∈Ve K sz l
 |p::l,h,hn=>(cH.1 h).elim (λe=>gE _ (e ▸ hn)) λh=>iz _ (NF h hn)
def Rel.fX (r:Rel F g Y c s T H) {m:Nat} {ob:Prop->cD} (gQ:∀P,(ob P).need=P) (hb:lk K s.bs=some b) (ho:iF (aca s K n b ob)):∃F' c',nu F F'/\((∀i k,c' i=some k->c i=some k)/\(∀i,F' i≠none->F i≠none\/c i=some K)/\(∀i,c i≠some K->c' i=c i)/\∀i,c' i≠some K)/\Rel F' g Y c' (s.acb K m n b) T H:=by
 obtain ⟨F',c',hF,hcw,hK,r'⟩:=r.sink K;have hK:=hK b hb;have q:=(r.bx K b hb).1;refine ⟨F',c',hF,hcw,?_⟩;obtain ⟨hn,ho⟩:=ho;rw[gQ] at hn;have h1:∀{v s lo n'},(s=b.Is.1->lo=0->b.Is.2.length=n')->VA F' g v (.ms K s lo n')->VA F' g v (zw m n b s lo):=λ{v s lo n'} fN hv=>by
  unfold zw;split
  ·rename_i z e sz l Q o;rw[bH];split
   ·rename_i h;simp only[bF] at h;obtain ⟨k1,k2⟩:=h;obtain rfl:=(beq_iff _ _).1 k1;obtain rfl:=(beq_iff _ _).1 k2;have fN:Q.length=n':=fN rfl rfl;have hn:Q.length=n:=hn;have hmz:aQ (Nat.beq m 2) 2 (aQ z 1 0)=1->z=true:=λe=>by
     rw[bH] at e;split at e
     ·cases e
     ·cases z<;>first|rfl|cases e
    generalize Y K=L at q hK;cases q with
    |nil hbf=>
     cases hv with
     |rn=>subst hn;exact .nil _ _ _
     |ms _ _ _ h=>rw[hbf] at h;cases h
     |xc _ _ h=>cases h
    | @cy _ _ _ _ _ _ svs L s8 hz hu hc q ho=>
     cases hv with
     |rn _ h=>rw[s8] at h;cases h
     |xc _ _ h=>cases h
     |ms=>
      rw[lV];subst hn;subst fN;refine .sl rfl (ru (hK ((g K).n,.cells e svs) (by simp))) ?_ (λe=>hz (hmz e)) hu (by rw[cA];exact oA hc) (by rw[rR];exact q.data hF λp hp=>hK p (fO _ hp))
      have:=aiE hc;cases hκ:(g K).c<;>rw[hκ] at this<;>exact this
   ·exact .undef v
  ·exact .undef v
 have h2:∀{v s j f},VA F' g v (.el K s j f)->VA F' g v (GM b j f):=λ{v s j f} hv=>by
  unfold GM;split
  ·rename_i e cs;rw[bH];split
   ·rename_i hf;rw[bF] at hf;obtain rfl:=(beq_iff _ _).1 hf.1;have hf:f<=cs.length:=(bV _ _).1 hf.2;cases hv;generalize Y K=L at q hK;cases q with
    | @flat _ _ svs q=>
     have hl:=q.length;rw[lV,cA];refine .jx (ru (hK ((g K).n,.cells e svs) (by simp))) (by rw[iX,nS];omega) ?_
     rw[iX,nS,kq (by rw[iX];omega)]
     exact ((ahY q).mono hF).drop f
   ·exact .undef v
  ·exact .undef v
 have hN:=acQ ho;have vaA:∀{x v},(∀n∈aaZ K b.Is.1 x,n∈Vd K b.Is.1 s.ts++Ve K b.Is.1 s.bs)->VA F' g v x->VA F' g v (GN K (zw m n b) (GM b) x):=λ{x v} hx q=>aio (N:=λn=>b.Is.2.length=n) h1 h2 (λn hn=>by have:=hN n (hx n hn);rwa[gQ] at this) q
 refine r'.akm (ft:=λ_=>GN K (zw m n b) (GM b)) (fb:=λ_ b'=>b'.mapV (GN K (zw m n b) (GM b)) (CM K (zw m n b) (GM b))) r'.fr (λ_=>rfl) (λt v x hx q=>vaA (λn hn=>gE _ (ND (nX hx) hn)) q) λk b' L hk q=> ?_
 have hk:lk k s.bs=some b':=by
  have hk:lk k (ki K s.bs)=some b':=hk;rw[vr] at hk;split at hk
  ·cases hk
  ·exact hk
 cases q with
 |flat q=>exact .flat (ya (N:=λn=>b.Is.2.length=n) h1 h2 (λn hn=>by have:=hN n (iz _ (NF (nX hk) hn));rwa[gQ] at this) q)
 |nil h=>exact .nil h
 |cy hb hz hu hc q ho=>
  refine .cy hb hz hu hc q λp hp=> ?_
  obtain ⟨p0,hp0,rfl⟩:=cO.1 hp;obtain ⟨v,v1,v2⟩:=ho p0 hp0;exact ⟨v,v1,vaA (λn hn=>iz _ (NF (nX hk) (ND (t:=p0.1) hp0 hn))) v2⟩
 |map h1 h2=>exact .map h1 h2
 |iter=>exact .iter
def Rel.Ge (r:Rel F g Y c s T H) {b':Bx} (hb:lk K s.bs=some b) (h:∀{L},eH F g K b L->∃L',L'.Sublist L/\eH F g K b' L'):∃φ' c',(∀i k,c' i=some k->c i=some k)/\Rel F g φ' c' (s.set K b') T H:=by
 obtain ⟨q,nd,own⟩:=r.bx K b hb;obtain ⟨L',hs,q'⟩:=h q;obtain ⟨c',r',_,hc,_⟩:=r.chg q' ((hs.map _).nodup nd) (λp hp=>⟨(own p (hs.subset hp)).1,.inl (own p (hs.subset hp)).2⟩) (λi hi=>absurd rfl hi) (.inl rfl)
 refine ⟨_,c',λi k hk=> ?_,r'⟩
 rcases hc i k hk with h|⟨rfl,hm⟩
 ·exact h
 ·obtain ⟨p,hp,rfl⟩:=cO.1 hm;exact (own p (hs.subset hp)).2
def jP.Ge {b':Bx} (hb:lk K s.bs=some b) (h:∀{F g L},eH F g K b L->∃L',L'.Sublist L/\eH F g K b' L'):jP pn s (s.set K b'):=.mk λ{F g Y c T H} r=>
 let ⟨φ',c',_,r'⟩:=r.Ge hb h
 ⟨F,g,φ',c',.refl _,λ_ _=>rfl,r'⟩
def ke.foc:∀{l vs xs L} {k:Nat} {x:AV},ke F l vs xs L->xs[k]? =some x->∃v L1 L0 L2,vs[k]? =some v/\L=L1++(L0++L2)/\TC F ((l.drop k).headD .d) v x L0/\∀y FH,TC F ((l.drop k).headD .d) v y FH->ke F l vs (xs.set k y) (L1++(FH++L2))
 |_,_,_,_,_,_,.nil,h=>by cases h
 |l,_,_,_,0,x,.cons (v:=v) (b:=b) q t,h=>by
  obtain rfl:=kV (show some _=some x from h);exact ⟨v,[],_,b,rfl,rfl,q,λy FH q'=>show ke F l _ _ (FH++b) from .cons q' t⟩
 |l,_,_,_,k+1,x,.cons (a:=a) q t,h=>by
  obtain ⟨v,L1,L0,L2,h1,h2,h3,h4⟩:=t.foc (k:=k) (by simpa using h)
  have e:l.drop (k+1)=l.tail.drop k:=by cases l<;>simp
  rw[e];refine ⟨v,a++L1,L0,L2,by simpa using h1,by rw[h2,lu],h3,λy FH q'=> ?_⟩
  rw[lu];exact .cons q (h4 y FH q')
def TR.foc {s:Nat}:∀{l vs Q L} {j k:Nat} {R:bc} {x:AV},TR F l vs Q L->(∀r∈Q,r.length=s)->Q[j]? =some R->R[k]? =some x->∃v L1 L0 L2,vs[j*s+k]? =some v/\L=L1++(L0++L2)/\TC F ((l.drop k).headD .d) v x L0/\∀y FH,TC F ((l.drop k).headD .d) v y FH->TR F l vs (Q.set j (R.set k y)) (L1++(FH++L2))
 |_,_,_,_,_,_,_,_,.nil,_,h,_=>by cases h
 |l,_,_,_,0,k,R,x,.cons (vs:=vs) (b:=b) q t,hu,h,hx=>by
  obtain rfl:=kV (show some _=some R from h);obtain ⟨v,L1,L0,L2,h1,h2,h3,h4⟩:=q.foc hx;refine ⟨v,L1,L0,L2++b,?_,by rw[h2];simp,h3,λy FH q'=>by have:=TR.cons (h4 y FH q') t;simpa using this⟩
  rw[lV,cA,nR (bY.1 h1).1];exact h1
 |l,_,_,_,j+1,k,R,x,.cons (vs:=vs) (a:=a) q t,hu,h,hx=>by
  obtain ⟨v,L1,L0,L2,h1,h2,h3,h4⟩:=t.foc (λr hr=>hu r (fO _ hr)) (show _=some R by simpa using h) hx
  have hv:vs.length=s:=by rw[q.length];exact hu _ (jt)
  refine ⟨v,a++L1,L0,L2,?_,by rw[h2,lu],h3,λy FH q'=> ?_⟩
  ·rw[nf (by rw[hv,gD];omega),hv,show (j+1)*s+k-s=j*s+k by rw[gD];omega]
   exact h1
  ·rw[lu];exact .cons q (h4 y FH q')
def rk:dX->Bool
 | []=>true
 | .d::l=>rk l
 |_=>false
def C8:∀{l:dX},rk l=true->l.headD .d= .d/\rk l.tail=true
 | [],_=>⟨rfl,rfl⟩
 | .d::l,h=>⟨rfl,h⟩
def ke.rk:∀{l l' vs xs L},bX.rk l=true->bX.rk l'=true->ke F l vs xs L->ke F l' vs xs L
 |_,_,_,_,_,_,_,.nil=>.nil
 |l,l',_,_,_,h,h',.cons q t=>.cons (by rw[(C8 h').1,<-(C8 h).1];exact q) (t.rk (C8 h).2 (C8 h').2)
def TR.rk:∀{l l' vs xs L},bX.rk l=true->bX.rk l'=true->TR F l vs xs L->TR F l' vs xs L
 |_,_,_,_,_,_,_,.nil=>.nil
 |_,_,_,_,_,h,h',.cons q t=>.cons (q.rk h h') (t.rk h h')
mutual
def avl:Sh->Sh->Bool
 | .d,.d=>true
 | .o x l,.o y m=>(x==y)&&LV l m
 |_,_=>false
def LV:dX->dX->Bool
 | [],[]=>true
 |x::l,y::m=>avl x y&&LV l m
 |_,_=>false
end
mutual
def aCr:∀{a b:Sh},avl a b=true->a=b
 | .d,.d,_=>rfl
 | .o x l,.o y m,h=>by
  have h:=kL.1 (show ((x==y)&&LV l m)=true from h);rw[eq_of_beq h.1,N0 h.2]
 | .d,.o _ _,h=>by cases (show false=true from h)
 | .o _ _,.d,h=>by cases (show false=true from h)
def N0:∀{a b:dX},LV a b=true->a=b
 | [],[],_=>rfl
 |x::l,y::m,h=>by
  have h:=kL.1 (show (avl x y&&LV l m)=true from h);rw[aCr h.1,N0 h.2]
 | [],_::_,h=>by cases (show false=true from h)
 |_::_,[],h=>by cases (show false=true from h)
end
def aan (l l':dX) (Q:bA):Bool:=LV l l'||((rk l&&rk l')||(match Q with| []=>true|_=>false))
def ahy {l':dX} (h:aan l l' Q=true) (q:TR F l vs Q L):TR F l' vs Q L:=by
 unfold aan at h;rw[pE,pE,bF] at h;rcases h with h|h|h
 ·rw[<-N0 h];exact q
 ·exact q.rk h.1 h.2
 ·split at h
  ·cases q;exact .nil
  ·cases h
open Classical in
def Rel.split (r:Rel F g Y c s T H) {K2:Nat} {b1 b2:Bx} {L2:Ow} (hb:lk K s.bs=some b) (hk:s.free K2) (hn:lk K2 s.bs=none) (hg:∀k,k≠K2->g' k=g k) (h1:eH F g' K b1 L1) (h2:eH F g' K2 b2 L2) (hs:∀p∈L1++L2,p∈Y K) (nd:((L1++L2).map (·.1)).Nodup):
  Rel F g' (lT (lT Y K L1) K2 L2) (λi=>if i∈L2.map (·.1) then some K2 else c i) ⟨s.ts,(K2,b2)::(K,b1)::s.bs⟩ T H:=by
 obtain ⟨_,_,own⟩:=r.bx K b hb;have cZ:K≠K2:=λe=>by rw[e,hn] at hb;cases hb
 rw[mB] at nd;obtain ⟨n1,n2,n3⟩:=DO.1 nd;have off:∀{k i},k≠K->c i=some k->i∉L2.map (·.1):=λ{k i} hk hc hm=>by
  obtain ⟨p,hp,rfl⟩:=cO.1 hm;rw[(own p (hs p (iz _ hp))).2] at hc;exact hk (kV hc).symm
 refine ⟨λt x hx hu=> ?_,λk b' jC=> ?_,λi o hi=>⟨(r.fr i o hi).1,?_⟩,λi hi=> ?_⟩
 ·obtain ⟨v,v1,v2⟩:=r.tm t x hx hu;exact ⟨v,v1,v2.same (.refl F) λk jC=>hg k λe=>hk.1 t x hx (e ▸ jC)⟩
 ·rw[show ({ts:=s.ts,bs:=(K2,b2)::(K,b1)::s.bs}:LS).bs=(K2,b2)::(K,b1)::s.bs from rfl,dz,dz] at jC;unfold lT;split at jC
  ·rename_i e;cases jC;rw[aH e,e];exact ⟨h2,n2,λp hp=>⟨(own p (hs p (iz _ hp))).1,aH (cO.2 ⟨p,hp,rfl⟩)⟩⟩
  ·rename_i e2;rw[aL e2];split at jC
   ·rename_i e;cases jC;rw[aH e,e];refine ⟨h1,n1,λp hp=>⟨(own p (hs p (gE _ hp))).1,?_⟩⟩
    rw[aL λhm=>n3 p.1 (cO.2 ⟨p,hp,rfl⟩) p.1 hm rfl]
    exact (own p (hs p (gE _ hp))).2
   ·rename_i e;rw[aL e];obtain ⟨q1,q2,q3⟩:=r.bx k b' jC;refine ⟨q1.same (.refl F) (hg k e2) λj hj=>hg j λe=>hk.2 k b' e2 jC (e ▸ hj),q2,λp hp=>⟨(q3 p hp).1,?_⟩⟩
    rw[aL (off e (q3 p hp).2)];exact (q3 p hp).2
 ·have:=(r.fr i o hi).2;rw[aL λhm=> ?_]
  ·exact this
  ·obtain ⟨p,hp,rfl⟩:=cO.1 hm;rw[(own p (hs p (iz _ hp))).2] at this;cases this
 ·rw[aL λhm=> ?_]
  ·exact r.cn i hi
  ·obtain ⟨p,hp,rfl⟩:=cO.1 hm;have:=(own p (hs p (iz _ hp))).1;rw[hi] at this;cases this
open Classical in
def Rel.join (r:Rel F g Y c s T H) {K2:Nat} {b1 b2:Bx} (hb:lk K s.bs=some b) (EO:lk K2 s.bs=some b2) (cZ:K≠K2) (h1:eH F g K b1 L1) (hs:∀p∈L1,p∈Y K\/p∈Y K2) (nd:(L1.map (·.1)).Nodup):
  Rel F g (lT Y K L1) (λi=>if i∈L1.map (·.1) then some K else c i) ⟨s.ts,(K,b1)::ki K2 s.bs⟩ T H:=by
 have o1:=(r.bx K b hb).2.2;have o2:=(r.bx K2 b2 EO).2.2;have own:∀p∈L1,H p.1=some p.2/\(c p.1=some K\/c p.1=some K2):=λp hp=>(hs p hp).elim (λh=>⟨(o1 p h).1,.inl (o1 p h).2⟩) λh=>⟨(o2 p h).1,.inr (o2 p h).2⟩
 refine ⟨r.tm,λk b' jC=> ?_,λi o hi=>⟨(r.fr i o hi).1,?_⟩,λi hi=> ?_⟩
 ·rw[show ({ts:=s.ts,bs:=(K,b1)::ki K2 s.bs}:LS).bs=(K,b1)::ki K2 s.bs from rfl,dz,vr] at jC;unfold lT;split at jC
  ·rename_i e;cases jC;rw[aH e,e];exact ⟨h1,nd,λp hp=>⟨(own p hp).1,aH (cO.2 ⟨p,hp,rfl⟩)⟩⟩
  ·rename_i e;split at jC
   ·cases jC
   ·rename_i e2;rw[aL e];obtain ⟨q1,q2,q3⟩:=r.bx k b' jC;refine ⟨q1,q2,λp hp=>⟨(q3 p hp).1,?_⟩⟩
    rw[aL λhm=> ?_]
    ·exact (q3 p hp).2
    ·obtain ⟨p',yV,e'⟩:=cO.1 hm;have:=(own p' yV).2;rw[show p'.1=p.1 from e',(q3 p hp).2] at this;rcases this with h|h
     ·exact e (kV h)
     ·exact e2 (kV h)
 ·have:=(r.fr i o hi).2;rw[aL λhm=> ?_]
  ·exact this
  ·obtain ⟨p,hp,rfl⟩:=cO.1 hm;rcases (own p hp).2 with h|h<;>(rw[h] at this;cases this)
 ·rw[aL λhm=> ?_]
  ·exact r.cn i hi
  ·obtain ⟨p,hp,rfl⟩:=cO.1 hm;have:=(own p hp).1;rw[hi] at this;cases this
end
section
variable {F F':Hf} {g g':Gb} {Y:Nat->Ow} {c:Nat->bP} {s s':LS} {T:Tf} {H:Hf} {E:Env} {pn:Nat->Bool}
def cvX (w b:Bx):Bx:=
 match w,cvB w b with
 | .cy _ _ _ l' _ o',.cy z e s l Q o=>.cy z e s (aQ (aan l l' Q) l' l) Q (match o' with| []=> []|_=>o)
 |_,b=>b
def acw {w:Bx} (q:eH F g k b L):eH F g k (cvX w b) L:=by
 have q:=aFv (w:=w) q;unfold cvX;generalize cvB w b=b' at q;split
 ·rename_i l' _ o' z e s l Q o;rw[bH];cases q with
  |nil hb=>cases o'<;>exact .nil hb
  |cy hb hz hu hc q1 ho=>
   refine .cy hb hz hu hc ?_ ?_
   ·split
    ·rename_i h;exact ahy h q1
    ·exact q1
   ·split
    ·exact λp hp=>by cases hp
    ·exact ho
 ·exact q
def cvT (w:fA) (ts:fA):fA:=w.map λp=>(p.1,cv p.2 ((lk p.1 ts).getD .undef))
def N5 (bs:cL):cL->Option cL
 | []=>some []
 |p::l=>bT (lk p.1 bs) (N5 bs l) λb r=>some ((p.1,cvX p.2 b)::r)
def aix {bs:cL} {k:Nat} {b':Bx}:∀{w r:cL},N5 bs w=some r->lk k r=some b'->∃w b,lk k bs=some b/\b'=cvX w b
 | [],r,h,hk=>by cases h;cases hk
 |p::l,r,h,hk=>by
  obtain ⟨b,r',h1,h2,h⟩:=bp h;cases h;rw[dz] at hk;split at hk
  ·rename_i e;cases hk;exact ⟨p.2,b,e ▸ h1,rfl⟩
  ·exact aix h2 hk
def arB {ts:fA} {t:Nat} {y:AV}:∀{w:fA},lk t (cvT w ts)=some y->∃w,y=cv w ((lk t ts).getD .undef)
 | [],h=>by cases h
 |p::l,h=>by
  rw[show cvT (p::l) ts=(p.1,cv p.2 ((lk p.1 ts).getD .undef))::cvT l ts from rfl,dz] at h;split at h
  ·rename_i e;cases h;exact ⟨p.2,by rw[e]⟩
  ·exact arB h
def N4 (w:AV):cv w .undef= .undef:=by cases w<;>rfl
def Rel.cv (r:Rel F g Y c s T H) {w:LS} (h:N5 s.bs w.bs=some bs):Rel F g Y c ⟨cvT w.ts s.ts,bs⟩ T H:=
 {r with
  tm:=λt y hy hn=>by
   obtain ⟨w,rfl⟩:=arB hy;cases hl:lk t s.ts with
   |none=>rw[hl] at hn;exact absurd (N4 w) hn
   |some x=>
    rw[hl] at hn;obtain ⟨v,v1,v2⟩:=r.tm t x hl λe=>hn (by rw[e];exact N4 w)
    exact ⟨v,v1,CS v2⟩
  bx:=λk b hk=>by
   obtain ⟨w,b0,h0,rfl⟩:=aix h hk;obtain ⟨q,q2⟩:=r.bx k b0 h0;exact ⟨acw q,q2⟩}
def jP.cv {w:LS} (h:N5 s.bs w.bs=some bs):jP pn s ⟨cvT w.ts s.ts,bs⟩:=.mk λr=>⟨_,_,_,_,.refl _,λ_ _=>rfl,r.cv h⟩
def zk (K K' k:Nat):Nat:=aQ (Nat.beq k K) K' k
def ahF (K K' k:Nat):zk K K' k=if k=K then K' else k:=by
 unfold zk;rw[bH];by_cases h:k=K
 ·rw[aH h,aH ((beq_iff _ _).2 h)]
 ·rw[aL h,aL (λe=>h ((beq_iff _ _).1 e))]
def LS.jq (s:LS) (K K':Nat):LS:=⟨s.ts.map λp=>(p.1,Dq (zk K K') p.2),s.bs.map λp=>(zk K K' p.1,p.2.jq (zk K K'))⟩
def apQ {K K' k:Nat} {b':Bx}:∀{l:cL},lk K' l=none->lk k (l.map λp=>(zk K K' p.1,p.2.jq (zk K K')))=some b'->∃k0 b0,lk k0 l=some b0/\zk K K' k0=k/\k0≠K'/\b'=b0.jq (zk K K')
 |(j,x)::l,hn,h=>by
  rw[dz] at hn;rw[jc,dz] at h;split at hn
  ·cases hn
  ·rename_i hj;split at h
   ·rename_i e;cases h;exact ⟨j,x,by rw[dz,aH rfl],e.symm,λc=>hj c.symm,rfl⟩
   ·rename_i e;obtain ⟨k0,b0,a1,a2,a3,a4⟩:=apQ hn h;exact ⟨k0,b0,by rw[dz,aL (λc=>e (by rw[<-a2,c])),a1],a2,a3,a4⟩
def jP.jq {K':Nat} (hk:s.free K') (yV:pn K'=false) (hn:lk K' s.bs=none):jP pn s (s.jq K K'):=.mk λ{F g Y c T H} r=>by
 let g2:Gb:=λk=>if k=K' then g K else g k
 have one:∀k,k≠K'->g2 (zk K K' k)=g k:=λk jC=>by
  rw[ahF];by_cases e:k=K
  ·subst e;rw[aH rfl];exact aH rfl
  ·rw[aL e];exact aL jC
 let φ2:Nat->Ow:=λk=>if k=K' then Y K else Y k
 let c2:Nat->bP:=λi=>(c i).map (zk K K')
 refine ⟨F,g2,φ2,c2,.refl _,λk jC=>aL λe=>(by rw[e,yV] at jC;cases jC),⟨λt y hy cZ=> ?_,λk b hb=> ?_,λi o hi=>⟨(r.fr i o hi).1,by show (c i).map _=none;rw[(r.fr i o hi).2];rfl⟩,λi hi=>by show (c i).map _=none;rw[r.cn i hi];rfl⟩⟩
 ·obtain ⟨x,hx,e⟩:=v7.1 ((Bn (λ(_:Nat) (x:AV)=>Dq (zk K K') x) t s.ts).symm.trans hy)
  subst e;by_cases hu:x= .undef
  ·subst hu;exact absurd rfl cZ
  ·obtain ⟨v,v1,v2⟩:=r.tm t x hx hu;exact ⟨v,v1,v2.map (.refl F) λk hm=>one k λe=>hk.1 t x hx (e ▸ hm)⟩
 ·obtain ⟨k0,b0,a1,a2,a3,rfl⟩:=apQ hn hb;obtain ⟨q1,q2,q3⟩:=r.bx k0 b0 a1;have hφ:φ2 k=Y k0:=by
   show (if k=K' then Y K else Y k)=_
   rw[<-a2,ahF];by_cases e:k0=K
   ·rw[aH e,aH rfl,e]
   ·rw[aL e,aL a3]
  rw[hφ];exact ⟨q1.mv (.refl F) (by rw[<-a2];exact one k0 a3) λk hm=>one k λe=>hk.2 k0 b0 a3 a1 (e ▸ hm),q2,λp hp=>⟨(q3 p hp).1,by show (c p.1).map _=_;rw[(q3 p hp).2,<-a2];rfl⟩⟩
def L7 (K sz:Nat) (x:AV):AV:=
 match x with
 | .lit .dE=>.ms K sz 0 0
 |x=>x
def hasC (cs:List (Nat×Nat)) (k i:Nat):Bool:=cs.any λq=>Nat.beq q.1 k&&Nat.beq q.2 i
def alZ (cs:List (Nat×Nat)) (k K sz:Nat):Nat->bc->bc
 |_,[]=> []
 |i,x::l=>aQ (hasC cs k i) (L7 K sz x) x::alZ cs k K sz (i+1) l
def ayU (cs:List (Nat×Nat)) (K sz k:Nat) (b:Bx):Bx:=
 match b with
 | .flat e l=>.flat e (alZ cs k K sz 0 l)
 | .cy z e s l Q o=>.cy z e s l Q (o.map λp=>(p.1,aQ (cs.any λq=>Nat.beq q.1 k) (L7 K sz p.2) p.2))
 |b=>b
def LS.born (s:LS) (ts:br) (cs:List (Nat×Nat)) (K:Nat) (z:Bool) (e sz:Nat):LS:=
 ⟨s.ts.map λp=>(p.1,aQ (lQ p.1 ts) (L7 K sz p.2) p.2),(s.set K (.rows z e sz [])).bs.map λp=>(p.1,ayU cs K sz p.1 p.2)⟩
def N8 {sz:Nat} (hb:(g K).b=false) (h:VA F g v x) (b:Bool):VA F g v (aQ b (L7 K sz x) x):=by
 rw[bH];split
 ·unfold L7;split
  ·cases h;exact .rn sz hb
  ·exact h
 ·exact h
def acD {cs:List (Nat×Nat)} {k K sz:Nat} (hb:(g K).b=false):∀{xs:bc} {vs:aY} {i:Nat},dA F g vs xs->dA F g vs (alZ cs k K sz i xs)
 | [],_,_,h=>h
 |x::l,_,i,.cons h t=>.cons (N8 hb h _) (acD hb t)
def jP.born {cs:List (Nat×Nat)} {e sz:Nat} (hk:s.free K) (hp:pn K=false):jP pn s (s.born ts cs K z e sz):=.mk λ{F g Y c T H} r=>by
 let g2:Gb:=lT g K ⟨0,.k 0,false⟩;have hb:(g2 K).b=false:=by show (lT g K _ K).b=false;unfold lT;rw[aH rfl]
 obtain ⟨c',r2,_,_,_⟩:=r.chg (K:=K) (b':=.rows z e sz []) (L':= []) (g':=g2) (H':=H) (.nil hb) (by simp) (λp hp=>by cases hp) (λi hi=>absurd rfl hi) (.inr ⟨hk,λk cZ=>aL cZ⟩)
 refine ⟨F,g2,_,c',.refl _,λk jC=>aL λe=>(by rw[e,hp] at jC;cases jC),r2.akm (ft:=λt x=>aQ (lQ t ts) (L7 K sz x) x) (fb:=λk b=>ayU cs K sz k b) r2.fr (λt=>by rw[bH];split<;>rfl) (λt v x _ hv=>N8 hb hv _) λk b L _ q=> ?_⟩
 cases q with
 |flat q=>exact .flat (acD hb q)
 |nil h=>exact .nil h
 |cy mU hz hu hc q ho=>
  refine .cy mU hz hu hc q λp hp=> ?_
  obtain ⟨p0,hp0,rfl⟩:=cO.1 hp;obtain ⟨v,v1,v2⟩:=ho p0 hp0;exact ⟨v,v1,N8 hb v2 _⟩
 |map h1 h2=>exact .map h1 h2
 |iter=>exact .iter
def nSh (l:dX):dX:=aQ (rk l) [] l
def aFd (q:TR F l vs Q L):TR F (nSh l) vs Q L:=by
 unfold nSh;rw[bH];split
 ·rename_i h;exact q.rk h rfl
 ·exact q
def TC.open {x x':Bool} {K2:Nat} {rows:bA} (q:TC F (.o x l2) v y L0) (hy:y=wi x' e2 xb n rows):∃gk L2,L2.Sublist L0/\∀g2:Gb,g2 K2=gk->eH F g2 K2 (.cy false e2 xb (nSh l2) rows []) L2/\VA F g2 v (.ms K2 xb 0 n):=by
 cases q with
 |any=>cases hy
 |nil=>
  injection hy with _ _ _ h1 h2
  subst h1;subst h2;exact ⟨⟨0,.k 0,false⟩,[],.refl _,λg2 e=>⟨.nil (by rw[e]),.rn _ (by rw[e])⟩⟩
 | @sl _ _ id cp svs e s n' Q L hn hu hc q=>
  injection hy with _ h1 h2 h3 h4
  subst h1;subst h2;subst h3;subst h4;subst hn;refine ⟨⟨id,cp,true⟩,_,.refl _,λg2 e=>⟨?_,?_⟩⟩
  ·have:=eH.cy (F:=F) (g:=g2) (K:=K2) (z:=false) (o:= []) (by rw[e]) (λh=>by cases h) hu (by rw[e];exact hc) (aFd q) (λp hp=>by cases hp)
   rwa[e] at this
  ·exact rn e
def avX (Q:bA) (j f:Nat) (x:Bool) (e2 s2 n:Nat) (rows:bA) (Q':bA):Prop:=∃R,Q[j]? =some R/\R[f]? =some (wi x e2 s2 n rows)/\Q.set j (gx R f [.undef])=Q'
def yk {R:bc} (h:f<R.length):gx R f [x]=R.set f x:=by
 show R.take f++ [x]++R.drop (f+1)=_;rw[List.set_eq_take_append_cons_drop,aH h];simp
def UU {sz:Nat} {R R':bc} (hu:∀r∈Q,r.length=sz) (h:R'.length=sz):∀r∈Q.set j R',r.length=sz:=λr hr=>by
 rcases YU hr with hr|rfl
 ·exact hu r hr
 ·exact h
def aao {R R':bc} (hj:Q[j]? =some R):Q.set j R'≠ []:=λe=>by
 have:=bN List.length e;rw[nc] at this;rw[wa.1 this] at hj;cases hj
def jP.opn {K2:Nat} {x x':Bool} {e sz:Nat} {rows:bA} (hb:lk K s.bs=some (.cy z e sz l Q o)) (hP:avX Q j f x' e2 xb n rows Q') (hl:(l.drop f).headD .d= .o x l2) (hk:s.free K2) (hp:pn K2=false) (hn:lk K2 s.bs=none):
  jP pn s ⟨s.ts,(K2,.cy false e2 xb (nSh l2) rows [])::(K,.cy z e sz l Q' ((j*sz+f,.ms K2 xb 0 n)::o))::s.bs⟩:=.mk λ{F g Y c T H} r=>by
 obtain ⟨R,hj,hf,rfl⟩:=hP;have hR:=(bY.1 hf).1;obtain ⟨s8,svs,L,hφ,hH,hu,hc,q,ho,_,hRl,_⟩:=r.row hb hj;obtain ⟨v,L1,L0,L2,h1,h2,h3,h4⟩:=q.foc hu hj hf;rw[hl] at h3 h4;obtain ⟨gk,LK,hs,eT⟩:=h3.open (K2:=K2) rfl;have cZ:K≠K2:=λe=>by rw[e,hn] at hb;cases hb
 obtain ⟨b1,b2⟩:=eT (lT g K2 gk) (aH rfl);have gK:lT g K2 gk K=g K:=aL cZ;have nd:=(r.bx K _ hb).2.1;rw[hφ,h2] at nd;have hv:svs[j*sz+f]? =some v:=by
  rw[eN] at h1;split at h1
  ·exact h1
  ·cases h1
 refine ⟨F,lT g K2 gk,_,_,.refl _,λk jC=>aL λe=>(by rw[e,hp] at jC;cases jC),r.split (b1:=.cy z e sz l (Q.set j (gx R f [.undef])) ((j*sz+f,.ms K2 xb 0 n)::o)) (L1:=((g K).n,.cells e svs)::(L1++([]++L2))) hb hk hn (λk cZ=>aL cZ) ?_ b1 (λp hp=> ?_) ?_⟩
 ·rw[<-gK];rw[yk hR];refine .cy (by rw[gK];exact s8) (λ_=>aao hj) (UU (R:=R) hu (by rw[nc];exact hRl)) (by rw[gK,nc];exact hc) (by rw[nc];exact h4 _ _ (.any v)) λp hp=> ?_
  rcases cH.1 hp with rfl|hp
  ·exact ⟨v,hv,b2⟩
  ·obtain ⟨w,w1,w2⟩:=ho p hp;exact ⟨w,w1,w2.same (.refl F) λk jC=>aL λ(ek:k=K2)=>hk.2 K _ cZ hb (ek ▸ Ag (cO.2 ⟨p,hp,rfl⟩) k jC)⟩
 ·rw[hφ,h2];have:(((g K).n,SO.cells e svs)::(L1++([]++L2))++LK).Subset (((g K).n,SO.cells e svs)::(L1++(L0++L2))):=λp hp=>by
   have hs:= @(hs.subset);simp only[yB,cH,eR,jW] at hp ⊢;rcases hp with h|(h|h)|h
   ·exact .inl h
   ·exact .inr (.inl h)
   ·exact .inr (.inr (.inr h))
   ·exact .inr (.inr (.inl (hs h)))
  exact this hp
 ·have key:((((g K).n,SO.cells e svs)::(L1++([]++L2))++L0).map (·.1)).Nodup:=by
   refine (List.Perm.nodup_iff ?_).1 nd;refine List.Perm.map _ ?_;rw[yB,jW,lu];exact .cons _ (.append_left _ List.perm_append_comm)
  exact ((YT hs _).map _).nodup key
def V3 (Q:bA) (j f:Nat) (y:AV) (Q':bA):Prop:=Dl Q j f [y]=some Q'
def Rel.cls (r:Rel F g Y c s T H) {K2:Nat} {z2 x:Bool} {e sz:Nat} {l2':dX} {rows:bA} (hb:lk K s.bs=some (.cy z e sz l Q ((p,.ms K2 xb 0 n)::o))) (EO:lk K2 s.bs=some (.cy z2 e2 xb l2' rows [])) (hp:p=j*sz+f) (hn:rows.length=n) (hP:V3 Q j f (wi x e2 xb n rows) Q') (hl:(l.drop f).headD .d= .o x l2) (hsh:aan l2' l2 rows=true) (hf:f<sz) (cZ:K≠K2):
  ∃φ' c',(∀i k,c' i=some k->c i=some k\/(k=K/\c i=some K2))/\Rel F g φ' c' ⟨(s.nP K2).ts,(K,.cy z e sz l Q' (o.map λp=>(p.1,nL K2 p.2)))::ki K2 (s.nP K2).bs⟩ T H:=by
 obtain ⟨R,hj,hQ⟩:=aq hP;cases hQ;subst hp;obtain ⟨s8,svs,L,hφ,hH,hu,hc,q,ho,_,hRl,_⟩:=r.row hb hj;obtain ⟨xo,hxo⟩:∃xo,R[f]? =some xo:=⟨R[f]'(by omega),dI _⟩
 obtain ⟨v,L1,L0,L2,h1,h2,h3,h4⟩:=q.foc hu hj hxo;rw[hl] at h4;obtain ⟨v',HS,hx⟩:=ho _ jt;have ev:v'=v:=by
  rw[eN] at h1;split at h1
  ·exact kV (HS.symm.trans h1)
  ·cases h1
 subst ev;obtain ⟨_,nd,own⟩:=r.bx K _ hb;obtain ⟨q2,nd2,aaO⟩:=r.bx K2 _ EO;have o4:TC F (.o x l2) v' (wi x e2 xb n rows) (Y K2):=by
  generalize Y K2=f2 at q2;cases q2 with
  |nil Jt=>
   cases hn;cases hx with
   |rn=>exact .nil
   |ms _ _ _ h=>rw[Jt] at h;cases h
   |xc _ _ h=>cases h
  |cy Jt xe hu1 sY q1 EI=>
   subst hn;generalize hm:rows.length=m at hx;cases hx with
   |rn _ h=>rw[Jt] at h;cases h
   |xc _ _ h=>cases h
   |ms=>
    subst hm;rw[lV];have:F4 (g K2).c 0=(g K2).c:=by cases (g K2).c<;>rfl
    rw[this];exact .sl rfl hu1 sY (ahy hsh q1)
 have lf:∀{k b},lk k s.bs=some b->lk k (s.nP K2).bs=some (b.nP K2):=λ{k b} hb=>by
  rw[show (s.nP K2).bs=s.bs.map λp=>(p.1,p.2.nP K2) from rfl,Bn (λ(_:Nat) (b:Bx)=>b.nP K2),hb];rfl
 have sub:∀p∈((g K).n,SO.cells e svs)::(L1++(Y K2++L2)),p∈Y K\/p∈Y K2:=λp hp=>by
  rw[hφ,h2];simp only[cH,eR] at hp ⊢;rcases hp with h|h|h|h
  ·exact .inl (.inl h)
  ·exact .inl (.inr (.inl h))
  ·exact .inr h
  ·exact .inl (.inr (.inr (.inr h)))
 refine ⟨_,_,λi k h=> ?_,(r.nP K2).join (b1:=.cy z e sz l (Q.set j (gx R f [wi x e2 xb n rows])) (o.map λp=>(p.1,nL K2 p.2))) (L1:=((g K).n,.cells e svs)::(L1++(Y K2++L2))) (lf hb) (lf EO) cZ ?_ sub ?_⟩
 ·split at h
  ·rename_i hm;obtain ⟨p,hp,rfl⟩:=cO.1 hm;cases h;exact (sub p hp).imp (λh=>(own p h).2) λh=>⟨rfl,(aaO p h).2⟩
  ·exact .inl h
 ·rw[yk (by omega)]
  refine .cy s8 (λ_=>aao hj) (UU (R:=R) hu (by rw[nc];exact hRl)) (by rw[nc];exact hc) (by rw[nc];exact h4 _ _ o4) λp hp=> ?_
  obtain ⟨p0,hp0,rfl⟩:=cO.1 hp;obtain ⟨w,w1,w2⟩:=ho p0 (fO _ hp0);exact ⟨w,w1,GP w2⟩
 ·rw[hφ,h2] at nd own;have hd:∀p∈Y K2,∀p'∈((g K).n,SO.cells e svs)::(L1++(L0++L2)),p.1≠p'.1:=λp hp p' yV e0=>by
   have h1:=(aaO p hp).2;rw[e0,(own p' yV).2] at h1;exact cZ (kV h1)
  have key:(((((g K).n,SO.cells e svs)::(L1++L2))++Y K2).map (·.1)).Nodup:=by
   rw[mB];have sl:(((g K).n,SO.cells e svs)::(L1++L2)).Sublist (((g K).n,SO.cells e svs)::(L1++(L0++L2))):=.cons_cons _ (YT (YS _ _) _);refine DO.2 ⟨(sl.map _).nodup nd,nd2,λa ha b mU e0=> ?_⟩
   obtain ⟨p',yV,rfl⟩:=cO.1 ha;obtain ⟨p,hp,rfl⟩:=cO.1 mU;exact hd p hp p' (sl.subset yV) e0.symm
  refine (List.Perm.nodup_iff ?_).1 key;refine List.Perm.map _ ?_;rw[yB,lu];exact .cons _ (.append_left _ List.perm_append_comm)
def alS (sh:Sh) (y x:AV):Option AV:=
 match sh with
 | .d=>aQ (jJ x).isEmpty (some (cv y x)) none
 | .o b _=>(match x,y with
  | .lit .dE,.sl _ e s _ _=>some (wi b e s 0 [])
  |_,_=>none)
def aCx {y':AV} (h:alS sh y x=some y') (q:VA F g v x):TC F sh v y' []:=by
 unfold alS at h;split at h
 ·obtain ⟨h1,h⟩:=aV h;cases h;exact .d (CS (q.qU h1))
 ·split at h
  ·cases h;cases q;exact .nil
  ·cases h
def eH.cld {e sz:Nat} {y':AV} (hp:p=j*sz+f) (hP:V3 Q j f y' Q') (hy:alS ((l.drop f).headD .d) y x=some y') (hf:f<sz) (q:eH F g K (.cy z e sz l Q ((p,x)::o)) L):∃L',L'.Sublist L/\eH F g K (.cy z e sz l Q' o) L':=by
 obtain ⟨R,hj,hQ⟩:=aq hP;cases hQ;subst hp;cases q with
 | @cy _ _ _ _ _ _ svs L s8 hz hu hc q ho=>
 have hRl:=hu R (cT hj);obtain ⟨xo,hxo⟩:∃xo,R[f]? =some xo:=⟨R[f]'(by omega),dI _⟩
 obtain ⟨v,L1,L0,L2,h1,h2,h3,h4⟩:=q.foc hu hj hxo;obtain ⟨v',HS,hx⟩:=ho _ jt;have ev:v'=v:=by
  rw[eN] at h1;split at h1
  ·exact kV (HS.symm.trans h1)
  ·cases h1
 subst ev;refine ⟨_,?_,.cy s8 (λ_=>aao hj) (UU (R:=R) hu (by rw[yk (by omega),nc];exact hRl)) (by rw[nc];exact hc) (by rw[yk (by omega),nc];exact h4 _ _ (aCx hy hx)) λp hp=>ho p (fO _ hp)⟩
 rw[h2];exact .cons_cons _ (YT (YS _ _) _)
def jP.shr {e sz:Nat} {P:bA} (hb:lk K s.bs=some (.cy z e sz l Q o)) (hP:Q.take u=P):jP pn s (s.set K (.cy false e sz l P [])):=by
 subst hP;refine jP.Ge hb λ{F g L} q=> ?_
 cases q with
 |nil hbf=>exact ⟨[],.refl _,by rw[List.take_nil];exact .nil hbf⟩
 | @cy _ _ _ _ _ _ svs L s8 hz hu hc q ho=>
  obtain ⟨L',hs,q'⟩:=q.take u hu;have hle:(Q.take u).length<=Q.length:=by rw[dR];exact Nat.min_le_right _ _
  have e1:min (u*sz) (Q.length*sz)=(Q.take u).length*sz:=by
   rw[dR];rcases Nat.le_total u Q.length with h|h
   ·rw[fB h,fB (kK _ h)]
   ·rw[Nat.min_eq_right h,Nat.min_eq_right (kK _ h)]
  rw[oD,e1] at q';refine ⟨_,.cons_cons _ hs,.cy s8 (λe=>by cases e) (λr hr=>hu r (qG hr)) ?_ q' λp hp=>by cases hp⟩
  cases hκ:(g K).c with
  |k m=>rw[hκ] at hc;exact ⟨jj hle hc.1,hc.2⟩
  |u e'=>rw[hκ] at hc;exact ⟨hc.1,jj (kK _ hle) hc.2⟩
def cvQ:bA->bA->bA
 |w::ws,r::rs=>JL w r::cvQ ws rs
 |_,rs=>rs
def aiw:∀(ws xs:bc),(JL ws xs).length=xs.length
 | [],_=>rfl
 |_::_,[]=>rfl
 |_::ws,_::xs=>bN Nat.succ (aiw ws xs)
def LX:∀(W Q:bA),(cvQ W Q).length=Q.length
 | [],_=>rfl
 |_::_,[]=>rfl
 |_::W,_::Q=>bN Nat.succ (LX W Q)
def alN {sz:Nat}:∀{W Q:bA},(∀r∈Q,r.length=sz)->∀r∈cvQ W Q,r.length=sz
 | [],_,hu,r,hr=>hu r hr
 |_::_,[],_,r,hr=>by cases hr
 |w::W,q::Q,hu,r,hr=>by
  rcases cH.1 (show r∈JL w q::cvQ W Q from hr) with rfl|hr
  ·rw[aiw];exact hu q (by simp)
  ·exact alN (λr hr=>hu r (fO _ hr)) r hr
def arC:∀{W Q:bA} {vs:aY},dA F g vs Q.flatten->dA F g vs (cvQ W Q).flatten
 | [],_,_,q=>q
 |_::_,[],_,q=>q
 |w::W,r::Q,vs,q=>by
  rw[qF] at q;have q1:=q.take r.length;have q2:=q.drop r.length;rw[YR] at q1;rw[YQ] at q2;have:=(EY (ws:=w) q1).append (arC (W:=W) q2);rw[DN] at this;exact this
def eH.brw {e sz:Nat} {W:bA} (ha:rk l=true) (q:eH F g K (.cy z e sz l Q o) L):∃L',L'.Sublist L/\eH F g K (.cy z e sz [] (cvQ W Q) o) L':=by
 cases q with
 |nil hb=>exact ⟨[],.refl _,by cases W<;>exact .nil hb⟩
 |cy hb hz hu hc q ho=>exact ⟨_,.cons_cons _ (Oy _),.cy hb (λh e0=>hz h (wa.1 (by rw[<-LX W Q,e0];rfl))) (alN hu) (by rw[LX];exact hc) (by rw[LX];exact .uI (alN hu) (arC (q.rk ha rfl).dat)) ho⟩
inductive Gp where
 |fX (K m n:Nat)
 |jq (K K':Nat)
 |born (ts:br) (cs:List (Nat×Nat)) (K:Nat) (z:Bool) (e sz:Nat)
 |shr (K u:Nat) (P:bA)
 |opn (K K2 j f e2 s2 n:Nat) (rows Q':bA)
 |cls (K K2 j f n:Nat) (Q':bA)
 |cld (K j f:Nat) (y:AV) (Q':bA)
 |vis (t:Nat) (y:AV)
 |bis (K:Nat) (b:Bx)
 |zN (t:Nat) (w:AV)
 |pZ (K:Nat) (w:Bx)
 |brw (K:Nat) (W:bA)
def shX (l:dX) (f:Nat):Option (Bool×dX):=
 match (l.drop f).headD .d with
 | .o x l2=>some (x,l2)
 |_=>none
def aam {p:Bool×dX} (h:shX l f=some p):(l.drop f).headD .d= .o p.1 p.2:=by
 unfold shX at h;split at h
 ·rename_i e;cases h;exact e
 ·cases h
def GJ (pn:Nat->Bool) (s:LS) (gp:Gp) (ob:Prop->cD):Option (List cD×LS):=
 match gp with
 | .fX K m n=>az (lk K s.bs) λb=>some (aca s K n b ob,s.acb K m n b)
 | .jq K K'=>aQ (LO s K'&&(!pn K'&&(lk K' s.bs).isNone)) (some ([],s.jq K K')) none
 | .born ts cs K z e sz=>aQ (LO s K && !pn K) (some ([],s.born ts cs K z e sz)) none
 | .shr K u P=>az (lk K s.bs) λb=>(match b with
  | .cy _ e sz l Q _=>some ([ob (Q.take u=P)],s.set K (.cy false e sz l P []))
  |_=>none)
 | .opn K K2 j f e2 s2 n rows Q'=>az (lk K s.bs) λb=>(match b with
  | .cy z e sz l Q o=>az (shX l f) λx=>aQ (LO s K2&&(!pn K2&&(lk K2 s.bs).isNone)) (some ([ob (avX Q j f x.1 e2 s2 n rows Q')],⟨s.ts,(K2,.cy false e2 s2 (nSh x.2) rows [])::(K,.cy z e sz l Q' ((Nat.add (Nat.mul j sz) f,.ms K2 s2 0 n)::o))::ki K s.bs⟩)) none
  |_=>none)
 | .cls K K2 j f n Q'=>bT (lk K s.bs) (lk K2 s.bs) λb b2=>(match b,b2 with
  | .cy z e sz l Q ((p,.ms k2 s2 0 n0)::o),.cy _ e2 xb l2' rows []=>az (shX l f) λx=>aQ ((Nat.beq k2 K2&&Nat.beq s2 xb)&&(aan l2' x.2 rows&&(Nat.ble (Nat.succ f) sz && !Nat.beq K K2)))
    (some ([ob (rows.length=n/\V3 Q j f (wi x.1 e2 xb n rows) Q'),eqO n0 n,eqO p (Nat.add (Nat.mul j sz) f)],⟨(s.nP K2).ts,(K,.cy z e sz l Q' (o.map λp=>(p.1,nL K2 p.2)))::ki K (ki K2 (s.nP K2).bs)⟩)) none
  |_,_=>none)
 | .cld K j f y Q'=>az (lk K s.bs) λb=>(match b with
  | .cy z e sz l Q ((p,x)::o)=>az (alS ((l.drop f).headD .d) y x) λy'=>aQ (Nat.ble (Nat.succ f) sz) (some ([ob (V3 Q j f y' Q'),eqO p (Nat.add (Nat.mul j sz) f)],s.set K (.cy z e sz l Q' o))) none
  |_=>none)
 | .vis t y=>az (lk t s.ts) λx=>some ([ob (x=y)],⟨(t,y)::ki t s.ts,s.bs⟩)
 | .bis K b=>az (lk K s.bs) λb0=>some ([ob (b0=b)],⟨s.ts,(K,b)::ki K s.bs⟩)
 | .zN t w=>az (lk t s.ts) λx=>some ([],⟨(t,cv w x)::ki t s.ts,s.bs⟩)
 | .pZ K w=>az (lk K s.bs) λb=>some ([],s.set K (cvX w b))
 | .brw K W=>az (lk K s.bs) λb=>(match b with
  | .cy z e sz l Q o=>aQ (rk l) (some ([],s.set K (.cy z e sz [] (cvQ W Q) o))) none
  |_=>none)
def jP.lks (h1:∀t,lk t s'.ts=lk t s.ts) (h2:∀k,lk k s'.bs=lk k s.bs):jP pn s s':=.mk λr=>⟨_,_,_,_,.refl _,λ_ _=>rfl,r.sub (λt x h=>(h1 t).symm.trans h) λk b h=>(h2 k).symm.trans h⟩
def vt {t:Nat} {x:J} {l:List (Nat×J)}:lk k ((t,x)::ki t l)=lk k ((t,x)::l):=by
 rw[dz,dz,vr];split
 ·rfl
 ·rfl
def Rel.gcls (r:Rel F g Y c s T H) {K2:Nat} {ob:Prop->cD} (gQ:∀P,(ob P).need=P) {q:List cD×LS} (h:GJ pn s (.cls K K2 j f n Q') ob=some q) (ho:iF q.1):∃φ' c',(∀i k,c' i=some k->c i=some k\/(k=K/\c i=some K2))/\Rel F g φ' c' q.2 T H:=by
 obtain ⟨b,b2,hb,EO,h⟩:=bp h;split at h
 ·rename_i z e sz l Q p k2 s2 n0 o z2 e2 xb l2' rows;obtain ⟨x,hx,h⟩:=aq h;obtain ⟨h1,h⟩:=aV h;cases h;simp only[bF] at h1;obtain ⟨⟨k1,k3⟩,k4,k5,k6⟩:=h1;obtain rfl:=(beq_iff _ _).1 k1;obtain rfl:=(beq_iff _ _).1 k3;obtain ⟨hp,hn,hpp,_⟩:=ho;rw[gQ] at hp;have hn:n0=n:=hn;subst hn;obtain ⟨φ',c',a1,a2⟩:=r.cls hb EO hpp hp.1 hp.2 (aam hx) k4 ((bV _ _).1 k5) (λe=>by rw[(beq_iff _ _).2 e] at k6;cases k6)
  exact ⟨φ',c',a1,a2.sub (λ_ _ h=>h) λk b h=>vt.symm.trans h⟩
 ·cases h
def auS {gp:Gp} {ob:Prop->cD} (gQ:∀P,(ob P).need=P) {q:List cD×LS} (h:GJ pn s gp ob=some q) (ho:iF q.1):jP pn s q.2:=by
 cases gp with
 |fX K m n=>
  obtain ⟨b,hb,h⟩:=aq h;cases h;exact .mk λr=>by
   obtain ⟨F',c',hF,_,r'⟩:=r.fX (m:=m) gQ hb ho;exact ⟨F',_,_,c',hF,λ_ _=>rfl,r'⟩
 |jq K K'=>
  obtain ⟨h1,h⟩:=aV h;cases h;simp only[bF] at h1;exact jP.jq (BK h1.1) (by simpa using h1.2.1) (by simpa using h1.2.2)
 |born ts cs K z e sz=>
  obtain ⟨h1,h⟩:=aV h;cases h;rw[bF] at h1;exact jP.born (BK h1.1) (by simpa using h1.2)
 |shr K u P=>
  obtain ⟨b,hb,h⟩:=aq h;split at h
  ·cases h;have hp:=ho.1;rw[gQ] at hp;exact jP.shr hb hp
  ·cases h
 |opn K K2 j f e2 s2 n rows Q'=>
  obtain ⟨b,hb,h⟩:=aq h;split at h
  ·rename_i z e sz l Q o;obtain ⟨x,hx,h⟩:=aq h;obtain ⟨h1,h⟩:=aV h;cases h;simp only[bF] at h1;have hp:=ho.1;rw[gQ] at hp;refine (jP.opn hb hp (aam hx) (BK h1.1) (by simpa using h1.2.1) (by simpa using h1.2.2)).trans (jP.lks (λ_=>rfl) λk=> ?_)
   show lk k ((K2,_)::(K,_)::ki K s.bs)=lk k ((K2,_)::(K,_)::s.bs);rw[dz,dz (k:=K2),vt];rfl
  ·cases h
 |cls K K2 j f n Q'=>exact .mk λr=>
  let ⟨φ',c',_,r'⟩:=r.gcls gQ h ho;⟨_,_,φ',c',.refl _,λ_ _=>rfl,r'⟩
 |cld K j f y Q'=>
  obtain ⟨b,hb,h⟩:=aq h;split at h
  ·rename_i z e sz l Q p x o;obtain ⟨y',hy,h⟩:=aq h;obtain ⟨h1,h⟩:=aV h;cases h;obtain ⟨hp,hpp,_⟩:=ho;rw[gQ] at hp;exact jP.Ge hb λq=>eH.cld hpp hp hy ((bV _ _).1 h1) q
  ·cases h
 |vis t y=>
  obtain ⟨x,hx,h⟩:=aq h;cases h;have hp:=ho.1;rw[gQ] at hp;subst hp;refine jP.lks (λk=> ?_) λ_=>rfl
  show lk k ((t,x)::ki t s.ts)=_;rw[vt,dz];split
  ·rename_i e;rw[e,hx]
  ·rfl
 |bis K b=>
  obtain ⟨x,hx,h⟩:=aq h;cases h;have hp:=ho.1;rw[gQ] at hp;subst hp;refine jP.lks (λ_=>rfl) λk=> ?_
  show lk k ((K,x)::ki K s.bs)=_;rw[vt,dz];split
  ·rename_i e;rw[e,hx]
  ·rfl
 |zN t w=>
  obtain ⟨x,hx,h⟩:=aq h;cases h;refine .mk λ{F g Y c T H} r=>⟨F,g,Y,c,.refl _,λ_ _=>rfl,{r with tm:=λk y hy hn=> ?_}⟩
  rw[show ({ts:=(t,cv w x)::ki t s.ts,bs:=s.bs}:LS).ts=(t,cv w x)::ki t s.ts from rfl,vt,dz] at hy;split at hy
  ·rename_i e;cases hy;obtain ⟨v,v1,v2⟩:=r.tm t x hx λe=>hn (by rw[e];exact N4 w)
   exact ⟨v,e ▸ v1,CS v2⟩
  ·exact r.tm k y hy hn
 |pZ K w=>
  obtain ⟨b,hb,h⟩:=aq h;cases h;exact jP.Ge hb λq=>⟨_,.refl _,acw q⟩
 |brw K W=>
  obtain ⟨b,hb,h⟩:=aq h;split at h
  ·obtain ⟨ha,h⟩:=aV h;cases h;exact jP.Ge hb λq=>q.brw ha
  ·cases h
end
end Go.bX
namespace Go.bX
open Go.RowKit
variable {f nx nx' K k j i:Nat} {v:SV} {H' F1:Hf} {o:SO} {bs gd:cL} {c1 c':Nat->bP} {gc:Gb} {φ':Nat->Ow}
section
variable {F F':Hf} {g g':Gb} {Y:Nat->Ow} {c:Nat->bP} {s s':LS} {T:Tf} {H:Hf} {E:Env} {pn:Nat->Bool}
def mJ (k:Nat):Bool:=Nat.ble 1152921504606846976 k
def evK (k:Nat):Bool:=Nat.beq (Nat.mod (Nat.div k 4294967296) 2) 0
def pnL (ks:br) (k:Nat):Bool:=mJ k||(evK k&&lQ k ks)
def uK (bs:cL):br:=bs.map (·.1)
def noT:Tf:=λ_=>none
structure kn (ro:Bool) (E:Env) (f:Nat) (bs:cL) (xs:bc) (y:AV) (gd:cL):Prop where
 go:∀{F:Hf} {g:Gb} {Y:Nat->Ow} {c:Nat->bP} {H:Hf} {nx:Nat} {aa:aY},Rel F g Y c ⟨[],bs⟩ noT H->(∀x,nx<=x->H x=none)->dA F g aa xs->∃F' g' φ' c' v H' nx',oC E false (.fn (.func f) [] []) aa H nx v H' nx'/\nx<=nx'/\(∀x,nx'<=x->H' x=none)/\
  nu F F'/\(∀k,pnL (uK bs) k=true->g' k=g k)/\VA F' g' v y/\Rel F' g' φ' c' ⟨[],gd⟩ noT H'/\(∀x,x<nx->H' x≠none->H x≠none)/\(ro=true->∀x,H x≠none->H' x=H x/\c' x=c x)
abbrev gn (E:Env) (f:Nat) (bs:cL) (xs:bc) (y:AV) (gd:cL):Prop:=kn false E f bs xs y gd
def apc {fi aa ca:aY} (h:oC E false (.fn (.func f) [] []) (fi++aa++ca) H nx v H' nx'):oC E false (.fn (.func f) fi ca) aa H nx v H' nx':=λm g w u us hE hr eV hu jL=>by
 cases hu with
 | @fn _ first eG _ _ h1 h2=>
 have h0:VR g (.func (.func f) #[] #[]) (.fn (.func f) [] []):=.fn .nil .nil;obtain ⟨d,hd,hc⟩:=h m g w _ (first.toList++us++eG.toList) hE hr eV h0 ((h1.append jL).append h2)
 have hd:Result.ok ({target:=.fn (.func f) #[],args:= #[]++(first.toList++us++eG.toList).toArray}:Deferred) w=Result.ok d w:=hd
 injection hd with e
 subst e;have key:invoke (.fn (.func f) #[]) (#[]++(first.toList++us++eG.toList).toArray)=invoke (.fn (.func f) eG) (first++us.toArray):=by
  show callFunc f (#[]++(first.toList++us++eG.toList).toArray++ #[])=callFunc f (first++us.toArray++eG)
  congr 1;apply uD;simp
 refine ⟨{target:=.fn (.func f) eG,args:=first++us.toArray},rfl,?_⟩
 show (∃k aa,Sem.run E.P (invoke (.fn (.func f) eG) (first++us.toArray)) w=_/\_)\/(∃l k tmps aa bo,Sem.run E.P (invoke (.fn (.func f) eG) (first++us.toArray)) w=_/\_)\/∃r w',Sem.run E.P (invoke (.fn (.func f) eG) (first++us.toArray)) w=_/\_
 rw[<-key];exact hc
abbrev gJ:=List (Nat×Nat)
def iT (al:gJ):gJ:=al.map λq=>(q.2,q.1)
def rq (al:gJ) (K:Nat):Nat:=(lk K al).getD K
def NU (l:gJ) (K:Nat):Bool:=(lk K l).isSome
def Am (al:gJ):Bool:=al.all λq=>Nat.beq (rq al q.1) q.2&&Nat.beq (rq (iT al) q.2) q.1
def idP (al:gJ) (k:Nat):Bool:=mJ k&&(!NU al k && !NU (iT al) k)
def Ez {J:Type} {t:Nat} {x:J}:∀{l:List (Nat×J)},(t,x)∈l->∃y,lk t l=some y
 |(k,y)::l,h=>by
  rw[dz];split
  ·exact ⟨_,rfl⟩
  ·rename_i e;rcases cH.1 h with h|h
   ·exact absurd (bN Prod.fst h) e
   ·exact Ez h
def I3 {J:Type} {t:Nat} {x:J} (b:List (Nat×J)):∀{a:List (Nat×J)},lk t a=some x->lk t (a++b)=some x
 |(k,y)::a,h=>by
  rw[yB];rw[dz] at h ⊢;split
  ·rename_i e;rw[aH e] at h;exact h
  ·rename_i e;rw[aL e] at h;exact I3 b h
def tC {l:gJ} (h:lk K l=some k):rq l K=k:=by unfold rq;rw[h];rfl
def BG {al:gJ} (hg:Am al=true) (h:(K,k)∈al):lk K al=some k/\lk k (iT al)=some K:=by
 have:=kL.1 ((iJ.1 hg) (K,k) h);obtain ⟨j,hj⟩:=Ez h;obtain ⟨j',Jj⟩:=Ez (l:=iT al) (cO.2 ⟨(K,k),h,rfl⟩);have e1:=(beq_iff _ _).1 this.1;have e2:=(beq_iff _ _).1 this.2;rw[tC hj] at e1;rw[tC Jj] at e2;exact ⟨(show j=k from e1) ▸ hj,(show j'=K from e2) ▸ Jj⟩
def tw {al:gJ} (hg:Am al=true):lk k (iT al)=some K↔lk K al=some k:=by
 constructor
 ·intro h;obtain ⟨q,hq,e⟩:=cO.1 (nX h);cases e;exact (BG hg hq).1
 ·exact λh=>(BG hg (nX h)).2
def ahW {l:gJ} (h:(!NU l k)=true):lk k l=none:=by
 unfold NU at h;cases hl:lk k l with
 |none=>rfl
 |some j=>rw[hl] at h;cases h
def abE {al:gJ} (h:idP al k=true):mJ k=true/\lk k al=none/\lk k (iT al)=none:=by
 have h:=kL.1 (show (mJ k&&(!NU al k && !NU (iT al) k))=true from h);have h2:=kL.1 h.2;exact ⟨h.1,ahW h2.1,ahW h2.2⟩
def ET {l:gJ} (h:lk k l=none):rq l k=k:=by unfold rq;rw[h];rfl
def inK (ps al:gJ) (k:Nat):Bool:=NU ps k||idP al k
def blP (al:gJ) (k:Nat):Bool:=match lk k al with|some k'=>mJ k'|none=>false
def inP (ps al:gJ) (k:Nat):Bool:=inK ps al k||blP al k
def CC (al:gJ):gJ:=al.filter λq=> !mJ q.2
def apR {al:gJ} (hg:Am al=true):lk j (CC al)=some k↔lk j al=some k/\mJ k=false:=by
 have fwd:∀{k},lk j (CC al)=some k->lk j al=some k/\mJ k=false:=λ{k} h=>by
  obtain ⟨h1,h2⟩:=lr.1 (nX h);exact ⟨(BG hg h1).1,by simpa using h2⟩
 refine ⟨fwd,λ⟨h1,h2⟩=> ?_⟩
 obtain ⟨y,hy⟩:=Ez (l:=CC al) (lr.2 ⟨nX h1,by simp[h2]⟩)
 have:=(fwd hy).1;rw[h1] at this;cases this;exact hy
def M3 {al:gJ} (hg:Am al=true) (h:lk j (CC al)=none) (hk:lk j al=some k):mJ k=true:=by
 cases hb:mJ k with
 |true=>rfl
 |false=>rw[(apR hg).2 ⟨hk,hb⟩] at h;cases h
def Pu (ps al:gJ) (sb:cL):cL->Option cL
 | []=>some []
 |p::l=>bT (az (lk p.1 (iT ps)) λK=>lk K sb) (Pu ps al sb l) λb r=>aQ (b.keys.all (inP ps al)) (some ((p.1,cvX p.2 (b.jq (rq al)))::r)) none
def aaM {ps al:gJ} {sb:cL} {k:Nat} {b':Bx}:∀{l r:cL},Pu ps al sb l=some r->lk k r=some b'->∃K b w,lk k (iT ps)=some K/\lk K sb=some b/\b.keys.all (inP ps al)=true/\b'=cvX w (b.jq (rq al))
 | [],r,h,hk=>by cases h;cases hk
 |p::l,r,h,hk=>by
  obtain ⟨b,r',h1,h2,h⟩:=bp h;obtain ⟨K,hK,hb⟩:=aq h1;obtain ⟨h3,h⟩:=aV h;cases h;rw[dz] at hk;split at hk
  ·rename_i e;cases hk;exact ⟨K,b,p.2,e ▸ hK,hb,h3,rfl⟩
  ·exact aaM h2 hk
open Classical in
def qB (F:Hf) (c:Nat->bP) (ps:gJ) (H:Hf):Hf:=λi=>if F i≠none\/∃K,c i=some K/\lk K ps≠none then H i else none
def NJ {ps:gJ} (h:qB F c ps H i=some o):H i=some o:=by
 unfold qB at h;split at h
 ·exact h
 ·cases h
def aJN {ps rs:gJ} (hg:Am (ps++rs)=true):lk k (iT ps)=some K->lk K ps=some k/\lk K (ps++rs)=some k/\rq (iT (ps++rs)) k=K:=λh=>by
 obtain ⟨q,hq,e⟩:=cO.1 (nX h);cases e;obtain ⟨a,b⟩:=BG hg (gE _ hq);obtain ⟨j,hj⟩:=Ez hq;have:=I3 rs hj;rw[a] at this;cases this;exact ⟨hj,a,tC b⟩
def axX {ps rs:gJ} (hg:Am (ps++rs)=true) (h:inP ps (ps++rs) j=true):g (rq (iT (ps++rs)) (rq (ps++rs) j))=g j:=by
 rcases (pE _ _).mp h with h|h
 rcases (pE _ _).mp h with h|h
 ·obtain ⟨k,hk⟩:=Ox.1 (show (lk j ps).isSome=true from h);obtain ⟨a,b⟩:=BG hg (gE _ (nX hk));rw[tC a,tC b]
 ·obtain ⟨_,a,b⟩:=abE h;rw[ET a,ET b]
 ·unfold blP at h;split at h
  ·rename_i k hk;rw[tC hk,tC ((tw hg).2 hk)]
  ·cases h
def Rel.enter (r:Rel F g Y c s T H) {ps rs:gJ} {bsw:cL} (hg:Am (ps++rs)=true) (hp:Pu ps (ps++rs) s.bs bsw=some bs):
  Rel F (λk=>g (rq (iT (ps++rs)) k)) (λk=>Y (rq (iT (ps++rs)) k)) (λi=>(c i).bind λK=>lk K ps) ⟨[],bs⟩ noT (qB F c ps H):=by
 refine ⟨λt x hx=>(by cases hx),λk b' hk=> ?_,λi o hi=>⟨?_,?_⟩,λi hi=> ?_⟩
 ·obtain ⟨K,b,w,h1,h2,h3,rfl⟩:=aaM hp hk;obtain ⟨a1,a2,a3⟩:=aJN hg h1;obtain ⟨q1,q2,q3⟩:=r.bx K b h2;rw[a3];refine ⟨acw (q1.mv (.refl F) (bN g a3) λj hj=>axX hg (iJ.1 h3 j hj)),q2,λp hp=> ?_⟩
  obtain ⟨p1,p2⟩:=q3 p hp;refine ⟨?_,by rw[p2];exact a1⟩
  show (if F p.1≠none\/∃K,c p.1=some K/\lk K ps≠none then H p.1 else none)=_
  rw[aH (.inr ⟨K,p2,by rw[a1];simp⟩)]
  exact p1
 ·show (if F i≠none\/∃K,c i=some K/\lk K ps≠none then H i else none)=_
  rw[aH (.inl (by rw[hi];simp))]
  exact (r.fr i o hi).1
 ·rw[(r.fr i o hi).2];rfl
 ·have hi:(if F i≠none\/∃K,c i=some K/\lk K ps≠none then H i else none)=none:=hi
  cases hc:c i with
  |none=>rfl
  |some K=>
   split at hi
   ·rw[r.cn i hi] at hc;cases hc
   ·rename_i h;show lk K ps=none;exact nA λhn=>h (.inr ⟨K,hc,hn⟩)
def akC (al:gJ):cL->Option cL
 | []=>some []
 |p::l=>bT (lk p.1 (iT al)) (akC al l) λK r=>aQ (!mJ p.1&&p.2.keys.all (inK (iT al) al)) (some ((K,p.2.jq (rq (iT al)))::r)) none
def ahU {al:gJ} {K:Nat} {b':Bx}:∀{l r:cL},akC al l=some r->lk K r=some b'->∃k b,(k,b)∈l/\lk k (iT al)=some K/\(mJ k=false/\b.keys.all (inK (iT al) al)=true)/\b'=b.jq (rq (iT al))
 | [],r,h,hk=>by cases h;cases hk
 |p::l,r,h,hk=>by
  obtain ⟨K',r',h1,h2,h⟩:=bp h;obtain ⟨h3,h⟩:=aV h;cases h;rw[dz] at hk;split at hk
  ·rename_i e;cases hk;exact ⟨p.1,p.2,by simp,e ▸ h1,by simpa[bF] using h3,rfl⟩
  ·obtain ⟨k,b,m1,m2,m3,m4⟩:=ahU h2 hk;exact ⟨k,b,fO _ m1,m2,m3,m4⟩
def acu (l:cL):Bool:=match l with| []=>true|p::l=>(lk p.1 l).isNone&&acu l
def ait {k:Nat} {b:Bx}:∀{l:cL},acu l=true->(k,b)∈l->lk k l=some b
 |p::l,h,hm=>by
  have h:=kL.1 (show ((lk p.1 l).isNone&&acu l)=true from h);rw[show p::l=(p.1,p.2)::l from rfl,dz];rcases cH.1 hm with e|hm
  ·rw[<-e,aH rfl]
  ·split
   ·rename_i e;obtain ⟨y,hy⟩:=Ez hm;rw[e] at hy;rw[hy] at h;cases h.1
   ·exact ait h.2 hm
def GW (al:gJ) (l:cL):cL:=
 match al with
 | []=>l
 |q::al=>ki q.1 (GW al l)
def abj {k:Nat} {b:Bx}:∀{al:gJ} {l:cL},lk k (GW al l)=some b->lk k l=some b/\lk k al=none
 | [],_,h=>⟨h,rfl⟩
 |q::al,l,h=>by
  have h:lk k (ki q.1 (GW al l))=some b:=h;rw[vr] at h;split at h
  ·cases h
  ·rename_i e;obtain ⟨a,b⟩:=abj h;exact ⟨a,by rw[show q::al=(q.1,q.2)::al from rfl,dz,aL e];exact b⟩
def LS.wD (s:LS):br->LS
 | []=>s
 |K::l=>(s.nP K).wD l
def Rel.wD:∀{l:br} {s:LS},Rel F g Y c s T H->Rel F g Y c (s.wD l) T H
 | [],_,r=>r
 |K::l,s,r=>show Rel F g Y c ((s.nP K).wD l) T H from Rel.wD (r.nP K)
def Rel.leave (r:Rel F g Y c s T H) (fc:∀x,nx<=x->H x=none) {F2:Hf} (sY:∀i k,c1 i=some k->c i=some k) (hF1:nu F F1) (CK:∀i o,F1 i=some o->H i=some o/\c1 i=none) {ps rs:gJ} {out:cL} (hg:Am (ps++rs)=true) (hnb:(ps.all λq=> !mJ q.2)=true) (hgc:gc=λk=>g (rq (iT (ps++rs)) k)) (hF':nu F1 F') (r':Rel F' g' φ' c' ⟨[],gd⟩ noT H') (hold:∀x,x<nx->H' x≠none->qB F1 c1 ps H x≠none) (hbd':∀x,nx'<=x->H' x=none) (eV:nx<=nx') (hA:nu F F2) (hB:∀i o,F2 i=some o->F' i=some o/\(F1 i≠none->F i≠none)) (hbx:∀k b L,lk k gd=some b->eH F' g' k b L->eH F2 g' k b L) (ho:akC (ps++rs) gd=some out) (hdup:acu gd=true) (ur:∀k,mJ k=true->g' k=gc k) (alg:∀K k,lk K (ps++rs)=some k->g' k=gc k\/(∀t x,lk t s.ts=some x->K∉jJ x)/\∀j b,lk j s.bs=some b->K∉b.keys):
  ∃g2 φ2 c2 H2,(∀K,lk K (ps++rs)=none->g2 K=g K)/\(∀K k,lk K (ps++rs)=some k->g2 K=g' k)/\Rel F2 g2 φ2 c2 ⟨s.ts,out++GW (CC (ps++rs)) s.bs⟩ T H2/\(∀x,nx'<=x->H2 x=none)/\
   (∀x,H x≠none->(∀K,c x=some K->lk K ps=none)->H2 x=H x/\c2 x=c x)/\(∀x,x<nx->H2 x≠none->H x≠none)/\(∀x,H' x≠qB F1 c1 ps H x->H2 x=H' x)/\(∀x,H' x=qB F1 c1 ps H x->H2 x=H x)/\∀x,H x≠none->(qB F1 c1 ps H x≠none->H' x=qB F1 c1 ps H x/\c' x=(c1 x).bind λK=>lk K ps)->H2 x=H x/\c2 x=c x:=by
 classical
 generalize HW:ps++rs=al at*;let H0:=qB F1 c1 ps H;let H2:Hf:=λx=>if H' x≠H0 x then H' x else H x
 let dom:Nat->Prop:=λi=>nx<=i\/∃K,c1 i=some K/\lk K ps≠none
 let c2:Nat->bP:=λi=>if dom i then (c' i).bind λk=>lk k (iT al) else c i
 let g2:Gb:=λj=>(lk j al).elim (g j) λk=>g' k
 let φ2:Nat->Ow:=λj=>(lk j (CC al)).elim (Y j) λk=>φ' k
 have avZ:∀{i o},H0 i=some o->H i=some o:=NJ;have up:∀{i o},H' i=some o->H2 i=some o:=λ{i o} hi=>by
  show (if H' i≠H0 i then H' i else H i)=_
  split
  ·exact hi
  ·rename_i h;have h:H' i=H0 i:=nA h;exact avZ (h ▸ hi)
 have H0F:∀{i},H0 i≠none->¬dom i->F1 i≠none:=λ{i} h hd hf=>by
  refine h ?_;show (if F1 i≠none\/∃K,c1 i=some K/\lk K ps≠none then H i else none)=none
  rw[aL];rintro (h1|h1)
  ·exact h1 hf
  ·exact hd (.inr h1)
 have awe:∀{i},F1 i≠none->∃o,F1 i=some o/\H' i=some o/\H0 i=some o/\c' i=none:=λ{i} h=>by
  obtain ⟨o,ho⟩:=sq.1 h;obtain ⟨a,b⟩:=r'.fr i o (hF' i o ho);refine ⟨o,ho,a,?_,b⟩;show (if F1 i≠none\/∃K,c1 i=some K/\lk K ps≠none then H i else none)=_
  rw[aH (.inl h)];exact (CK i o ho).1
 have same:∀{x},H x≠none->¬dom x->H2 x=H x/\c2 x=c x:=λ{x} hx hd=>by
  refine ⟨?_,aL hd⟩;show (if H' x≠H0 x then H' x else H x)=_
  split
  ·rename_i cZ;exfalso;by_cases h0:H0 x=none
   ·exact hold x (xC λh=>hd (.inl h)) (λe=>cZ (e.trans h0.symm)) h0
   ·obtain ⟨o,_,a,b,_⟩:=awe (H0F h0 hd);exact cZ (a.trans b.symm)
  ·rfl
 have lt:∀{x},H x≠none->x<nx:=λ{x} hx=>xC λh=>hx (fc x h)
 have g2n:∀{j},lk j al=none->g2 j=g j:=λ{j} h=>by show (lk j al).elim _ _=_;rw[h];rfl
 have g2s:∀{j k},lk j al=some k->g2 j=g' k:=λ{j k} h=>by show (lk j al).elim _ _=_;rw[h];rfl
 have gcK:∀{K k},lk K al=some k->gc k=g K:=λ{K k} h=>by rw[hgc];show g (rq (iT al) k)=_;rw[tC ((tw hg).2 h)]
 have keep:∀{j},((∃t x,lk t s.ts=some x/\j∈jJ x)\/∃i b,lk i s.bs=some b/\j∈b.keys)->g2 j=g j:=λ{j} hj=>by
  cases h:lk j al with
  |none=>exact g2n h
  |some k=>
   rw[g2s h];rcases alg j k h with e|⟨e1,e2⟩
   ·rw[e,gcK h]
   ·rcases hj with ⟨t,x,h1,h2⟩|⟨i,b,h1,h2⟩
    ·exact absurd h2 (e1 t x h1)
    ·exact absurd h2 (e2 i b h1)
 refine ⟨g2,φ2,c2,H2,λK=>g2n,λK k=>g2s,⟨λt x hx hu=> ?_,λj b hj=> ?_,λi o hi=> ?_,λi hi=> ?_⟩,λx hx=> ?_,λx hx hW=>same hx ?_,λx hx h2=> ?_,λx h=>aH h,λx h=>aL (λhn=>hn h),λx hx hl=> ?_⟩
 ·obtain ⟨v,v1,v2⟩:=r.tm t x hx hu;exact ⟨v,v1,v2.same hA λk hk=>keep (.inl ⟨t,x,hx,hk⟩)⟩
 ·have hj:lk j (out++GW (CC al) s.bs)=some b:=hj;cases abR:lk j out with
  |some b1=>
   rw[I3 _ abR] at hj;cases hj;obtain ⟨k,b0,m1,m2,m3,rfl⟩:=ahU ho abR;have o7:=ait hdup m1;have hja:=(tw hg).1 m2;obtain ⟨q1,q2,q3⟩:=r'.bx k b0 o7;rw[show φ2 j=φ' k from by show (lk j (CC al)).elim _ _=_;rw[(apR hg).2 ⟨hja,m3.1⟩];rfl]
   refine ⟨(hbx k b0 _ o7 q1).mv (.refl F2) (g2s hja) λi hi=> ?_,q2,λp hp=> ?_⟩
   ·rcases (pE _ _).mp (iJ.1 m3.2 i hi) with h|h
    ·obtain ⟨K',hK'⟩:=Ox.1 (show (lk i (iT al)).isSome=true from h);rw[tC hK'];exact g2s ((tw hg).1 hK')
    ·obtain ⟨h1,h2,h3⟩:=abE h;rw[ET h3,g2n h2,ur i h1,hgc];show g i=g (rq (iT al) i);rw[ET h3]
   ·obtain ⟨p1,p2⟩:=q3 p hp;refine ⟨up p1,?_⟩;have hd:dom p.1:=nA λhd=>by
     have h0:=hold p.1 (xC λh=>hd (.inl h)) (by rw[p1];simp)
     obtain ⟨_,_,_,_,h⟩:=awe (H0F h0 hd);rw[h] at p2;cases p2
    show (if dom p.1 then _ else _)=_
    rw[aH hd,p2];exact m2
  |none=>
   have hj:lk j (GW (CC al) s.bs)=some b:=by
    have key:∀{a:cL} {d},lk j a=none->lk j (a++d)=lk j d:=λ{a d}=>by
     induction a with
     |nil=>exact λ_=>rfl
     |cons p a ih=>
      intro h;rw[show p::a=(p.1,p.2)::a from rfl,dz] at h;rw[show (p::a)++d=(p.1,p.2)::(a++d) from rfl,dz];split at h
      ·cases h
      ·rename_i e;rw[aL e];exact ih h
    rw[<-key abR];exact hj
   obtain ⟨h1,h2⟩:=abj hj;obtain ⟨q1,q2,q3⟩:=r.bx j b h1;rw[show φ2 j=Y j from by show (lk j (CC al)).elim _ _=_;rw[h2];rfl]
   have hgj:g2 j=g j:=by
    cases hk:lk j al with
    |none=>exact g2n hk
    |some k=>rw[g2s hk,ur k (M3 hg h2 hk),gcK hk]
   refine ⟨q1.same hA hgj λk hk=>keep (.inr ⟨j,b,h1,hk⟩),q2,λp hp=> ?_⟩
   obtain ⟨p1,p2⟩:=q3 p hp;have hd:¬dom p.1:=by
    rintro (h|⟨K,h3,h4⟩)
    ·rw[fc _ h] at p1;cases p1
    ·rw[sY _ _ h3] at p2;cases p2;refine h4 ?_;cases hp:lk j ps with
     |none=>rfl
     |some k=>
      have hk:lk j al=some k:=by rw[<-HW];exact I3 _ hp
      have hb:=M3 hg h2 hk;have:=(iJ.1 hnb) _ (nX hp);rw[show mJ (j,k).2=true from hb] at this;cases this
   obtain ⟨e1,e2⟩:=same (by rw[p1];simp) hd
   exact ⟨e1.trans p1,e2.trans p2⟩
 ·obtain ⟨h1,h2⟩:=hB i o hi;obtain ⟨h3,h4⟩:=r'.fr i o h1;refine ⟨up h3,?_⟩;show (if dom i then _ else _)=_
  split
  ·rw[h4];rfl
  ·rename_i hd;have h0:=hold i (xC λh=>hd (.inl h)) (by rw[h3];simp)
   obtain ⟨o',EJ⟩:=sq.1 (h2 (H0F h0 hd));exact (r.fr i o' EJ).2
 ·show (if dom i then _ else _)=_
  have hi:(if H' i≠H0 i then H' i else H i)=none:=hi
  split
  ·have:H' i=none:=by
    split at hi
    ·exact hi
    ·rename_i h;have h:H' i=H0 i:=nA h;rw[h];cases h0:H0 i with
     |none=>rfl
     |some o=>rw[avZ h0] at hi;cases hi
   rw[r'.cn i this];rfl
  ·rename_i hd;split at hi
   ·rename_i h;exfalso;have h0:H0 i≠none:=λe=>h (hi.trans e.symm)
    obtain ⟨o,_,a,_,_⟩:=awe (H0F h0 hd);rw[hi] at a;cases a
   ·exact r.cn i hi
 ·show (if H' x≠H0 x then H' x else H x)=none
  rw[hbd' x hx,fc x (jj eV hx)];split<;>rfl
 ·rintro (h|⟨K,h3,h4⟩)
  ·exact hx (fc x h)
  ·exact h4 (hW K (sY _ _ h3))
 ·have h2:(if H' x≠H0 x then H' x else H x)≠none:=h2
  split at h2
  ·intro hn;have h0:=hold x hx h2;obtain ⟨o,ho⟩:=sq.1 h0;rw[avZ ho] at hn;cases hn
  ·exact h2
 ·by_cases hd:dom x
  ·rcases hd with h|⟨K,h3,h4⟩
   ·exact absurd (fc x h) hx
   ·obtain ⟨k,hk⟩:=sq.1 h4;have hh:H0 x=H x:=aH (.inr ⟨K,h3,h4⟩);obtain ⟨e1,e2⟩:=hl (show H0 x≠none by rw[hh];exact hx)
    refine ⟨?_,?_⟩
    ·show (if H' x≠H0 x then H' x else H x)=_
     rw[aL (λhn=>hn e1)]
    ·show (if dom x then _ else _)=_
     rw[aH (.inr ⟨K,h3,h4⟩),e2,h3,sY _ _ h3];show (lk K ps).bind (λk=>lk k (iT al))=some K
     rw[hk];exact (tw hg).2 (by rw[<-HW];exact I3 _ hk)
  ·exact same hx hd
end
end Go.bX
namespace Go.bX
variable {all:dd} {o:Oper} {b:Bx} {K i new nx' k f:Nat} {x:Operand} {l W ks:br} {H0:Hf} {fv:SV} {aa:aY} {L:Ow} {J:Type} {y:AV} {bs:cL} {xs:bc} {ro:Bool}
section
variable {F F':Hf} {g g':Gb} {Y:Nat->Ow} {c:Nat->bP} {s s' s1:LS} {T:Tf} {H:Hf} {E:Env} {pn:Nat->Bool} {nt:Nat}
structure WS where
 F:Hf
 g:Gb
 Y:Nat->Ow
 c:Nat->bP
 m:MS
structure In (s:LS) (w:WS):Prop where
 r:Rel w.F w.g w.Y w.c s w.m.T w.m.H
 bd:∀x,w.m.nx<=x->w.m.H x=none
def sP:Nat:=576460756598390784
structure Ext (pn:Nat->Bool) (w w':WS):Prop where
 F:nu w.F w'.F
 g:∀k,pn k=true->w'.g k=w.g k
 nx:w.m.nx<=w'.m.nx
 old:∀x,x<w.m.nx->w'.m.H x≠none->w.m.H x≠none
 ro:pn sP=true->∀x,w.m.H x≠none->w'.m.H x=w.m.H x/\w'.c x=w.c x
def Ext.refl (w:WS):Ext pn w w:=⟨.refl _,λ_ _=>rfl,dg _,λ_ _ h=>h,λ_ _ _=>⟨rfl,rfl⟩⟩
def Ext.trans {w w1 w2:WS} (a:Ext pn w w1) (b:Ext pn w1 w2):Ext pn w w2:=⟨a.F.trans b.F,λk h=>(b.g k h).trans (a.g k h),jj a.nx b.nx,λx hx h=>a.old x hx (b.old x (mC hx a.nx) h),λh x hx=>have ⟨a1,a2⟩:=a.ro h x hx;have ⟨b1,b2⟩:=b.ro h x (a1 ▸ hx);⟨b1.trans a1,b2.trans a2⟩⟩
def KF (all:dd) (o:Oper) (ts:fA):Option Bool:=
 match o.guard with
 |none=>some true
 |some p=>(match IX all p.1 with
  |none=>some false
  |some t=>(match lk t ts with
   |some (.lit (.bool b))=>some (b==p.2)
   |some (.cS [])=>some false
   |_=>none))
def Nl (r:Rel F g Y c s T H) {b:Bool} (h:KF all o s.ts=some b):gw all o T=some b:=by
 unfold KF at h;unfold gw;split at h
 ·rename_i e;rw[e];exact h
 ·rename_i p e;rw[e];show vF all T p.1 p.2=some b;unfold vF;split at h
  ·rename_i e;rw[e];exact h
  ·rename_i t e;rw[e];show az (T t) (ajD p.2)=some b;split at h
   ·rename_i hl;obtain ⟨v,v1,v2⟩:=r.tm t _ hl (by simp)
    cases v2;rw[v1];exact h
   ·rename_i hl;obtain ⟨v,v1,v2⟩:=r.tm t _ hl (by simp)
    cases v2 with|cS q=>cases q;rw[v1];exact h
   ·cases h
def rdL (s:LS) (x:Operand):Option br:=
 match dU s.ts x with
 | .lit v=>(match lR (some v) with| []=>some []|_=>none)
 | .sl .. =>some []
 | .jx _=>some []
 | .agg _=>some []
 | .cS _=>some []
 | .fn .. =>some []
 | .el K _ _ _=>az (lk K s.bs) λ_=>some [K]
 | .ms K _ _ _=>az (lk K s.bs) λ_=>some [K]
 | .mp K=>(match lk K s.bs with|some (.map _)=>some [K]|_=>none)
 | .it K=>(match lk K s.bs with|some (.iter _ _)=>some [K]|_=>none)
 | .undef=>none
def Gf (s:LS):List Operand->Option br
 | []=>some []
 |x::l=>bT (rdL s x) (Gf s l) λa b=>some (a++b)
def akF (s:LS) (op:Op):Option br:=
 match op with
 | .load _ x=>Gf s [x]
 | .store _ x y=>Gf s [x,y]
 | .lookup _ x k _=>Gf s [x,k]
 | .mapUpdate _ m k x=>Gf s [m,k,x]
 | .insert _ _ _ _=>none
 | .next it _=>Gf s [it]
 | .range _ x=>Gf s [x]
 | .call c=>Gf s c.args.toList
 |_=>some []
def Rel.head (r:Rel F g Y c s T H) (hb:lk K s.bs=some b) (s8:(g K).b=true):c (g K).n=some K:=by
 obtain ⟨q,_,q3⟩:=r.bx K b hb;generalize Y K=L at q q3;cases q with
 |flat=>exact (q3 _ jt).2
 |nil h=>rw[h] at s8;cases s8
 |cy=>exact (q3 _ jt).2
 |map=>exact (q3 _ jt).2
 |iter=>exact (q3 _ jt).2
def aEW (r:Rel F g Y c s T H) (h:rdL s x=some l):∀i∈lR (cE T x),F i≠none\/∃K∈l,c i=some K:=λi hi=>by
 have key:∀{y},dU s.ts x=y->y≠ .undef->∃v,VA F g v y/\i∈lR (some v):=λhy hu=>by
  obtain ⟨v,v1,v2⟩:=r.val hy hu;rw[v1] at hi;exact ⟨v,v2,hi⟩
 have one:∀{j k:Nat},i∈ [j]->c j=some k->F i≠none\/∃K∈ [k],c i=some K:=λh e=>.inr ⟨_,jt,by rw[ez.1 h];exact e⟩
 unfold rdL at h;split at h
 ·rename_i v hv;obtain ⟨w,w1,w2⟩:=key hv (by simp)
  cases w1;split at h
  ·rename_i e;rw[e] at w2;cases w2
  ·cases h
 ·rename_i hv;obtain ⟨w,w1,w2⟩:=key hv (by simp)
  cases w1 with
  |nil=>cases w2
  |sle=>cases w2
  |sl hn hF=>exact .inl (by rw[ez.1 w2];obtain ⟨o,ho⟩:=WI hF;rw[ho];simp)
 ·rename_i hv;obtain ⟨w,w1,w2⟩:=key hv (by simp)
  cases w1 with
  |jx hF=>exact .inl (by rw[ez.1 w2];obtain ⟨o,ho⟩:=WI hF;rw[ho];simp)
 ·rename_i hv;obtain ⟨w,w1,w2⟩:=key hv (by simp)
  cases w1;cases w2
 ·rename_i hv;obtain ⟨w,w1,w2⟩:=key hv (by simp)
  cases w1;cases w2
 ·rename_i hv;obtain ⟨w,w1,w2⟩:=key hv (by simp)
  cases w1;cases w2
 ·rename_i hv;obtain ⟨b,hb,h⟩:=aq h;cases h;obtain ⟨w,w1,w2⟩:=key hv (by simp)
  cases w1 with|el _ _ _ _ s8=>exact one w2 (r.head hb s8)
 ·rename_i hv;obtain ⟨b,hb,h⟩:=aq h;cases h;obtain ⟨w,w1,w2⟩:=key hv (by simp)
  cases w1 with
  |rn=>cases w2
  |xc=>cases w2
  |ms _ _ _ s8=>exact one w2 (r.head hb s8)
 ·rename_i hv;split at h
  ·rename_i hb;cases h;obtain ⟨w,w1,w2⟩:=key hv (by simp)
   cases w1;obtain ⟨q,_,q3⟩:=r.bx _ _ hb;generalize Y _=L at q q3;cases q with|map=>exact one w2 (q3 _ jt).2
  ·cases h
 ·rename_i hv;split at h
  ·rename_i hb;cases h;obtain ⟨w,w1,w2⟩:=key hv (by simp)
   cases w1;obtain ⟨q,_,q3⟩:=r.bx _ _ hb;generalize Y _=L at q q3;cases q with|iter=>exact one w2 (q3 _ jt).2
  ·cases h
 ·cases h
def U2 (r:Rel F g Y c s T H):∀{xs:List Operand} {l:br},Gf s xs=some l->∀i∈oY T xs,F i≠none\/∃K∈l,c i=some K
 | [],_,_,i,hi=>by cases hi
 |x::xs,l,h,i,hi=>by
  obtain ⟨a,b,h1,h2,h⟩:=bp h;cases h;rcases eR.1 hi with hi|hi
  ·exact (aEW r h1 i hi).imp_right λ⟨K,m,e⟩=>⟨K,gE _ m,e⟩
  ·exact (U2 r h2 i hi).imp_right λ⟨K,m,e⟩=>⟨K,iz _ m,e⟩
def abD {T:Tf}:∀{xs:List Operand},∀i∈GC T xs,i∈oY T xs
 |x::xs,i,hi=>by
  rcases eR.1 (show i∈idM (cE T x)++GC T xs from hi) with hi|hi
  ·refine gE _ ?_;generalize cE T x=v at hi;unfold idM at hi;split at hi
   ·exact hi
   ·cases hi
  ·exact iz _ (abD i hi)
def aBZ (r:Rel F g Y c s T H) {op:Op} (h:akF s op=some l):∀i∈pB op T,F i≠none\/∃K∈l,c i=some K:=by
 cases op<;>first
  |exact U2 r h
  |exact λi hi=>nomatch (show i∈ [] from hi)
  |(cases (show none=some l from h);done)
  |(
   rename_i c
   intro i hi
   refine U2 r h i ?_
   have hi:i∈aQ (uL c) (GC T c.args.toList) (oY T c.args.toList):=hi
   rw[bH] at hi
   split at hi
   ·exact abD i hi
   ·exact hi)
structure Ev where
 i:Nat
 nw:Nat
 r:Sr1
 W:br
 Rd:Option br
 cl:Bool
structure Step (E:Env) (nt:Nat) (pn:Nat->Bool) (ops:dF) (e:Ev) (w w':WS):Prop where
 st:∃o,ops[e.i]? =some o/\wU E nt ops e.i o w.m e.r w'.m
 F:nu w.F w'.F
 g:∀k,pn k=true->w'.g k=w.g k
 nx:w.m.nx<=w'.m.nx
 need:∀l,e.Rd=some l->∀x,e.r.need x->w.F x≠none\/∃K∈l,w.c x=some K
 D:∀x,e.r.D x=true->x=e.nw\/(e.cl=true/\w.m.nx<=x)\/∃K∈e.W,w.c x=some K
 fr:∀x,w.m.H x≠none->(∀K∈e.W,w.c x≠some K)->w'.m.H x=w.m.H x/\w'.c x=w.c x
 CU:e.cl=false->(∀x k,w.c x=some k->w'.c x=some k\/w'.m.H x=none)/\(w'.m.H e.nw≠none->∃K∈e.W,w'.c e.nw=some K)
 born:∀x,w.m.H x=none->w'.m.H x≠none->x=e.nw\/w.m.nx<=x
 frp:∀x,e.r.frp x->x=e.nw\/(e.cl=true/\w.m.nx<=x)
 newp:∀x,e.r.newp x->(e.cl=false/\x=e.nw)\/(e.cl=true/\w.m.nx<=x/\x<w'.m.nx)
def Step.op {ops:dF} {op:Op} {x:AV} {w:WS} (hi:ops[i]? =some o) (he:o.op=op) (hk:Ok E pn op s s1 x W) (hw:KF ops.toList o s.ts=some true) (hd:kY nt o.dst=true) (h:In s w) (hn:w.m.H new=none) (eV:w.m.nx<=nx') (l9:new<nx'):
  ∃r w',Step E nt pn ops ⟨i,new,r,W,akF s op,false⟩ w w'/\In (s1.put o.dst x) w'/\w'.m.nx=nx':=by
 subst he;obtain ⟨v,us,g',φ',c',h1,h2,h3,h4,h5,h6,h7,h8⟩:=hk.go h.r hn;have live:∀{x},gz w.m.H us x≠none->w.m.H x=none->x=new:=λ{x} cZ h0=>by
  by_cases hm:x∈us.map (·.1)
  ·obtain ⟨u,hu,rfl⟩:=cO.1 hm;rcases h6 u hu with e|⟨K,_,e⟩
   ·exact e
   ·rw[h.r.cn _ h0] at e;cases e
  ·rw[mm hm] at cZ;exact absurd h0 cZ
 refine ⟨_,⟨w.F,g',φ',c',_⟩,⟨⟨o,hi,wU.op hi (Nl h.r hw) hd h1 hn eV⟩,.refl _,h4,eV,λl hl x hx=>aBZ h.r hl x hx,λx hx=> ?_,h5,λ_=>⟨h7,h8⟩,λx h0 cZ=>.inl (live cZ h0),λx hx=>.inl hx,λx hx=>.inl ⟨rfl,hx.1⟩⟩,⟨h3.put o.dst h2,λx hx=> ?_⟩,rfl⟩
 ·have hx:decide (x∈us.map (·.1)\/x=new)=true:=hx
  rcases qv hx with hx|hx
  ·obtain ⟨u,hu,rfl⟩:=cO.1 hx;exact (h6 u hu).imp_right λ⟨K,m,e⟩=>.inr ⟨K,m,e⟩
  ·exact .inl hx
 ·exact nA λcZ=>by
   have:=live cZ (h.bd x (jj eV hx));have hx:nx'<=x:=hx;omega
end
section
variable {F F':Hf} {g g':Gb} {Y:Nat->Ow} {c:Nat->bP} {s s' s1:LS} {T:Tf} {H:Hf} {E:Env} {pn:Nat->Bool} {nt:Nat}
def Step.skip {ops:dF} {w:WS} (hi:ops[i]? =some o) (hw:KF ops.toList o s.ts=some false) (hd:kY nt o.dst=true) (h:In s w) (hn:w.m.H new=none) (eV:w.m.nx<=nx'):
  ∃r w',Step E nt pn ops ⟨i,new,r,[],some [],false⟩ w w'/\In (s.put o.dst (.cS [])) w'/\w'.m.nx=nx':=by
 have st:=wU.skip (E:=E) (nt:=nt) (ops:=ops) (i:=i) (new:=new) hi (Nl h.r hw) hd hn;refine ⟨_,⟨w.F,w.g,w.Y,w.c,⟨jk w.m.T o.dst (.cS []),w.m.H,nx'⟩⟩,⟨⟨o,hi,⟨st.st,st.T,st.H,eV⟩⟩,.refl _,λ_ _=>rfl,eV,λl _ x hx=>(by cases hx),λx hx=>.inl (qv hx),λx _ _=>⟨rfl,rfl⟩,λ_=>⟨λ_ _ h=>.inl h,λh=>absurd hn h⟩,λx h0 cZ=>absurd h0 cZ,λx hx=>.inl hx,λx hx=>by cases hx⟩,⟨h.r.put o.dst λ_=>.cS .nil,λx hx=>h.bd x (jj eV hx)⟩,rfl⟩
open Classical in
def wU.aKT {m:MS} {ops:dF} {c:Call} {H' H2:Hf} {v:SV} (hi:ops[i]? =some o) (hw:gw ops.toList o m.T=some true) (hd:kY nt o.dst=true) (eT:o.op= .call c) (hc:sG m.T c.callee=some fv) (has:fT m.T c.args.toList=some aa) (hs:oC E false fv aa H0 m.nx v H' nx') (hle:∀x y,H0 x=some y->m.H x=some y) (hb:∀x,m.nx<=x->m.H x=none) (hn:m.nx<=nx') (e1:∀x,H' x≠H0 x->H2 x=H' x) (e2:∀x,H' x=H0 x->H2 x=m.H x):
  wU E nt ops i o m ⟨v,λx=>decide (H' x≠H0 x),H',λx=>H0 x≠none,λx=>m.nx<=x,λx=>m.nx<=x/\x<nx'⟩ ⟨jk m.T o.dst v,H2,nx'⟩:=by
 have h0:∀x,m.nx<=x->H0 x=none:=λx hx=>by
  cases h:H0 x with
  |none=>rfl
  |some y=>have:=hle x y h;rw[hb x hx] at this;cases this
 refine ⟨λro=> ?_,rfl,?_,hn⟩
 ·have key:=Wh (E:=E) (ro:=ro) (nt:=nt) (D:=λx=>decide (H' x≠H0 x)) hi hw hd eT hc has hs (λx hx _=>by simpa using hx) λx hx hl=>(show H' x=H0 x by simpa using hx).trans (h0 x hl)
  exact λm' g f T1 a w K Q hE ed hr hT LL l9 hk=>key m' g f T1 a w K Q hE ed hr hT (λx hx=>by
   obtain ⟨y,hy⟩:=sq.1 hx;rw[LL x hx,hle x y hy,hy]) l9 hk
 ·funext x;show H2 x=kO _ H' m.H x;unfold kO;split
  ·rename_i h;exact e1 x (by simpa using h)
  ·rename_i h;exact e2 x (by simpa using h)
mutual
def Es:AV->Bool
 | .agg cs=>tj cs
 | .cS cs=>tj cs
 | .fn _ a b=>tj a&&tj b
 | .sl .. =>false
 | .jx _=>false
 |_=>true
def tj:bc->Bool
 | []=>true
 |x::l=>Es x&&tj l
end
mutual
def Pz:∀{x:AV} {v:SV},Es x=true->VA F g v x->VA F' g v x
 | .agg cs,_,h,.agg q=>.agg (AL h q)
 | .cS cs,_,h,.cS q=>.cS (AL h q)
 | .fn f a b,_,h,.fn _ q1 q2=>have h:=kL.1 (show (tj a&&tj b)=true from h); .fn _ (AL h.1 q1) (AL h.2 q2)
 | .sl ..,_,h,_=>by cases (show false=true from h)
 | .jx _,_,h,_=>by cases (show false=true from h)
 | .lit _,_,_,.lit v=>.lit v
 | .el ..,_,_,.el K s j f hb=>.el K s j f hb
 | .ms ..,_,_,.rn s hb=>.rn s hb
 | .ms ..,_,_,.ms s lo n hb=>.ms s lo n hb
 | .ms ..,_,_,.xc s lo hl=>.xc s lo hl
 | .mp _,_,_,.mp K=>.mp K
 | .it _,_,_,.it K=>.it K
 | .undef,v,_,_=>.undef v
def AL:∀{x:bc} {v:aY},tj x=true->dA F g v x->dA F' g v x
 |_,_,_,.nil=>.nil
 |x::l,_,h,.cons q t=>have h:=kL.1 (show (Es x&&tj l)=true from h); .cons (Pz h.1 q) (AL h.2 t)
end
def avY (Q:bA):Prop:=∀r∈Q,tj r=true
def ke.Es:∀{l vs xs L},tj xs=true->ke F l vs xs L->ke F' l vs xs L
 |_,_,_,_,_,.nil=>.nil
 |l,_,x::xs,_,h,.cons q t=>by
  have h:=kL.1 (show (bX.Es x&&tj xs)=true from h);refine .cons ?_ (t.Es h.2);generalize l.headD .d=sh at q;cases q with
  |d q=>exact .d (Pz h.1 q)
  |any=>exact .any _
  |nil=>exact .nil
  |sl=>cases (show false=true from h.1)
def TR.Es:∀{l vs Q L},avY Q->TR F l vs Q L->TR F' l vs Q L
 |_,_,_,_,_,.nil=>.nil
 |_,_,_,_,h,.cons q t=>.cons (q.Es (h _ (by simp))) (t.Es λr hr=>h r (fO _ hr))
def nodX (ob:Prop->cD) (b:Bx):Option (List cD):=
 match b with
 | .flat _ cs=>aQ (tj cs) (some []) none
 | .cy _ _ _ _ Q o=>aQ (tj (o.map (·.2))) (some [ob (avY Q)]) none
 | .iter _ _=>some []
 | .map _=>none
def atN (ob:Prop->cD):cL->Option (List cD)
 | []=>some []
 |p::l=>bT (nodX ob p.2) (atN ob l) λa r=>some (a++r)
def abb:∀{l:bc} {x:AV},tj l=true->x∈l->Es x=true
 |y::l,x,h,hx=>by
  have h:=kL.1 (show (Es y&&tj l)=true from h);rcases cH.1 hx with rfl|hx
  ·exact h.1
  ·exact abb h.2 hx
def aCb {ob:Prop->cD} (gQ:∀P,(ob P).need=P) {r:List cD} (h:nodX ob b=some r) (ho:iF r) (q:eH F g k b L):eH F' g k b L:=by
 cases q with
 |flat q=>exact .flat (AL (aV h).1 q)
 |nil hb=>exact .nil hb
 |cy hb hz hu hc q hoA=>
  obtain ⟨h2,h⟩:=aV h;cases h;have h3:=ho.1;rw[gQ] at h3;refine .cy hb hz hu hc (q.Es h3) λp hp=> ?_
  obtain ⟨v,v1,v2⟩:=hoA p hp;exact ⟨v,v1,Pz (abb h2 (cO.2 ⟨p,hp,rfl⟩)) v2⟩
 |map=>cases h
 |iter=>exact .iter
def nQ:∀{a b:List cD},iF (a++b)->iF a/\iF b
 | [],_,h=>⟨trivial,h⟩
 |_::_,_,h=>⟨⟨h.1,(nQ h.2).1⟩,(nQ h.2).2⟩
def ahX {ob:Prop->cD} (gQ:∀P,(ob P).need=P) {k:Nat} {b:Bx} {L:Ow}:∀{l:cL} {r:List cD},atN ob l=some r->iF r->(k,b)∈l->eH F g k b L->eH F' g k b L
 |p::l,r,h,ho,hm,q=>by
  obtain ⟨a,r',h1,h2,h⟩:=bp h;cases h;obtain ⟨o1,o2⟩:=nQ ho;rcases cH.1 hm with e|hm
  ·subst e;exact aCb gQ h1 o1 q
  ·exact ahX gQ h2 o2 hm q
structure GI where
 {P:Prop}
 h:P
 gp:Gp
def Ew {P:Prop} (h:P) (need:Prop):cD:=⟨need,P,h⟩
inductive It (E:Env) where
 |op {P:Prop} (h:P) (pl:Pl)
 |gh (g:GI)
 |ord (l:br)
 |call {ro:Bool} {f:Nat} {bs gd:cL} {xs:bc} {y:AV} (h:kn ro E f bs xs y gd) (ps rs:gJ)
 |Qp {f:Nat} {bs gd:cL} {xs:bc} {y:AV} {P:Prop} (h:gn E f bs xs y gd) (gs:List GI) (hd:P) (ps rs:gJ) (fz:List GI)
def Gp.key:Gp->Nat
 | .fX K _ _=>K
 | .cls _ K2 _ _ _ _=>K2
 |_=>0
def XC (q:GI) (s:LS):Option (List cD×LS):=
 match q.gp with
 | .fX _ _ _=>GJ (λ_=>false) s q.gp (Ew q.h)
 | .cld _ _ _ _ _=>GJ (λ_=>false) s q.gp (Ew q.h)
 |_=>none
def akM (q q2:GI) (s:LS):Option (List cD×LS):=
 match q.gp,q2.gp with
 | .cls K _ _ _ _ _,.fX K' m n=>aQ (Nat.beq K' K) (az (GJ (λ_=>false) s q.gp (Ew q.h)) λp=>az (lk K p.2.bs) λb=>some (p.1++aca p.2 K n b (Ew q2.h),p.2.acb K m n b)) none
 |_,_=>none
def aJX (q:GI):Bool:=match q.gp with| .cls _ _ _ _ _ _=>true|_=>false
def PL:List GI->LS->Option (List cD×LS)
 | [],s=>some ([],s)
 | [q],s=>XC q s
 |q::q2::l,s=>aQ (aJX q) (az (akM q q2 s) λp=>az (PL l p.2) λp'=>some (p.1++p'.1,p'.2)) (az (XC q s) λp=>az (PL (q2::l) p.2) λp'=>some (p.1++p'.1,p'.2))
def yx (F:Hf) (g:Gb) (c:Nat->bP) (T:Tf) (H:Hf) (ks:br) (s:LS):Prop:=∃F1 φ1 c1,nu F F1/\((∀i k,c1 i=some k->c i=some k)/\∀i,F1 i≠none->F i≠none\/∃K∈ks,c i=some K)/\Rel F1 g φ1 c1 s T H
def yx.mono {I6:br} (h:yx F g c T H ks s) (hk:∀K∈ks,K∈I6):yx F g c T H I6 s:=
 let ⟨F1,φ1,c1,a1,a2,a3⟩:=h
 ⟨F1,φ1,c1,a1,⟨a2.1,λi h=>(a2.2 i h).imp_right λ⟨K,m,e⟩=>⟨K,hk K m,e⟩⟩,a3⟩
def abk {q:GI} {s:LS} {p:List cD×LS} (h:XC q s=some p) (ho:iF p.1) {F:Hf} {g:Gb} {Y:Nat->Ow} {c:Nat->bP} {T:Tf} {H:Hf} (r:Rel F g Y c s T H):yx F g c T H [q.gp.key] p.2:=by
 unfold XC at h;split at h
 ·rename_i K m n e;rw[e] at h;obtain ⟨b,hb,h⟩:=aq h;cases h;obtain ⟨F',c',a1,a2,a3⟩:=r.fX (m:=m) (n:=n) (ob:=Ew q.h) (λ_=>rfl) hb ho
  exact ⟨F',Y,c',a1,⟨a2.1,λi h=>(a2.2.1 i h).imp_right λh=>⟨_,jt,by rw[e];exact h⟩⟩,a3⟩
 ·rename_i K j f y Q' e;rw[e] at h;obtain ⟨b,hb,h⟩:=aq h;split at h
  ·obtain ⟨y',hy,h⟩:=aq h;obtain ⟨hf,h⟩:=aV h;cases h;obtain ⟨φ',c',a1,a2⟩:=r.Ge hb λq'=>eH.cld ho.2.1 ho.1 hy ((bV _ _).1 hf) q'
   exact ⟨F,φ',c',.refl _,⟨a1,λ_ h=>.inl h⟩,a2⟩
  ·cases h
 ·cases h
def atV {q q2:GI} {s:LS} {p:List cD×LS} (h:akM q q2 s=some p) (ho:iF p.1) {F:Hf} {g:Gb} {Y:Nat->Ow} {c:Nat->bP} {T:Tf} {H:Hf} (r:Rel F g Y c s T H):yx F g c T H [q.gp.key,q2.gp.key] p.2:=by
 unfold akM at h;split at h
 ·rename_i K K2 j f n1 Q' K' m n e e2;obtain ⟨hK,h⟩:=aV h;obtain rfl:=(beq_iff _ _).1 hK;obtain ⟨p1,h1,h⟩:=aq h;obtain ⟨b,hb,h⟩:=aq h;cases h;obtain ⟨o1,o2⟩:=nQ ho;rw[e] at h1;obtain ⟨φ1,c1,a1,a2⟩:=r.gcls (λ_=>rfl) h1 o1
  obtain ⟨F',c',b1,b2,b3⟩:=a2.fX (m:=m) (n:=n) (ob:=Ew q2.h) (λ_=>rfl) hb o2
  rw[e,e2];refine ⟨F',φ1,c',b1,⟨λi k hi=> ?_,λi hi=> ?_⟩,b3⟩
  ·rcases a1 i k (b2.1 i k hi) with h'|⟨h',_⟩
   ·exact h'
   ·exact absurd (h' ▸ hi) (b2.2.2.2 i)
  ·rcases b2.2.1 i hi with h|h
   ·exact .inl h
   ·rcases a1 i _ h with h|⟨_,h⟩
    ·exact .inr ⟨_,fO _ jt,h⟩
    ·exact .inr ⟨_,jt,h⟩
 ·cases h
def yx.then {I6:br} {s':LS} (h:yx F g c T H ks s) (k:∀{F1 φ1 c1},Rel F1 g φ1 c1 s T H->yx F1 g c1 T H I6 s'):yx F g c T H (ks++I6) s':=by
 obtain ⟨F1,φ1,c1,a1,a2,a3⟩:=h;obtain ⟨F2,φ2,c2,b1,b2,b3⟩:=k a3;refine ⟨F2,φ2,c2,a1.trans b1,⟨λi k h=>a2.1 i k (b2.1 i k h),λi h=> ?_⟩,b3⟩
 rcases b2.2 i h with h|⟨K,m,e⟩
 ·exact (a2.2 i h).imp_right λ⟨K,m,e⟩=>⟨K,gE _ m,e⟩
 ·exact .inr ⟨K,iz _ m,a2.1 i K e⟩
def NI:∀{l:List GI} {s:LS} {p:List cD×LS},PL l s=some p->iF p.1->∀{F:Hf} {g:Gb} {Y:Nat->Ow} {c:Nat->bP} {T:Tf} {H:Hf},Rel F g Y c s T H->yx F g c T H (l.map λq=>q.gp.key) p.2
 | [],s,p,h,_,F,g,Y,c,T,H,r=>by cases h;exact ⟨F,Y,c,.refl _,⟨λ_ _ h=>h,λ_ h=>.inl h⟩,r⟩
 | [q],s,p,h,ho,F,g,Y,c,T,H,r=>abk h ho r
 |q::q2::l,s,p,h,ho,F,g,Y,c,T,H,r=>by
  unfold PL at h;rw[bH] at h;split at h
  ·obtain ⟨p1,h1,h⟩:=aq h;obtain ⟨p2,h2,h⟩:=aq h;cases h;obtain ⟨o1,o2⟩:=nQ ho;exact (atV h1 o1 r).then λr1=>NI h2 o2 r1
  ·obtain ⟨p1,h1,h⟩:=aq h;obtain ⟨p2,h2,h⟩:=aq h;cases h;obtain ⟨o1,o2⟩:=nQ ho;exact (abk h1 o1 r).then λr1=>NI (l:=q2::l) h2 o2 r1
end
section
variable {F F':Hf} {g g':Gb} {Y:Nat->Ow} {c:Nat->bP} {s s' s1:LS} {T:Tf} {H:Hf} {E:Env} {pn:Nat->Bool} {nt:Nat}
def LP (K:Nat):cL->Bool
 | []=>true
 |p::l=> !lQ K p.2.keys&&LP K l
def P7 {K:Nat}:∀{bs:cL},LP K bs=true->∀k b,lk k bs=some b->K∉b.keys
 |(k',b')::l,hf,k,b,hx=>by
  have hf:=kL.1 (show (!lQ K b'.keys&&LP K l)=true from hf);rw[dz] at hx;split at hx
  ·cases hx;exact Gt hf.1
  ·exact P7 hf.2 k b hx
def unP (bs:cL) (ps:gJ):br:=(ps.filter λq=> !pnL (uK bs) q.2).map (·.1)
def pinP (pn:Nat->Bool) (bs:cL) (s:LS) (al:gJ):Bool:=al.all λq=>pnL (uK bs) q.2||(!pn q.1&&(LN q.1 s.ts&&LP q.1 s.bs))
def nodG (gs:List GI) (y:AV) (gd:cL) (ob:Prop->cD):Option (List cD):=
 match gs with
 | []=>some []
 |_=>aQ (Es y) (atN ob gd) none
def XQ (E:Env) (pn:Nat->Bool) (s:LS) (op:Op) {ro:Bool} {f:Nat} {bs gd:cL} {xs:bc} {y:AV} (h:kn ro E f bs xs y gd) (gs:List GI) (ob:Prop->cD) (ps rs:gJ):Option o8:=
 match op with
 | .call c=>(match c.callee with
  | .value o=>az (PL gs s) λq=>(match dU q.2.ts o with
   | .fn f' fi ca=>rP (Pu ps (ps++rs) q.2.bs bs) (akC (ps++rs) gd) (nodG gs y gd ob) λb out nd=>
    aQ ((Nat.beq f' f&&(sA (tW q.2.ts c.args.toList)&&((Am (ps++rs)&&ps.all λq=> !mJ q.2)&&acu gd)))&&(((ky (fi++tW q.2.ts c.args.toList++ca)).all (inP ps (ps++rs))&&(jJ y).all (inK (iT (ps++rs)) (ps++rs)))&&pinP pn bs (s.wD (unP bs ps)) (ps++rs)))
     (some ⟨⟨kn ro E f b (JL xs (sQ (rq (ps++rs)) (fi++tW q.2.ts c.args.toList++ca))) y gd,_,h⟩::(q.1++nd),⟨(s.wD (unP bs ps)).ts,out++GW (CC (ps++rs)) (s.wD (unP bs ps)).bs⟩,Dq (rq (iT (ps++rs))) y,aQ ro [] ((CC (ps++rs)).map (·.1))⟩) none
   |_=>none)
  |_=>none)
 |_=>none
def ags {O γ δ:Type} {x:Option J} {y:Option O} {z:Option γ} {f:J->O->γ->Option δ} {d:δ} (h:rP x y z f=some d):∃a b c,x=some a/\y=some b/\z=some c/\f a b c=some d:=by
 cases x<;>cases y<;>cases z<;>first|(cases h;done)|exact ⟨_,_,_,rfl,rfl,rfl,h⟩
def Pt {ps al:gJ} {sb:cL}:∀{l r:cL},Pu ps al sb l=some r->uK r=uK l
 | [],r,h=>by cases h;rfl
 |p::l,r,h=>by
  obtain ⟨b,r',h1,h2,h⟩:=bp h;obtain ⟨_,h⟩:=aV h;cases h;exact bN (p.1:: ·) (Pt h2)
def Step.call {ops:dF} {op:Op} {w:WS} {gd:cL} {hC:kn ro E f bs xs y gd} {gs:List GI} {ob:Prop->cD} {ps rs:gJ} {r:o8} (gQ:∀P,(ob P).need=P) (hi:ops[i]? =some o) (he:o.op=op) (hk:XQ E pn s op hC gs ob ps rs=some r) (ho:iF r.Ep) (hw:KF ops.toList o s.ts=some true) (hd:kY nt o.dst=true) (h:In s w) (nw:Nat):
  ∃r1 w',Step E nt pn ops ⟨i,nw,r1,r.W,some (ps.map (·.1)++gs.map λq=>q.gp.key),true⟩ w w'/\In (r.s.put o.dst r.x) w':=by
 subst he;unfold XQ at hk;split at hk
 ·rename_i cl eT;split at hk
  ·rename_i x hcal;obtain ⟨q,hq,hk⟩:=aq hk;split at hk
   ·rename_i f' fi ca hx;obtain ⟨b,out,nd,hb,abR,xg,hk⟩:=ags hk;obtain ⟨hc,hk⟩:=aV hk;cases hk;simp only[bF] at hc;obtain ⟨⟨k1,k2,⟨k3,k3b⟩,k4⟩,⟨k5,k6⟩,k7⟩:=hc;obtain rfl:=(beq_iff _ _).1 k1;obtain ⟨o1,o2⟩:=ho;obtain ⟨o2,o3⟩:=nQ o2;have hC':kn ro E f' b (JL xs (sQ (rq (ps++rs)) (fi++tW q.2.ts cl.args.toList++ca))) y gd:=o1;obtain ⟨F1,φ1,c1,a1,⟨a2,a3⟩,r1⟩:=NI hq o2 h.r;obtain ⟨fv,v1,v2⟩:=r1.val hx (by simp)
    obtain ⟨aa,w1,w2⟩:=r1.fT k2;cases v2 with
    | @fn _ _ fis cas _ _ q1 q2=>
    have hg:=k3;let gc:Gb:=λk=>w.g (rq (iT (ps++rs)) k)
    have rc:=r1.enter hg hb;have qD:dA F1 gc (fis++aa++cas) (JL xs (sQ (rq (ps++rs)) (fi++tW q.2.ts cl.args.toList++ca))):=EY (((q1.append w2).append q2).map (.refl F1) λj hj=>axX hg (iJ.1 k5 j hj))
    have fc:∀x,w.m.nx<=x->qB F1 c1 ps w.m.H x=none:=λx hx=>by
     cases e:qB F1 c1 ps w.m.H x with
     |none=>rfl
     |some o=>have:=NJ e;rw[h.bd x hx] at this;cases this
    obtain ⟨F',g',φ',c',v,H',nx',e1,e2,e3,e4,e5,e6,e7,e8,e9⟩:=hC'.go rc fc qD;rw[Pt hb] at e5;have alg:∀K k,lk K (ps++rs)=some k->(g' k=gc k)\/(pn K=false/\(∀t x,lk t (s.wD (unP bs ps)).ts=some x->K∉jJ x)/\∀j b,lk j (s.wD (unP bs ps)).bs=some b->K∉b.keys):=λK k hK=>by
     rcases (pE _ _).mp ((iJ.1 k7) (K,k) (nX hK)) with hp|hp
     ·exact .inl (e5 k hp)
     ·simp only[bF] at hp;exact .inr ⟨by simpa using hp.1,NY hp.2.1,P7 hp.2.2⟩
    have ur:∀k,mJ k=true->g' k=gc k:=λk hk=>e5 k (by unfold pnL;rw[hk];rfl)
    have fin:∃F2,nu w.F F2/\(∀i o,F2 i=some o->F' i=some o/\(F1 i≠none->w.F i≠none))/\(∀k b L,lk k gd=some b->eH F' g' k b L->eH F2 g' k b L)/\VA F2 g' v y:=by
     cases gs with
     |nil=>
      cases hq;refine ⟨F',a1.trans e4,λi o hi=>⟨hi,λcZ=> ?_⟩,λ_ _ _ _ q=>q,e6⟩
      rcases a3 i cZ with h|⟨_,m,_⟩
      ·exact h
      ·cases m
     |cons gi gs=>
      obtain ⟨n1,n2⟩:=aV xg;exact ⟨w.F,.refl _,λi o hi=>⟨e4 i o (a1 i o hi),λ_=>by rw[hi];simp⟩,λk b L mU q=>ahX gQ n2 o3 (nX mU) q,Pz n1 e6⟩
    obtain ⟨F2,f1,f2,f3,f4⟩:=fin;obtain ⟨g2,φ2,c2,H2,m1,m2,m3,m4,m5,m6,m7,m8,m9⟩:=(h.r.wD (l:=unP bs ps)).leave h.bd a2 a1 r1.fr hg k3b rfl e4 e7 e8 e3 e2 f1 f2 f3 abR k4 ur λK k hK=>(alg K k hK).imp_right λh=>h.2
    have g2f:∀k∈jJ y,g2 (rq (iT (ps++rs)) k)=g' k:=λk hk=>by
     rcases (pE _ _).mp (iJ.1 k6 k hk) with hh|hh
     ·obtain ⟨K',hK'⟩:=Ox.1 (show (lk k (iT (ps++rs))).isSome=true from hh);rw[tC hK'];exact m2 K' k ((tw hg).1 hK')
     ·obtain ⟨h1,h2,h3⟩:=abE hh;rw[ET h3,m1 k h2,ur k h1];show w.g k=w.g (rq (iT (ps++rs)) k);rw[ET h3]
    have hs:=apc (fi:=fis) (aa:=aa) (ca:=cas) e1;have stp:=wU.aKT (E:=E) (nt:=nt) (ops:=ops) (i:=i) hi (Nl h.r hw) hd eT (show sG w.m.T cl.callee=some (.fn (.func f') fis cas) by rw[hcal];exact v1) w1 hs (λ_ _=>NJ) h.bd e2 m7 m8
    have lent:∀x,qB F1 c1 ps w.m.H x≠none->F1 x≠none\/∃K,c1 x=some K/\lk K ps≠none:=λx hx=>nA λhn=>hx (aL hn)
    have psal:∀K,lk K ps≠none->K∈ps.map (·.1):=λK hK=>by
     obtain ⟨k,hk⟩:=sq.1 hK;exact cO.2 ⟨_,nX hk,rfl⟩
    have psnb:∀K,lk K ps≠none->K∈(CC (ps++rs)).map (·.1):=λK hK=>by
     obtain ⟨k,hk⟩:=sq.1 hK;exact cO.2 ⟨_,lr.2 ⟨gE _ (nX hk),(iJ.1 k3b) _ (nX hk)⟩,rfl⟩
    refine ⟨_,⟨F2,g2,φ2,c2,_⟩,⟨⟨o,hi,stp⟩,f1,λk hk=> ?_,e2,λl hl x hx=> ?_,λx hx=> ?_,λx hx hW=> ?_,λhh=>(by cases hh),λx h0 cZ=>.inr ?_,λx hx=>.inr ⟨rfl,hx⟩,λx hx=>.inr ⟨rfl,hx⟩⟩,⟨m3.put o.dst λ_=>f4.map (.refl F2) g2f,m4⟩⟩
    ·cases hK:lk k (ps++rs) with
     |none=>exact m1 k hK
     |some k'=>
      rcases alg k k' hK with e|⟨e,_⟩
      ·show g2 k=w.g k;rw[m2 k k' hK,e];show w.g (rq (iT (ps++rs)) k')=w.g k;rw[tC ((tw hg).2 hK)]
      ·rw[e] at hk;cases hk
    ·cases hl;rcases lent x hx with hx|⟨K,h1,h2⟩
     ·exact (a3 x hx).imp_right λ⟨K,m,e⟩=>⟨K,iz _ m,e⟩
     ·exact .inr ⟨K,gE _ (psal K h2),a2 x K h1⟩
    ·have iS:H' x≠qB F1 c1 ps w.m.H x:=by simpa using hx
     by_cases cY:w.m.nx<=x
     ·exact .inr (.inl ⟨rfl,cY⟩)
     ·by_cases h0:qB F1 c1 ps w.m.H x=none
      ·exact absurd h0 (e8 x (by omega) λe=>iS (e.trans h0.symm))
      ·rcases lent x h0 with hf|⟨K,h1,h2⟩
       ·exfalso;obtain ⟨z,hz⟩:=sq.1 hf;refine iS ((e7.fr x z (e4 x z hz)).1.trans ?_);show _=qB F1 c1 ps w.m.H x;unfold qB;rw[aH (.inl hf)];exact (r1.fr x z hz).1.symm
       ·cases ro with
        |true=>exact absurd (e9 rfl x h0).1 iS
        |false=>
         refine .inr (.inr ⟨K,?_,a2 x K h1⟩);exact psnb K h2
    ·cases ro with
     |true=>exact m9 x hx λhl=>e9 rfl x hl
     |false=>
      have hW:∀K∈(CC (ps++rs)).map (·.1),w.c x≠some K:=hW
      refine m5 x hx λK hK=> ?_
      cases hK':lk K ps with
      |none=>rfl
      |some k=>exact absurd hK (hW K (psnb K (by rw[hK'];simp)))
    ·exact Nat.le_of_not_lt λcY=>m6 x cY cZ h0
   ·cases hk
  ·cases hk
 ·cases hk
end
section
variable {s s' s1:LS} {E:Env} {pn:Nat->Bool} {nt:Nat}
def awJ {J:Type} (l:List (Nat×J)):List (Nat×J):=
 match l with
 | []=> []
 |p::l=>p::ki p.1 l
def atM {J:Type} (l:List (Nat×J)):List (Nat×J):=List.rec [] (λp _ ih=>p::ki p.1 ih) l
def atU (k:Nat) (l:List (Nat×J)):lk k (awJ l)=lk k l:=by
 cases l with
 |nil=>rfl
 |cons p l=>exact vt
def aih {J:Type} (k:Nat):∀l:List (Nat×J),lk k (atM l)=lk k l
 | []=>rfl
 |p::l=>by
  show lk k ((p.1,p.2)::ki p.1 (atM l))=lk k ((p.1,p.2)::l);rw[vt,dz,dz,aih k l]
def LS.tidy (s:LS):LS:=⟨awJ s.ts,atM s.bs⟩
def In.tidy {w:WS} (h:In s w):In s.tidy w:=⟨h.r.sub (λt x h=>(atU t _).symm.trans h) λk b h=>(aih k _).symm.trans h,h.bd⟩
def In.UX {w:WS} (h:In s w) (k:jP pn s s') (iv:pn sP=true->s'=s):∃w',In s' w'/\Ext pn w w'/\w'.m=w.m:=by
 cases hp:pn sP with
 |true=>rw[iv hp];exact ⟨w,h,.refl w,rfl⟩
 |false=>
  obtain ⟨F',g',φ',c',h1,h2,r⟩:=k.go h.r;exact ⟨⟨F',g',φ',c',w.m⟩,⟨r,h.bd⟩,⟨h1,h2,dg _,λ_ _ h=>h,λh=>by rw[hp] at h;cases h⟩,rfl⟩
abbrev Sc (E:Env):=List (Nat×It E)
def BH (pn:Nat->Bool):Sc E->LS->List cD->LS×List cD×Sc E
 | [],s,o=>(s,o,[])
 |p::l,s,o=>
  match p with
  |(0,.gh q)=>(match aQ (pn sP) none (GJ pn s q.gp (Ew q.h)) with
   |some r=>BH pn l r.2 (r.1++o)
   |none=>(s,o,p::l))
  |_=>(s,o,p::l)
def Jy:∀(sc:Sc E) (s:LS) (o:List cD),iF (BH pn sc s o).2.1->iF o/\jP pn s (BH pn sc s o).1/\(pn sP=true->(BH pn sc s o).1=s)
 | [],s,o,ho=>⟨ho,.refl,λ_=>rfl⟩
 |p::l,s,o,ho=>by
  unfold BH at ho ⊢;split at ho
  ·rename_i q;cases hq:aQ (pn sP) none (GJ pn s q.gp (Ew q.h)) with
   |some r=>
    rw[hq] at ho;simp only[hq];have hp:pn sP=false:=by
     cases hp:pn sP with
     |false=>rfl
     |true=>rw[hp] at hq;cases hq
    rw[hp] at hq;obtain ⟨h1,h2,_⟩:=Jy l r.2 (r.1++o) ho;obtain ⟨h3,h4⟩:=nQ h1;exact ⟨h4,(auS (λ_=>rfl) hq h3).trans h2,λh=>by rw[hp] at h;cases h⟩
   |none=>rw[hq] at ho;simp only[hq];exact ⟨ho,.refl,by simp⟩
  ·simp_all;exact .refl
structure Rx where
 r:o8
 Rd:Option br
 cl:Bool
 pg:List GI
def aaK (E:Env) (pn:Nat->Bool) (s:LS) (o:Oper):Option Rx:=az (OO E pn s o.dst o.op) λr=>some ⟨r,akF s o.op,false,[]⟩
def axW (E:Env) (pn:Nat->Bool) (s:LS) (o:Oper) (it:It E):Option Rx:=
 match it with
 | .op h pl=>az (awK E pn s o.dst o.op pl (Ew h)) λr=>some ⟨r,akF s o.op,false,[]⟩
 | .call h ps rs=>az (XQ E pn s o.op h [] (Ew trivial) ps rs) λr=>some ⟨r,some (ps.map (·.1)++ []),true,[]⟩
 | .Qp h gs hd ps rs fz=>az (XQ E pn s o.op h gs (Ew hd) ps rs) λr=>some ⟨r,some (ps.map (·.1)++gs.map λq=>q.gp.key),true,fz⟩
 |_=>none
def opX (E:Env) (pn:Nat->Bool) (s:LS) (o:Oper) (sc:Sc E):Option (Rx×Sc E):=
 match sc with
 | []=>az (aaK E pn s o) λr=>some (r,[])
 |(0,it)::l=>az (axW E pn s o it) λr=>some (r,l)
 |(k+1,it)::l=>az (aaK E pn s o) λr=>some (r,(k,it)::l)
def Xw (W:br):List GI->LS->Option (List cD×LS)
 | [],s=>some ([],s)
 |q::l,s=>(match q.gp with
  | .fX K m n=>aQ (lQ K W) (az (lk K s.bs) λb=>az (Xw W l (s.acb K m n b)) λp=>some (aca s K n b (Ew q.h)++p.1,p.2)) none
  |_=>none)
def akA (cl:Bool) (W:br) (pg:List GI) (s:LS):Option (List cD×LS):=
 match pg with
 | []=>some ([],s)
 |q::l=>aQ cl (Xw W (q::l) s) none
def aaJ {ops:dF} {e:Ev} {w:WS} (eI:e.cl=true):∀{l:List GI} {s:LS} {w':WS} {p:List cD×LS},Xw e.W l s=some p->iF p.1->Step E nt pn ops e w w'->In s w'->∃Ij,Step E nt pn ops e w Ij/\In p.2 Ij/\Ij.m=w'.m
 | [],s,w',p,h,_,st,iw=>by cases h;exact ⟨w',st,iw,rfl⟩
 |q::l,s,w',p,h,ho,st,iw=>by
  unfold Xw at h;split at h
  ·rename_i K m n hq;obtain ⟨hK,h⟩:=aV h;obtain ⟨b,hb,h⟩:=aq h;obtain ⟨p1,h1,h⟩:=aq h;cases h;obtain ⟨o1,o2⟩:=nQ ho;obtain ⟨F',c',a1,a2,a3⟩:=iw.r.fX (m:=m) (n:=n) (ob:=Ew q.h) (λ_=>rfl) hb o1
   have Co:Step E nt pn ops e w ⟨F',w'.g,w'.Y,c',w'.m⟩:=⟨st.st,st.F.trans a1,st.g,st.nx,st.need,st.D,λx hx hW=>⟨(st.fr x hx hW).1,(a2.2.2.1 x (by rw[(st.fr x hx hW).2];exact hW K ((qf _ _).1 hK))).trans (st.fr x hx hW).2⟩,λh=>(by rw[eI] at h;cases h),st.born,st.frp,st.newp⟩
   exact aaJ (l:=l) (p:=p1) (w':=⟨F',w'.g,w'.Y,c',w'.m⟩) eI h1 o2 Co ⟨a3,iw.bd⟩
  ·cases h
def atD {ops:dF} {e:Ev} {w w':WS} {l:List GI} {p:List cD×LS} (h:akA e.cl e.W l s=some p) (ho:iF p.1) (st:Step E nt pn ops e w w') (iw:In s w'):∃Ij,Step E nt pn ops e w Ij/\In p.2 Ij/\Ij.m=w'.m:=by
 unfold akA at h;split at h
 ·cases h;exact ⟨w',st,iw,rfl⟩
 ·obtain ⟨eI,h⟩:=aV h;exact aaJ eI h ho st iw
def aon (E:Env) (nt:Nat) (pn:Nat->Bool) (all:dd) (s:LS) (o:Oper) (sc:Sc E):Option (Rx×Sc E):=
 aQ (kY nt o.dst) (az (KF all o s.ts) λb=>aQ b (az (opX E pn s o sc) λq=>az (akA q.1.cl q.1.r.W q.1.pg (q.1.r.s.put o.dst q.1.r.x).tidy) λp=>some (⟨⟨p.1++q.1.r.Ep,p.2,q.1.r.x,q.1.r.W⟩,q.1.Rd,q.1.cl,[]⟩,q.2)) (some (⟨⟨[],(s.put o.dst (.cS [])).tidy,.undef,[]⟩,some [],false,[]⟩,sc))) none
def aom {ops:dF} {sc:Sc E} {q:Rx×Sc E} {w:WS} (hi:ops[i]? =some o) (h:aon E nt pn ops.toList s o sc=some q) (ho:iF q.1.r.Ep) (iw:In s w) (hn:w.m.H new=none) (eV:w.m.nx<=nx') (l9:new<nx') (hc:q.1.cl=true->nx'=w.m.nx+1\/nx'=w.m.nx):
  ∃r w',Step E nt pn ops ⟨i,new,r,q.1.r.W,q.1.Rd,q.1.cl⟩ w w'/\In q.1.r.s w'/\(q.1.cl=false->w'.m.nx=nx'):=by
 obtain ⟨hd,h⟩:=aV h;obtain ⟨b,hw,h⟩:=aq h;rw[bH] at h;split at h
 ·rename_i hb;subst hb;obtain ⟨p,hp,h⟩:=aq h;obtain ⟨z,hz,h⟩:=aq h;cases h;obtain ⟨oz,ho⟩:=nQ ho;have plain:∀{r:Rx},aaK E pn s o=some r->iF r.r.Ep->∃r1 w',Step E nt pn ops ⟨i,new,r1,r.r.W,r.Rd,r.cl⟩ w w'/\In (r.r.s.put o.dst r.r.x).tidy w'/\(r.cl=false->w'.m.nx=nx'):=λ{r} hr ho=>by
   obtain ⟨r0,h1,h2⟩:=aq hr;cases h2;obtain ⟨r1,w',a,b,c⟩:=Step.op hi rfl (Nr h1 ho) hw hd iw hn eV l9;exact ⟨r1,w',a,b.tidy,λ_=>c⟩
  have main:∃r1 w',Step E nt pn ops ⟨i,new,r1,p.1.r.W,p.1.Rd,p.1.cl⟩ w w'/\In (p.1.r.s.put o.dst p.1.r.x).tidy w'/\(p.1.cl=false->w'.m.nx=nx'):=by
   unfold opX at hp;split at hp
   ·obtain ⟨r,h1,h2⟩:=aq hp;cases h2;exact plain h1 ho
   ·obtain ⟨r,h1,h2⟩:=aq hp;cases h2;unfold axW at h1;split at h1
    ·obtain ⟨r0,h3,h2⟩:=aq h1;cases h2;obtain ⟨r1,w',a,b,c⟩:=Step.op hi rfl (ata (λ_=>rfl) h3 ho) hw hd iw hn eV l9
     exact ⟨r1,w',a,b.tidy,λ_=>c⟩
    ·obtain ⟨r0,h3,h2⟩:=aq h1;cases h2;obtain ⟨r1,w',a,b⟩:=Step.call (λ_=>rfl) hi rfl h3 ho hw hd iw new
     exact ⟨r1,w',a,b.tidy,λh=>by cases h⟩
    ·obtain ⟨r0,h3,h2⟩:=aq h1;cases h2;obtain ⟨r1,w',a,b⟩:=Step.call (λ_=>rfl) hi rfl h3 ho hw hd iw new
     exact ⟨r1,w',a,b.tidy,λh=>by cases h⟩
    ·cases h1
   ·obtain ⟨r,h1,h2⟩:=aq hp;cases h2;exact plain h1 ho
  obtain ⟨r1,w',m1,m2,m3⟩:=main;obtain ⟨w2,n1,n2,n3⟩:=atD hz oz m1 m2;exact ⟨r1,w2,n1,n2,λh=>by rw[n3];exact m3 h⟩
 ·rename_i hb;have hb:b=false:=by simpa using hb
  subst hb;cases h;obtain ⟨r1,w',a,b,c⟩:=Step.skip (E:=E) (nt:=nt) (pn:=pn) hi hw hd iw hn eV;exact ⟨r1,w',a,b.tidy,λ_=>c⟩
def ajQ (E:Env) (nt:Nat) (pn:Nat->Bool) (all:dd) (s:LS) (o:Oper) (sc:Sc E):Option (Rx×Sc E):=
 az (aon E nt pn all s o sc) λq=>aQ (pn sP) (aQ q.1.r.W.isEmpty (some q) none) (some q)
def Y7 {ops:dF} {sc:Sc E} {q:Rx×Sc E} {w:WS} (hi:ops[i]? =some o) (h:ajQ E nt pn ops.toList s o sc=some q) (ho:iF q.1.r.Ep) (iw:In s w) (hn:w.m.H new=none) (eV:w.m.nx<=nx') (l9:new<nx') (hc:q.1.cl=true->nx'=w.m.nx+1\/nx'=w.m.nx):
  ∃r w',Step E nt pn ops ⟨i,new,r,q.1.r.W,q.1.Rd,q.1.cl⟩ w w'/\In q.1.r.s w'/\(q.1.cl=false->w'.m.nx=nx')/\(pn sP=true->∀x,w.m.H x≠none->w'.m.H x=w.m.H x/\w'.c x=w.c x):=by
 obtain ⟨q',h1,h⟩:=aq h;obtain ⟨rfl,hW⟩:q'=q/\(pn sP=true->q'.1.r.W= []):=by
  rw[bH] at h;split at h
  ·obtain ⟨h2,h⟩:=aV h;cases h;exact ⟨rfl,λ_=>by simpa using h2⟩
  ·rename_i hp;cases h;exact ⟨rfl,λh=>absurd h hp⟩
 obtain ⟨r,w',a,b,c⟩:=aom hi h1 ho iw hn eV l9 hc;exact ⟨r,w',a,b,c,λhp x hx=>a.fr x hx λK hK=>by
  have hK:K∈q'.1.r.W:=hK;rw[hW hp] at hK;cases hK⟩
def aar (E:Env) (nt:Nat) (pn:Nat->Bool) (all:dd):dd->LS->Sc E->List cD->Option (LS×List cD×Sc E)
 | [],s,sc,ob=>some (s,ob,sc)
 |o::l,s,sc,ob=>(λq:LS×List cD×Sc E=>az (ajQ E nt pn all q.1 o q.2.2) λr=>aar E nt pn all l r.1.r.s r.2 (r.1.r.Ep++q.2.1)) (BH pn sc s ob)
def Wl {ops:dF}:∀{l:dd} {i:Nat} {s:LS} {sc:Sc E} {ob:List cD} {r:LS×List cD×Sc E},ops.toList.drop i=l->i<=ops.size->aar E nt pn ops.toList l s sc ob=some r->iF r.2.1->iF ob/\∀w,In s w->∃w',J0 E nt ops i w.m w'.m/\In r.1 w'/\Ext pn w w'
 | [],i,s,sc,ob,r,hl,hle,h,ho=>by
  cases h;refine ⟨ho,λw hw=>⟨w,?_,hw,.refl w⟩⟩
  have:ops.size=i:=by
   have:=bN List.length hl;rw[iX,AE,KD] at this;omega
  subst this;exact .nil
 |o::l,i,s,sc,ob,r,hl,hle,h,ho=>by
  obtain ⟨q,h1,h⟩:=aq h;have cY:i<ops.size:=by
   have:=bN List.length hl;rw[iX,kr,KD] at this;omega
  have hi:ops[i]? =some o:=by
   rw[<-lx,<-List.head?_drop,hl];rfl
  have xi:ops.toList.drop (i+1)=l:=by rw[<-tV,hl];rfl
  obtain ⟨h2,h3⟩:=Wl xi cY h ho;obtain ⟨h4,h5⟩:=nQ h2;obtain ⟨h6,h7,h9⟩:=Jy sc s ob h5;refine ⟨h6,λw hw=> ?_⟩
  obtain ⟨w1,k1,k2,k3⟩:=hw.UX h7 h9;obtain ⟨r1,w2,st,k4,k5,k9⟩:=Y7 (new:=w1.m.nx) (nx':=w1.m.nx+1) hi h1 h4 k1 (k1.bd _ (dg _)) (xB _) (Nat.lt_succ_self _) λ_=>.inl rfl
  obtain ⟨w3,k6,k7,k8⟩:=h3 w2 k4;obtain ⟨o',sW,st1⟩:=st.st;rw[hi] at sW;cases sW;refine ⟨w3,?_,k7,k2.trans (.trans ⟨st.F,st.g,st.nx,λx hx cZ=> ?_,k9⟩ k8)⟩
  ·rw[<-k3];refine J0.cons hi st1 (λx hx=> ?_) (λx hx=> ?_) k6
   ·rcases st.frp x hx with rfl|⟨_,h⟩
    ·exact dg _
    ·exact h
   ·rcases st.newp x hx with ⟨hc,rfl⟩|⟨_,h⟩
    ·exact ⟨dg _,by rw[k5 hc];exact Nat.lt_succ_self _⟩
    ·exact h
  ·exact nA λh0=>by
    have h0:w1.m.H x=none:=nA h0;rcases st.born x h0 cZ with rfl|h
    ·exact absurd hx (Nat.lt_irrefl _)
    ·exact absurd hx (Nat.not_lt.2 h)
end
end Go.bX
namespace Go.bX
open Go.RowKit
variable {a l:br} {i nt:Nat} {ro:bP} {U:Nat->H5} {need:Nat->Nat->Prop} {s0:DS} {Q:Exit->Act->World->Prop}
section
variable {E:Env} {g:Gh} {f:Hf} {w:World}
def aoo (us:Nat->H5) (p:Nat->Bool) {b:br} (nd:(a++i::b).Nodup) (hp:p i=true) (s:DS):eX us (a++i::b) (λj=>p j&&decide (j∈a++ [i])) s=(eX us a p s).app (us i):=by
 obtain ⟨_,n2,n3⟩:=DO.1 nd;have n2:=px.1 n2;unfold eX;rw[KC,mD];have h1:a.filter (λj=>p j&&decide (j∈a++ [i]))=a.filter p:=xA λx hx=>by simp[hx]
 have h2:b.filter (λj=>p j&&decide (j∈a++ [i]))= []:=so.2 λx hx=>by
  have e1:x∉a:=λh=>n3 x h x (fO _ hx) rfl
  have e2:x≠i:=λe=>n2.1 (e ▸ hx)
  simp[e1,e2]
 rw[h1,h2];simp[hp]
def avv {ops:dF} {frp newp:Nat->Nat->Prop} (nd:l.Nodup) (hl:∀j,j∈l↔j<ops.size) (Bz:E.P.follows .mixedOrders=true) (GG:∀a i b,l=a++i::b->∃o,ops[i]? =some o/\(U i).dst=o.dst/\vj E ro nt ops i o (eX U a (λ_=>true) s0).T (need i) (eX U a (λ_=>true) s0).F (frp i) (newp i) (U i).v (U i).D (U i).H) (hd:∀a i b,l=a++i::b->(∀k∈direct ops i,k∈a)/\∀k∈a,k∈mq ops ops.size i\/Ind ops U need k i) (hfp:∀i k,i∈l->k∈l->i≠k->∀x,frp i x->newp k x->i∈mq ops ops.size k) {a:Act} {id m:Nat} (hE:dW E g) (ed:FR g nt s0.T a.tmps) (hr:HR g s0.F w) (l9:∀i,i∈l->∀x,frp i x->g.Z x=none) (hq:∀g' a' w',FR g' nt (eX U l (λ_=>true) s0).T a'.tmps->HR g' (eX U l (λ_=>true) s0).F w'->Fr g s0.F w g' (eX U l (λ_=>true) s0).F w'->a'.defers=a.defers->
   (∀x,(∀i,i∈l->¬newp i x)->g'.Z x=g.Z x)->Q .normal a' w'):(Code.region id ops true).wpIn (ow ro) m E.P Q a w:=by
 let n:=ops.size;have key:∀(fuel:Nat) (bw:Array Bool) (a1:Act) (w1:World) (g1:Gh),bw.size=n->(∀j,bw.getD j false=true->∀i∈direct ops j,bw.getD i false=true)->
   (l.filter (λj=> !bw.getD j false)).length=fuel->dW E g1->FR g1 nt (eX U l (λj=>bw.getD j false) s0).T a1.tmps->HR g1 (eX U l (λj=>bw.getD j false) s0).F w1->
   Fr g s0.F w g1 (eX U l (λj=>bw.getD j false) s0).F w1->a1.defers=a.defers->(∀x,g1.Z x≠g.Z x->∃k,k∈l/\bw.getD k false=true/\newp k x)->wpAnyIn (ow ro) m E.P .any ops Q fuel bw a1 w1:=by
  intro fuel;induction fuel with
  |zero=>
   intro bw a1 w1 g1 mH eI BD hE1 BC xf CK hdf Dz;have gV:∀j,j∈l->bw.getD j false=true:=λj hj=>by simpa using so.1 (sn BD) j hj
   have mT:eX U l (λj=>bw.getD j false) s0=eX U l (λ_=>true) s0:=by
    unfold eX;rw[xA λx hx=>gV x hx]
   rw[mT] at BC xf CK;refine ⟨?_,hq g1 a1 w1 BC xf CK hdf (λx hx=> ?_)⟩
   ·rw[S2];intro i hi;obtain ⟨h1,h2,_⟩:=tY.1 hi;have:=gV i ((hl i).2 h1);simp only[mh] at this h2;rw[nU (by rw[mH];exact h1)] at this h2
    simp at this h2;rw[this] at h2;simp at h2
   ·by_cases he:g1.Z x=g.Z x
    ·exact he
    ·obtain ⟨k,k1,_,k3⟩:=Dz x he;exact absurd k3 (hx k k1)
  |succ fuel ih=>
   intro bw a1 w1 g1 mH eI BD hE1 BC xf CK hdf Dz;have hun:∀j,j<n->bw.getD j true=bw.getD j false:=by
    intro j hj;simp only[mh];rw[nU (by rw[mH];exact hj)];rfl
   refine ⟨λhr=> ?_,λi hi=> ?_⟩
   ·exfalso;have first:∀b c:br,b++c=l->(∀j∈b,bw.getD j false=true)->(∃a i d,l=a++i::d/\bw.getD i false=false/\∀j∈a,bw.getD j false=true)\/∀j∈c,bw.getD j false=true:=by
     intro b c;induction c generalizing b with
     |nil=>exact λ_ _=>.inr λj hj=>by cases hj
     |cons i c ihc=>
      intro he hb;cases hi:bw.getD i false with
      |false=>exact .inl ⟨b,i,c,he.symm,hi,hb⟩
      |true=>
       rcases ihc (b++ [i]) (by simpa using he) (λj hj=>by
        rcases eR.1 hj with h|h
        ·exact hb j h
        ·rw[ez.1 h];exact hi) with h|h
       ·exact .inl h
       ·exact .inr λj hj=>by
         rcases cH.1 hj with rfl|hj
         ·exact hi
         ·exact h j hj
    rcases first [] l rfl (λj hj=>by cases hj) with ⟨b,i,d,he,h1,h2⟩|h
    ·have iw:i<n:=(hl i).1 (by rw[he];simp)
     have:i∈Region.ready .any ops bw:=tY.2 ⟨iw,by rw[hun i iw];exact h1,λj hj=>h2 j ((hd b i d he).1 j hj)⟩
     rw[hr] at this;simp at this
    ·rw[so.2 λx hx=>by simp[h x hx]] at BD
     simp at BD
   ·obtain ⟨sV,uQ,hi3⟩:=tY.1 hi;rw[hun i sV] at uQ;obtain ⟨b,d,he⟩:=tU ((hl i).2 sV);obtain ⟨oi,hoi,auK,hs⟩:=GG b i d he;have nd':=nd;rw[he] at nd';obtain ⟨n1,n2,n3⟩:=DO.1 nd';have n2:=px.1 n2;have atQ:∀j,j∈l->j∈b\/j=i\/j∈d:=λj hj=>by
     rw[he] at hj;simpa using hj
    have ib:i∉b:=λh=>n3 i h i (by simp) rfl
    have Jo:∀j,j∈b->bw.getD j false=false->Ind ops U need j i:=by
     intro j hj xi;rcases (hd b i d he).2 j hj with hc|hc
     ·have:=G8 (S:=λj=>bw.getD j false=true) eI n i hi3 j hc
      rw[xi] at this;simp at this
     ·exact hc
    have Al:∀j,j∈d->bw.getD j false=true->Ind ops U need i j:=by
     intro j hj xi;obtain ⟨d1,d2,HV⟩:=tU hj;rcases (hd (b++i::d1) j d2 (by rw[he,HV];simp)).2 i (by simp) with hc|hc
     ·have:=uh (S:=λj=>bw.getD j false=true) eI n j xi i hc
      rw[uQ] at this;simp at this
     ·exact hc
    have hdb:∀j,j∈d->j∉b/\j≠i:=λj hj=>⟨λh=>n3 j h j (fO _ hj) rfl,λe=>n2.1 (e ▸ hj)⟩
    have abP:eX U b (λ_=>true) s0=eX U l (λj=>decide (j∈b)) s0:=by
     unfold eX;rw[he,KC,mD];have h1:b.filter (λj=>decide (j∈b))=b:=vE.2 λx hx=>by simpa using hx
     have h2:d.filter (λj=>decide (j∈b))= []:=so.2 λx hx=>by simpa using (hdb x hx).1
     rw[h1,h2,vE.2 (λ_ _=>rfl)]
     simp[ib]
    have hT:∀t∈oi.looksAt ops,(eX U l (λj=>bw.getD j false) s0).T t=(eX U b (λ_=>true) s0).T t:=by
     intro t htr;rw[abP];refine F5 U t _ _ _ _ _ rfl (λj hj mP=> ?_)
     rcases atQ j hj with hb|rfl|hb
     ·cases vW:bw.getD j false with
      |true=>simp[hb]
      |false=>exact absurd htr ((Jo j hb vW).s1 t mP _ hoi)
     ·simp[uQ,ib]
     ·cases vW:bw.getD j false with
      |false=>simp[(hdb j hb).1]
      |true=>exact absurd htr ((Al j hb vW).s2 t mP _ hoi)
    have hB:∀x,need i x->(eX U l (λj=>bw.getD j false) s0).F x=(eX U b (λ_=>true) s0).F x:=by
     intro x hx;rw[abP];refine F7 U x _ _ _ _ _ rfl (λj hj mP=> ?_)
     rcases atQ j hj with hb|rfl|hb
     ·cases vW:bw.getD j false with
      |true=>simp[hb]
      |false=>
       have:=(Jo j hb vW).n1 x hx;rw[mP] at this;simp at this
     ·simp[uQ,ib]
     ·cases vW:bw.getD j false with
      |false=>simp[(hdb j hb).1]
      |true=>
       have:=(Al j hb vW).n2 x hx;rw[mP] at this;simp at this
    have iR:∀j,(bw.setIfInBounds i true).getD j false=if j=i then true else bw.getD j false:=λj=>abZ bw i j (by rw[mH];exact sV) false
    have hpi:(bw.setIfInBounds i true).getD i false=true:=by rw[iR];simp
    have bi:∀j,j∈l->j∉b++ [i]->j∈d:=λj hj hn=>by
     rcases atQ j hj with h|h|h
     ·exact absurd (gE _ h) hn
     ·exact absurd (by simp[h]) hn
     ·exact h
    have hup:eX U l (λj=>(bw.setIfInBounds i true).getD j false&&decide (j∈b++ [i])) s0=(eX U b (λj=>(bw.setIfInBounds i true).getD j false) s0).app (U i):=by
     have:=aoo U (λj=>(bw.setIfInBounds i true).getD j false) (a:=b) (b:=d) (i:=i) nd' hpi s0
     rw[<-he] at this;exact this
    have P0:(eX U l (λj=>bw.getD j false) s0).app (U i)=eX U l (λj=>(bw.setIfInBounds i true).getD j false) s0:=by
     refine DS.ext' (λt=> ?_) (λx=> ?_)
     ·show (if (U i).dst=some t then some (U i).v else _)=_
      by_cases hdt:(U i).dst=some t
      ·have e:=F5 U t (λj=>(bw.setIfInBounds i true).getD j false) (λj=>(bw.setIfInBounds i true).getD j false&&decide (j∈b++ [i])) l s0 s0 rfl (λj hj mP=>by
        by_cases hm:j∈b++ [i]
        ·simp[hm]
        ·cases vW:(bw.setIfInBounds i true).getD j false with
         |false=>simp
         |true=>
          have hjd:=bi j hj hm;rw[iR,aL (hdb j hjd).2] at vW;exact absurd mP ((Al j hjd vW).s3 t hdt))
       rw[e,hup,aH hdt];show _=if (U i).dst=some t then some (U i).v else _
       rw[aH hdt]
      ·rw[aL hdt];refine F5 U t _ _ _ _ _ rfl (λj hj mP=> ?_)
       rw[iR];split
       ·rename_i he;subst he;exact absurd mP hdt
       ·rfl
     ·show (if (U i).D x=true then (U i).H x else _)=_
      by_cases hdx:(U i).D x=true
      ·have e:=F7 U x (λj=>(bw.setIfInBounds i true).getD j false) (λj=>(bw.setIfInBounds i true).getD j false&&decide (j∈b++ [i])) l s0 s0 rfl (λj hj mP=>by
        by_cases hm:j∈b++ [i]
        ·simp[hm]
        ·cases vW:(bw.setIfInBounds i true).getD j false with
         |false=>simp
         |true=>
          have hjd:=bi j hj hm;rw[iR,aL (hdb j hjd).2] at vW;have:=(Al j hjd vW).d x hdx;rw[mP] at this;simp at this)
       rw[e,hup,aH hdx];show _=if (U i).D x=true then (U i).H x else _
       rw[aH hdx]
      ·rw[aL hdx];refine F7 U x _ _ _ _ _ rfl (λj hj mP=> ?_)
       rw[iR];split
       ·rename_i he;subst he;exact absurd mP hdx
       ·rfl
    have auN:∀j,(bw.setIfInBounds i true).getD j false=true->∀k∈direct ops j,(bw.setIfInBounds i true).getD k false=true:=by
     intro j hj k hk;rw[iR] at hj ⊢;split
     ·rfl
     ·split at hj
      ·rename_i he;subst he;exact hi3 k hk
      ·exact eI j hj k hk
    have alo:(l.filter (λj=> !(bw.setIfInBounds i true).getD j false)).length=fuel:=by
     have h1:l.filter (λj=> !(bw.setIfInBounds i true).getD j false)=(l.filter (λj=> !bw.getD j false)).erase i:=by
      have xg:(l.filter (λj=> !bw.getD j false)).Nodup:=List.Pairwise.filter _ nd
      rw[xg.erase_eq_filter,List.filter_filter];refine xA λx hx=> ?_
      rw[iR];by_cases hxi:x=i<;>simp[hxi]
     rw[h1,agz (lr.2 ⟨(hl i).2 sV,by rw[uQ];rfl⟩),BD]
     rfl
    have Jn:∀x,frp i x->g1.Z x=none:=by
     intro x hx;by_cases he:g1.Z x=g.Z x
     ·rw[he];exact l9 i ((hl i).2 sV) x hx
     ·obtain ⟨k,k1,k2,k3⟩:=Dz x he;have cZ:i≠k:=λe=>by subst e;rw[uQ] at k2;simp at k2
      have:=uh (S:=λj=>bw.getD j false=true) eI n k k2 i (hfp i k ((hl i).2 sV) k1 cZ x hx k3)
      rw[uQ] at this;simp at this
    refine hs m g1 _ _ a1 w1 (wpAnyIn (ow ro) m E.P .any ops Q fuel (bw.setIfInBounds i true)) Q hE1 BC xf hT hB Jn (λr w' g' q1 q2 q3 q4=> ?_)
    rw[<-auK] at q1 ⊢;have e1:jk (eX U l (λj=>bw.getD j false) s0).T (U i).dst (U i).v=(eX U l (λj=>(bw.setIfInBounds i true).getD j false) s0).T:=by rw[<-P0];rfl
    have e2:kO (U i).D (U i).H (eX U l (λj=>bw.getD j false) s0).F=(eX U l (λj=>(bw.setIfInBounds i true).getD j false) s0).F:=by rw[<-P0];rfl
    rw[e1] at q1;rw[e2] at q2 q3;refine ih (bw.setIfInBounds i true) _ w' g' (by simpa using mH) auN alo (hE1.mono q3.le) q1 q2 (CK.trans q3) (by rw[put_defers];exact hdf) (λx hx=> ?_)
    by_cases hn:newp i x
    ·exact ⟨i,(hl i).2 sV,hpi,hn⟩
    rw[q4 x hn] at hx;obtain ⟨k,k1,k2,k3⟩:=Dz x hx;refine ⟨k,k1,?_,k3⟩;rw[iR];split
    ·rfl
    ·exact k2
 have hlen:l.length=ops.size:=by
  have:l.Perm (List.range ops.size):=(List.perm_ext_iff_of_nodup nd List.nodup_range).2 λj=>by rw[hl,S1]
  rw[this.length_eq,List.length_range]
 refine wpIn_region_any (F:=ow ro) Bz (key ops.size _ a _ g (by simp[n]) ?_ ?_ hE ?_ ?_ ?_ rfl (λx hx=>absurd rfl hx))
 ·intro j hj;simp[mh,xz] at hj;split at hj<;>simp at hj
 ·have:l.filter (λj=> !(Array.replicate ops.size false).getD j false)=l:=vE.2 λx hx=>by
   simp[mh,xz];split<;>simp
  rw[this,hlen]
 all_goals
  have hs0:eX U l (λj=>(Array.replicate ops.size false).getD j false) s0=s0:=by
   unfold eX;have:l.filter (λj=>(Array.replicate ops.size false).getD j false)= []:=so.2 λx hx=>by
    simp[mh,xz];split<;>simp
   rw[this];rfl
  rw[hs0]
 ·exact ed
 ·exact hr.EM rfl
 ·exact Fr.EM rfl rfl rfl rfl
end
end Go.bX
namespace Go.bX
variable {x:Nat} {m0:MS}
section
variable {s s' s1:LS} {E:Env} {pn:Nat->Bool} {nt:Nat} {ops:dF}
def BP {l m:br} (h:o5 l m=true):∀x∈l,x∉m:=λx hx hm=>by
 induction l with
 |nil=>cases hx
 |cons y l ih=>
  have h:aQ (lQ y m) false (o5 l m)=true:=h;rw[bH] at h;split at h
  ·cases h
  ·rename_i hy;rcases cH.1 hx with rfl|hx
   ·exact hy ((qf _ _).2 hm)
   ·exact ih h hx
structure WOK (w:WS):Prop where
 bd:∀x,w.m.nx<=x->w.m.H x=none
 cn:∀i,w.m.H i=none->w.c i=none
 fr:∀i o,w.F i=some o->w.m.H i=some o/\w.c i=none
def In.wok {w:WS} (h:In s w):WOK w:=⟨h.bd,h.r.cn,λi o hi=>h.r.fr i o hi⟩
def WOK.alive {w:WS} (h:WOK w) {K:Nat} (hc:w.c x=some K):w.m.H x≠none/\x<w.m.nx:=
 have h1:w.m.H x≠none:=λe=>by rw[h.cn x e] at hc;cases hc
 ⟨h1,xC λe=>h1 (h.bd x e)⟩
inductive ew (E:Env) (nt:Nat) (pn:Nat->Bool) (ops:dF):WS->List Ev->WS->Prop
 |nil {w:_} (hw:WOK w):ew E nt pn ops w [] w
 |cons {w w1 w2 e l:_} (hw:WOK w) (h:Step E nt pn ops e w w1) (t:ew E nt pn ops w1 l w2):ew E nt pn ops w (e::l) w2
def ew.split:∀{a:List Ev} {e:Ev} {b:List Ev} {w w':WS},ew E nt pn ops w (a++e::b) w'->∃w1 w2,ew E nt pn ops w a w1/\Step E nt pn ops e w1 w2/\ew E nt pn ops w2 b w'/\WOK w1
 | [],_,_,_,_,.cons hw h t=>⟨_,_,.nil hw,h,t,hw⟩
 |_::a,_,_,_,_,.cons hw h t=>let ⟨w1,w2,h1,h2,h3,h4⟩:=ew.split (a:=a) t;⟨w1,w2,.cons hw h h1,h2,h3,h4⟩
def ew.F:∀{l:List Ev} {w w':WS},ew E nt pn ops w l w'->nu w.F w'.F/\(∀k,pn k=true->w'.g k=w.g k)/\w.m.nx<=w'.m.nx
 |_,_,_,.nil _=>⟨.refl _,λ_ _=>rfl,dg _⟩
 |_,_,_,.cons _ h t=>have ⟨a,b,c⟩:=t.F;⟨h.F.trans a,λk hk=>(b k hk).trans (h.g k hk),jj h.nx c⟩
def ew.Im:∀{l:List Ev} {w w':WS} {x:Nat},ew E nt pn ops w l w'->w.m.H x=none->x<w.m.nx->(∀e∈l,x≠e.nw)->w'.m.H x=none
 |_,_,_,_,.nil _,h,_,_=>h
 |e::l,w,w',x,.cons _ st t,h,hx,hn=>t.Im (nA λh1=>by
   rcases st.born x h h1 with e0|e0
   ·exact hn e (by simp) e0
   ·omega) (mC hx st.nx) λe he=>hn e (fO _ he)
def ew.ajJ:∀{l:List Ev} {w w':WS} {x K:Nat},ew E nt pn ops w l w'->WOK w->w.c x=some K->(∀e∈l,x≠e.nw/\(e.cl=true->K∉e.W))->w'.c x=some K\/w'.m.H x=none
 |_,_,_,_,_,.nil _,_,h,_=>.inl h
 |e::l,w,w',x,K,.cons (w1:=w1) hw st t,js,hc,hl=>by
  obtain ⟨h,hx⟩:=js.alive hc;have Jc:=mC hx st.nx;have dead:w1.m.H x=none->w'.c x=some K\/w'.m.H x=none:=λh1=>.inr (t.Im h1 Jc λe he=>(hl e (fO _ he)).1)
  have ok1:WOK w1:=by cases t<;>assumption
  have go:w1.c x=some K->w'.c x=some K\/w'.m.H x=none:=λh1=>t.ajJ ok1 h1 λe he=>hl e (fO _ he)
  cases eI:e.cl with
  |false=>exact ((st.CU eI).1 x K hc).elim go dead
  |true=>
   obtain ⟨_,h2⟩:=st.fr x h λK' hK' e0=>by
    rw[hc] at e0;exact (hl e (by simp)).2 eI ((kV e0) ▸ hK')
   exact go (h2.trans hc)
structure Good (ops:dF) (e':Ev) (pm:List Ev) (e:Ev):Prop where
 cl:e'.cl=false
 rd:∃r' r,e'.Rd=some r'/\e.Rd=some r/\(∀K∈r'++e'.W,K∉e.W/\∀m∈pm,m.cl=true->K∉m.W)/\∀K∈r,K∉e'.W
 sl:∃o' o,ops[e'.i]? =some o'/\ops[e.i]? =some o/\wj ops.toList o' o=true
def ase (ops:dF) (p:List Ev) (e:Ev):Prop:=∀pa e' pm,p=pa++e'::pm->e'.i∈mq ops ops.size e.i\/Good ops e' pm e
def PW (ops:dF):List Ev->List Ev->Prop
 |_,[]=>True
 |p,e::l=>((∀k∈direct ops e.i,k∈p.map (·.i))/\ase ops p e)/\PW ops (p++ [e]) l
def PW.at:∀{l p a:List Ev} {e:Ev} {b:List Ev},PW ops p l->l=a++e::b->(∀k∈direct ops e.i,k∈(p++a).map (·.i))/\ase ops (p++a) e
 |_,p,[],e,b,h,rfl=>by rw[tN];exact h.1
 |_,p,e0::a,e,b,h,rfl=>by
  have:=PW.at (p:=p++ [e0]) (a:=a) (e:=e) (b:=b) h.2 rfl;simpa using this
def EU (ops:dF) (iO:List Ev) (i:Nat):H5:=(lk i (iO.map λe=>(e.i,e))).elim ⟨none,.undef,λ_=>false,λ_=>none⟩ λe=>⟨(ops[i]?).bind (·.dst),e.r.v,e.r.D,e.r.H⟩
def LB {iO:List Ev} (nd:(iO.map (·.i)).Nodup) {e:Ev} (he:e∈iO):lk e.i (iO.map λe=>(e.i,e))=some e:=by
 induction iO with
 |nil=>cases he
 |cons e0 l ih=>
  rw[jc,dz];obtain ⟨n1,n2⟩:=px.1 nd;rcases cH.1 he with rfl|he
  ·rw[aH rfl]
  ·rw[aL λ(e1:e.i=e0.i)=>n1 (cO.2 ⟨e,he,e1⟩)]
   exact ih n2 he
def DG {iO:List Ev} (nd:(iO.map (·.i)).Nodup):∀{l:List Ev} {w w':WS},(∀e∈l,e∈iO)->ew E nt pn ops w l w'->eX (EU ops iO) (l.map (·.i)) (λ_=>true) ⟨w.m.T,w.m.H⟩=⟨w'.m.T,w'.m.H⟩
 |_,_,_,_,.nil _=>rfl
 |e::l,w,w',hm,.cons (w1:=w1) _ st t=>by
  obtain ⟨o,ho,s1⟩:=st.st;have ih:=DG nd (λe he=>hm e (fO _ he)) t
  rw[<-ih];have e1:(⟨w.m.T,w.m.H⟩:DS).app (EU ops iO e.i)=⟨w1.m.T,w1.m.H⟩:=by
   have:EU ops iO e.i=⟨(ops[e.i]?).bind (·.dst),e.r.v,e.r.D,e.r.H⟩:=by unfold EU;rw[LB nd (hm e (by simp))];rfl
   rw[this,ho];show (⟨jk w.m.T o.dst e.r.v,kO e.r.D e.r.H w.m.H⟩:DS)=_;rw[<-s1.T,<-s1.H]
  show eX (EU ops iO) (e.i::l.map (·.i)) (λ_=>true) _=_
  unfold eX;rw[mD];simp only[aB,D2];rw[e1]
def alU {iO:List Ev} {w w':WS} {id:Nat} (hT:w.m.T=m0.T) (hH:w.m.H=m0.H) (h0:w.m.nx=m0.nx+ops.size) (o7:∀x,m0.nx<=x->m0.H x=none) (hc:ew E nt pn ops w iO w') (nd:(iO.map (·.i)).Nodup) (gV:∀j,j∈iO.map (·.i)↔j<ops.size) (hnw:∀e∈iO,e.nw=m0.nx+e.i) (hp:PW ops [] iO):jN E nt (.region id ops true) m0 .normal w'.m:=λok ro k g a wo Q n hQ=>by
 have uniq:∀{e e':Ev},e∈iO->e'∈iO->e.i=e'.i->e=e':=λh h' e0=>by
  have a:=LB nd h;rw[e0,LB nd h'] at a;exact (kV a).symm
 have NG:∀{e:Ev},e∈iO->e.nw<w.m.nx/\m0.nx<=e.nw:=λh=>by
  have:=(gV _).1 (cO.2 ⟨_,h,rfl⟩);rw[hnw _ h,h0];omega
 have nwne:∀{a b:List Ev} {e:Ev},iO=a++e::b->∀e'∈a++b,e.nw≠e'.nw:=λ{a b e} he e' hm e0=>by
  have he1:e∈iO:=by rw[he];simp
  have he2:e'∈iO:=by rw[he];simp only[eR,cH] at hm ⊢;exact hm.elim .inl λh=>.inr (.inr h)
  rw[hnw e he1,hnw e' he2] at e0;have nd':=nd;rw[he,mB,jc] at nd';obtain ⟨_,n2,n3⟩:=DO.1 nd';rcases eR.1 hm with hm|hm
  ·exact n3 e'.i (cO.2 ⟨e',hm,rfl⟩) e.i (by simp) (by omega)
  ·exact (px.1 n2).1 (cO.2 ⟨e',hm,by omega⟩)
 have un:∀{a b:List Ev} {w1:WS},iO=a++b->ew E nt pn ops w a w1->∀e∈b,w1.m.H e.nw=none:=λ{a b w1} he sf e hm=>by
  obtain ⟨b1,b2,rfl⟩:=tU hm;have he1:e∈iO:=by rw[he];simp
  refine sf.Im ?_ (NG he1).1 λe' he'=>nwne (a:=a++b1) (b:=b2) (by rw[he];simp) e' (by simp[he'])
  rw[hH];exact o7 _ (NG he1).2
 let need:Nat->Nat->Prop:=λi x=>∃e,e∈iO/\e.i=i/\e.r.need x
 let frp:Nat->Nat->Prop:=λi x=>∃e,e∈iO/\e.i=i/\e.r.frp x
 let newp:Nat->Nat->Prop:=λi x=>∃e,e∈iO/\e.i=i/\e.r.newp x
 have spl:∀{a:br} {i:Nat} {b:br},iO.map (·.i)=a++i::b->∃ea e eb,iO=ea++e::eb/\ea.map (·.i)=a/\e.i=i:=λ{a i b} h=>by
  obtain ⟨ea,r,h1,h2,h3⟩:=List.map_eq_append_iff.1 h;obtain ⟨e,eb,h4,h5,h6⟩:=List.map_eq_cons_iff.1 h3;exact ⟨ea,e,eb,by rw[h1,h4],h2,h5⟩
 have ahZ:∀{e:Ev} {w1 w2:WS} {x:Nat} {r:br},Step E nt pn ops e w1 w2->WOK w1->e.Rd=some r->e.r.need x->w1.m.H x≠none/\((∃o,w1.F x=some o)\/∃K∈r,w1.c x=some K):=λ{e w1 w2 x r} st ok hr hx=>by
  rcases st.need r hr x hx with h|⟨K,m,h⟩
  ·obtain ⟨o,ho⟩:=sq.1 h;exact ⟨by rw[(ok.fr x o ho).1];simp,.inl ⟨o,ho⟩⟩
  ·exact ⟨(ok.alive h).1,.inr ⟨K,m,h⟩⟩
 have ind:∀{pa pm eb:List Ev} {e' e:Ev},iO=(pa++e'::pm)++e::eb->Good ops e' pm e->Ind ops (EU ops iO) need e'.i e.i:=λ{pa pm eb e' e} he hg=>by
  obtain ⟨r',r,jB,hr,g1,g2⟩:=hg.rd;obtain ⟨o',o,EJ,ho,EG⟩:=hg.sl;have me':e'∈iO:=by rw[he];simp
  have me:e∈iO:=by rw[he];simp
  have sY:=hc;rw[he] at sY;obtain ⟨w1,w2,c1,st,_,ok1⟩:=sY.split;obtain ⟨wp,wq,c2,st',c3,okp⟩:=c1.split;have okq:WOK wq:=by cases c3<;>assumption
  have nxp:=c2.F.2.2;have nxq:=st'.nx;have nx1:=c3.F.2.2;have unp:∀m∈e'::pm++e::eb,wp.m.H m.nw=none:=un (a:=pa) (by rw[he];simp) c2
  have une:w1.m.H e.nw=none:=un (a:=pa++e'::pm) he c1 e (by simp)
  have off:∀{x},wp.m.H x≠none->∀m∈e'::pm++e::eb,x≠m.nw:=λhx m hm e0=>hx (e0 ▸ unp m hm)
  have atL:∀m∈pm++e::eb,e'.nw≠m.nw:=λm hm=>nwne (a:=pa) (b:=pm++e::eb) (by rw[he];simp) m (iz _ hm)
  have cW:∀{K},K∈r'++e'.W->∀m∈pm,m.cl=true->K∉m.W:=λhK m hm eI=>(g1 _ hK).2 m hm eI
  have T0:∀{x K},wp.c x=some K->K∈r'++e'.W->w1.c x=some K\/w1.m.H x=none:=λ{x K} hx hK=>ew.ajJ (.cons okp st' c3) okp hx λm hm=>⟨off (okp.alive hx).1 m (gE _ hm),λeI=>by
   rcases cH.1 hm with rfl|hm
   ·rw[hg.cl] at eI;cases eI
   ·exact cW hK m hm eI⟩
  have T1:∀{x},e'.r.D x=true->((∃K∈e'.W,w1.c x=some K)\/w1.m.H x=none)/\x≠e.nw/\x<w1.m.nx:=λ{x} hx=>by
   rcases st'.D x hx with rfl|⟨h,_⟩|⟨K,m,h⟩
   ·have cY:e'.nw<wq.m.nx:=by have:=(NG me').1;omega
    refine ⟨?_,atL e (by simp),by omega⟩
    by_cases hq:wq.m.H e'.nw=none
    ·exact .inr (c3.Im hq cY λm hm=>atL m (gE _ hm))
    ·obtain ⟨K,m,h⟩:=(st'.CU hg.cl).2 hq;exact (c3.ajJ okq h λm' sU=>⟨atL m' (gE _ sU),cW (iz _ m) m' sU⟩).imp_left λh=>⟨K,m,h⟩
   ·rw[hg.cl] at h;cases h
   ·obtain ⟨al,lt⟩:=okp.alive h;exact ⟨(T0 h (iz _ m)).imp_left λh=>⟨K,m,h⟩,off al e (by simp),by omega⟩
  have dst:∀{e:Ev} {o:Oper},e∈iO->ops[e.i]? =some o->(EU ops iO e.i).dst=o.dst:=λhe ho=>by unfold EU;rw[LB nd he];show (ops[_]?).bind _=_;rw[ho];rfl
  have Dv:∀{e:Ev},e∈iO->(EU ops iO e.i).D=e.r.D:=λhe=>by unfold EU;rw[LB nd he];rfl
  have sl:=kL.1 (show (o5 o'.dst.toList (looks ops.toList o)&&(o5 o.dst.toList (looks ops.toList o')&&o5 o'.dst.toList o.dst.toList))=true from EG);have sl2:=kL.1 sl.2;have Dfin:∀{x},e.r.D x=true->x≠e.nw->x<w1.m.nx->∃K∈e.W,w1.c x=some K:=λ{x} hx h1 h2=>by
   rcases st.D x hx with h|⟨_,h⟩|h
   ·exact absurd h h1
   ·omega
   ·exact h
  refine ⟨λt ht o1 h1=> ?_,λt ht o1 h1=> ?_,λt ht h1=> ?_,λx hx=> ?_,λx hx=> ?_,λx hx=> ?_⟩
  ·rw[dst me' EJ] at ht;rw[ho] at h1;cases h1;rw[<-Gv];exact BP sl.1 t (by rw[ht];simp)
  ·rw[dst me ho] at ht;rw[EJ] at h1;cases h1;rw[<-Gv];exact BP sl2.1 t (by rw[ht];simp)
  ·rw[dst me' EJ] at ht;rw[dst me ho] at h1;exact BP sl2.2 t (by rw[ht];simp) (by rw[h1];simp)
  ·rw[Dv me'] at hx;rw[Dv me];obtain ⟨t1,t2,t3⟩:=T1 hx;cases hd:e.r.D x with
   |false=>rfl
   |true=>
    obtain ⟨K,m,h⟩:=Dfin hd t2 t3;rcases t1 with ⟨K',m',h'⟩|h'
    ·rw[h'] at h;cases h;exact absurd m (g1 _ (iz _ m')).1
    ·exact absurd h' (ok1.alive h).1
  ·rw[Dv me'];obtain ⟨e1,me1,ei,hx⟩:=hx;obtain rfl:=uniq me1 me ei;obtain ⟨n1,n2⟩:=ahZ st ok1 hr hx;cases hd:e'.r.D x with
   |false=>rfl
   |true=>
    obtain ⟨t1,_,_⟩:=T1 hd;rcases t1 with ⟨K',m',h'⟩|h'
    ·rcases n2 with ⟨o,ho⟩|⟨K,m,h⟩
     ·rw[(ok1.fr x o ho).2] at h';cases h'
     ·rw[h'] at h;cases h;exact absurd m' (g2 _ m)
    ·exact absurd h' n1
  ·rw[Dv me];obtain ⟨e1,me1,ei,hx⟩:=hx;obtain rfl:=uniq me1 me' ei;obtain ⟨n1,n2⟩:=ahZ st' okp jB hx;have cY:x<wp.m.nx:=xC λh=>n1 (okp.bd x h)
   cases hd:e.r.D x with
   |false=>rfl
   |true=>
    obtain ⟨K,m,h⟩:=Dfin hd (off n1 e (by simp)) (by omega)
    rcases n2 with ⟨o,ho⟩|⟨K',m',h'⟩
    ·rw[(ok1.fr x o (c3.F.1 x o (st'.F x o ho))).2] at h;cases h
    ·rcases T0 h' (gE _ m') with h2|h2
     ·rw[h2] at h;cases h;exact absurd m (g1 _ (gE _ m')).1
     ·exact absurd h2 (ok1.alive h).1
 have step:∀{e:Ev},e∈iO->∃w1 w2 ea eb,iO=ea++e::eb/\ew E nt pn ops w ea w1/\Step E nt pn ops e w1 w2/\ew E nt pn ops w2 eb w':=λhe=>by
  obtain ⟨ea,eb,h⟩:=tU he;have sY:=hc;rw[h] at sY;obtain ⟨w1,w2,h1,h2,h3,_⟩:=sY.split;exact ⟨w1,w2,ea,eb,h,h1,h2,h3⟩
 refine avv (nt:=nt) (U:=EU ops iO) (need:=need) (frp:=frp) (newp:=newp) (s0:=⟨m0.T,m0.H⟩) nd gV n.env.mix (λa i b h=> ?_) (λa i b h=> ?_) (λi k hi hk cZ x hx hy=> ?_) n.env n.fr n.hr (λi hi x hx=> ?_) λg' a' w1 q1 q2 q3 q4 q5=> ?_
 ·obtain ⟨ea,e,eb,h1,h2,rfl⟩:=spl h;have me:e∈iO:=by rw[h1];simp
  have sY:=hc;rw[h1] at sY;obtain ⟨w1,w2,c1,st,_,_⟩:=sY.split;obtain ⟨o,ho,s1⟩:=st.st;have hs:=DG nd (λe' he'=>by rw[h1];exact gE _ he') c1
  rw[hT,hH,h2] at hs;have eU:EU ops iO e.i=⟨(ops[e.i]?).bind (·.dst),e.r.v,e.r.D,e.r.H⟩:=by unfold EU;rw[LB nd me];rfl
  refine ⟨o,ho,by rw[eU,ho];rfl,?_⟩
  rw[hs,eU];exact λm g f T1 a w K Q e1 e2 e3 e4 e5 e6 e7=>s1.st ro m g f T1 a w K Q e1 e2 e3 e4 (λx hx=>e5 x ⟨e,me,rfl,hx⟩) (λx hx=>e6 x ⟨e,me,rfl,hx⟩) λr w' g' k1 k2 k3 k4=>e7 r w' g' k1 k2 k3 λx hx=>k4 x λhn=>hx ⟨e,me,rfl,hn⟩
 ·obtain ⟨ea,e,eb,h1,h2,rfl⟩:=spl h;obtain ⟨p1,p2⟩:=hp.at h1;rw[jW,h2] at p1;refine ⟨p1,λk hk=> ?_⟩
  rw[<-h2] at hk;obtain ⟨e',he',rfl⟩:=cO.1 hk;obtain ⟨pa,pm,h3⟩:=tU he';rcases p2 pa e' pm (by rw[jW,h3]) with h|h
  ·exact .inl h
  ·exact .inr (ind (by rw[h1,h3]) h)
 ·obtain ⟨e,me,rfl,hx⟩:=hx;obtain ⟨e2,me2,rfl,hy⟩:=hy;have n1:=NG me;have n2:=NG me2;have hnn:e.nw≠e2.nw:=by rw[hnw e me,hnw e2 me2];omega
  obtain ⟨ea,eb,he⟩:=tU me;have sY:=hc;have me3:=me2;rw[he] at sY me3;rcases eR.1 me3 with hm|hm
  ·obtain ⟨b1,b2,rfl⟩:=tU hm;obtain ⟨w1,w2,c1,st,_,_⟩:=sY.split;obtain ⟨v1,v2,d1,Co,d2,_⟩:=c1.split;have a1:=d1.F.2.2;have a2:=d2.F.2.2;have a3:=Co.nx;rcases st.frp x hx with h1|⟨_,h1⟩<;>rcases Co.newp x hy with ⟨_,h2⟩|⟨_,h2,h3⟩
   ·exact absurd (h1.symm.trans h2) hnn
   ·omega
   ·omega
   ·omega
  ·rcases cH.1 hm with h|hm
   ·exact absurd (bN Ev.i h).symm cZ
   obtain ⟨b1,b2,rfl⟩:=tU hm;have he':iO=(ea++e::b1)++e2::b2:=by rw[he];simp
   rw[show ea++e::(b1++e2::b2)=(ea++e::b1)++e2::b2 by simp] at sY
   obtain ⟨w1,w2,c1,Co,_,_⟩:=sY.split;obtain ⟨v1,v2,d1,st,d2,_⟩:=c1.split;have a1:=d1.F.2.2;have a2:=c1.F.2.2;rcases st.frp x hx with h1|⟨eI,h1⟩<;>rcases Co.newp x hy with ⟨_,h2⟩|⟨_,h2,h3⟩
   ·exact absurd (h1.symm.trans h2) hnn
   ·omega
   ·omega
   ·rcases (hp.at he').2 ea e b1 (by rw[jW]) with h|h
    ·exact h
    ·rw[h.cl] at eI;cases eI
 ·obtain ⟨e,me,rfl,hx⟩:=hx;obtain ⟨w1,w2,ea,eb,he,c1,st,c2⟩:=step me;have a1:=c1.F.2.2;have n1:=NG me;refine n.fresh x ?_;rcases st.frp x hx with h1|⟨_,h1⟩<;>omega
 ·have nb:∀{x i},newp i x->m0.nx<=x/\x<w'.m.nx:=λ{x i} h=>by
   obtain ⟨e,me,rfl,hx⟩:=h;obtain ⟨w1,w2,ea,eb,he,c1,st,c2⟩:=step me;have a1:=c1.F.2.2;have a2:=c2.F.2.2;have a3:=st.nx;have n1:=NG me;rcases st.newp x hx with ⟨_,h1⟩|⟨_,h1,h2⟩<;>omega
  have Vt:=DG nd (λe he=>he) hc
  rw[hT,hH] at Vt;rw[Vt] at q1 q2 q3;have hle:=hc.F.2.2;refine hQ g' a' w1 _ .normal ⟨n.env.mono q3.le,q1,q2,λx hx=> ?_⟩ ⟨q3,q4,λx hx=>q5 x λi _ h=> ?_,by omega⟩
  ·rw[q5 x λi _ h=>by have:=nb h;omega]
   exact n.fresh x (by omega)
  ·have:=nb h;omega
end
end Go.bX
end
