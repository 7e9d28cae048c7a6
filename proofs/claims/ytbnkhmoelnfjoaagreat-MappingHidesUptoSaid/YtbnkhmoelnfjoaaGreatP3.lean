/- Part. -/
import Derived.Test.YtbnkhmoelnfjoaaGreatP2
set_option linter.all false
noncomputable section
namespace Go.bZ
variable {x y:AV} {cs xs ys:bf} {v u w:SV} {i:TI} {vs svs ws:aY} {off n f k j K new n' e2 xa:Nat} {t e src:TypeId} {p:Nat×TI} {J γ:Type} {b:Bx} {d c1:bP} {Q R Q':bA} {ox it:Operand} {z mx:Bool} {l l2:dW} {lo:Option Operand} {o:fy} {fs ts:bq} {L L1 L0:Ow} {A:bA->Prop} {q:(Operand×Operand)×TypeId×TypeId} {oR:Nat->fy} {fQ:bA->bA->bA} {fn:Nat->Nat} {sh:Sh} {P:Program} {CH:List (AV×AV)} {bs:cL}
section
variable {F F':Hf} {g g':Gb} {Y:Nat->Ow} {c:Nat->bP} {s s':LS} {T:Tf} {H:Hf} {E:Env} {pn:Nat->Bool}
def wu (vs:aY):bf:=vs.map .lit
def sG:∀{vs:aY},dz F g vs (wu vs)
 | []=>.nil
 |v::vs=>.cons (.lit v) sG
def acw (x:AV):Option bf:=
 match x with
 | .agg cs=>some cs
 | .lit (.agg vs)=>some (wu vs)
 |_=>none
def Vm (h:acw x=some cs) (hv:VA F g v x):∃vs,v= .agg vs/\dz F g vs cs:=by
 unfold acw at h;split at h
 ·cases h;cases hv with|agg q=>exact ⟨_,rfl,q⟩
 ·cases h;cases hv;exact ⟨_,rfl,sG⟩
 ·cases h
def BJ (x:AV):Option bf:=
 match x with
 | .agg cs=>some cs
 | .lit v=>az v.cells λvs=>some (wu vs)
 | .cS _=>none
 | .undef=>none
 |x=>some [x]
def CN (h:BJ x=some xs) (hv:VA F g v x):∃vs,v.cells=some vs/\dz F g vs xs:=by
 unfold BJ at h;split at h
 ·cases h;cases hv with|agg q=>exact ⟨_,rfl,q⟩
 ·obtain ⟨vs,h1,h⟩:=aq h;cases h;cases hv;exact ⟨vs,h1,sG⟩
 ·cases h
 ·cases h
 ·cases h;refine ⟨[v],?_,.cons hv .nil⟩;cases hv<;>first|rfl|simp_all
def ua (i:TI) (cs:bf) (off:Nat):Option AV:=
 aP (lY i.desc) (aP (Nat.ble (Nat.add off i.size) cs.length) (some (.agg ((cs.drop off).take i.size))) none) (cs[off]?)
def vJ (q:dz F g vs cs) (hx:ua i cs off=some x):∃v,ia i vs off=some v/\VA F g v x:=by
 unfold ua at hx;unfold ia;rw[bG] at hx ⊢;split at hx
 ·rename_i ha;rw[aH ha];obtain ⟨hl,hx⟩:=aV hx;cases hx;rw[q.length,bG,aH hl];exact ⟨_,rfl,.agg ((q.drop off).take i.size)⟩
 ·rename_i ha;rw[aM ha];exact q.get hx
def aav (h:ia i ((svs.drop off).take n) 0=some u) (hl:off+n<=svs.length):ia i svs off=some u:=by
 unfold ia at h ⊢;rw[bG] at h ⊢;split at h
 ·rename_i ha;rw[aH ha];obtain ⟨hle,hu⟩:=aV h;have hle:0+i.size<=((svs.drop off).take n).length:=(bV _ _).1 hle;rw[dZ,iE] at hle;cases hu;rw[bG,aH (show Nat.ble (Nat.add off i.size) svs.length=true from (bV _ _).2 (show off+i.size<=svs.length by omega))]
  rw[rS,oB,fE (by omega)]
 ·rename_i ha;rw[aM ha];rw[fa] at h;split at h
  ·rw[fc] at h;simpa using h
  ·cases h
def ayW (h:ua i cs 0=some x):wide i<=cs.length:=by
 unfold ua at h;unfold wide;rw[bG] at h ⊢;split at h
 ·rename_i hg;rw[aH hg];have:=(bV _ _).1 (aV h).1;rwa[show Nat.add 0 i.size=i.size from cC _] at this
 ·rename_i hg;rw[aM hg];have:=(cf.1 h).1;omega
def EL (E:Env) (s:TypeId) (f:Nat):Option (Nat×TI):=az (E.ty.get s) λi=>az (xB i.desc) λfs=>az (fs[f]?) λfl=>az (E.ty.get fl.type) λfi=>some (fl.off,fi)
def Js (hf:EL E t f=some p):∃i fs fl,E.ty.get t=some i/\xB i.desc=some fs/\fs[f]? =some fl/\E.ty.get fl.type=some p.2/\fl.off=p.1:=by
 obtain ⟨i,hi,hf⟩:=aq hf;obtain ⟨fs,Ja,hf⟩:=aq hf;obtain ⟨fl,yV,hf⟩:=aq hf;obtain ⟨fi,hfi,hf⟩:=aq hf;cases hf;exact ⟨i,fs,fl,hi,Ja,yV,hfi,rfl⟩
def aqW (p:Nat×TI) (x:AV):Option AV:=
 aP (Nat.ble 1 p.2.size) (match x with
  | .el K s j f=>some (.el K s j (Nat.add f p.1))
  | .ju cs=>aP (Nat.ble p.1 cs.length) (some (.ju (cs.drop p.1))) none
  |_=>none) none
def atJ {id:Nat} (q:VA F g (.ptr id off) (.ju cs)) (hk:k<=cs.length):VA F g (.ptr id (off+k)) (.ju (cs.drop k)):=by
 cases q with
 |ju hF hl hv=>
  refine .ju (wK hF (by omega) (by rw[iE];omega)) (by rw[iE];omega) ?_
  have:=hv.drop k;rw[tR,tU] at this;rw[iE];exact this
def auE (hp:EL E t f=some p) (hx:aqW p y=some x) (hv:VA F g v y):∃u,oo E t f v=some (u,[])/\VA F g u x:=by
 obtain ⟨i,fs,fl,e1,e2,e3,e4,e5⟩:=Js hp;obtain ⟨mD,hx⟩:=aV hx;have key:∀id off,oo E t f (.ptr id off)=some (SV.ptr id (Nat.add off p.1),[]):=λid off=>by
  unfold oo;rw[e1];show az (xB i.desc) _=_;rw[e2];show az (fs[f]?) _=_;rw[e3];show az (E.ty.get fl.type) _=_;rw[e4];show aP (Nat.ble 1 p.2.size) (some (SV.ptr id (Nat.add off fl.off),[])) none=_;rw[mD,e5]
 split at hx
 ·cases hx;cases hv;refine ⟨_,key _ _,?_⟩;rw[show Nat.add (_+_) p.1=_+Nat.add _ p.1 from fU _ _ _];exact .el _ _ _ _ (by assumption)
 ·obtain ⟨hk,hx⟩:=aV hx;cases hx;have HJ:∃id off,v=SV.ptr id off:=by cases hv;exact ⟨_,_,rfl⟩
  obtain ⟨id,off,rfl⟩:=HJ;exact ⟨_,key _ _,atJ hv ((bV _ _).1 hk)⟩
 ·cases hx
def auD (hp:EL E t f=some p) (q:dz F g vs cs) (hx:ua p.2 cs p.1=some x):∃u,xN E t f (.agg vs)=some (u,[])/\VA F g u x:=by
 obtain ⟨i,fs,fl,e1,e2,e3,e4,e5⟩:=Js hp;obtain ⟨u,u1,u2⟩:=vJ q hx;refine ⟨u,?_,u2⟩;unfold xN;rw[e1];show az (xB i.desc) _=_;rw[e2];show az (fs[f]?) _=_;rw[e3];show az (E.ty.get fl.type) _=_;rw[e4];show same (ia p.2 vs fl.off)=_;rw[e5,u1];rfl
def Ln {id:Nat} (hi:E.ty.get t=some i) (hh:jb (H id) off (wide i)=some (e,svs)) (hu:ia i svs off=some u):same (oW E H t (.ptr id off))=some (u,[]):=by
 unfold oW;show same (az (E.ty.get t) λi=>az (jb (H id) off (wide i)) λp=>ia i p.2 off)=_
 rw[hi];show same (az (jb (H id) off (wide i)) λp=>ia i p.2 off)=_
 rw[hh];show same (ia i svs off)=_;rw[hu];rfl
def VA.qR (q:VA F g v x) (hk:(jF x).isEmpty=true):VA F g' v x:=q.same (.refl F) (apx hk)
def dz.qR {v:aY} {x:bf} (q:dz F g v x) (hk:(ku x).isEmpty=true):dz F g' v x:=q.same (.refl F) (apx hk)
def zer {J:Type} (j:Nat) (x:Option J):Option J:=match j with|0=>x|_=>none
def Yw {x:Option J} {y:J} (h:zer j x=some y):j=0/\x=some y:=by
 cases j with
 |zero=>exact ⟨rfl,h⟩
 |succ j=>cases h
def Gr (i:TI) (bs:cL):AV->Option AV
 | .ju cs=>az (ua i cs 0) λx=>aP (jF x).isEmpty (some x) none
 | .el K _ j off=>
  (match lk K bs with
  |some (.flat _ cs)=>zer j (ua i cs off)
  |_=>none)
 |_=>none
def Rel.flat (r:Rel F g Y c s T H) {K:Nat} {e:TypeId} {cs:bf} (hb:lk K s.bs=some (.flat e cs)):∃svs,Y K= [((g K).n,.cells e svs)]/\dz F g svs cs/\H (g K).n=some (.cells e svs):=by
 obtain ⟨q,_,q3⟩:=r.bx K _ hb;generalize Y K=L at q q3;cases q with
 | @flat e cs svs q=>exact ⟨svs,rfl,q,(q3 ((g K).n,.cells e svs) (by simp)).1⟩
def ahK (hi:E.ty.get t=some i) (hx:Gr i s.bs y=some x) (r:Rel F g Y c s T H) (hv:VA F g v y):∃u,same (oW E H t v)=some (u,[])/\VA F g u x:=by
 unfold Gr at hx;split at hx
 ·obtain ⟨x',hx,qW⟩:=aq hx;obtain ⟨hk,qW⟩:=aV qW;cases qW;cases hv with
  |ju hF hl hv=>
  obtain ⟨u,u1,u2⟩:=vJ hv hx;exact ⟨u,Ln hi (wK (yp (λi o h=>(r.fr i o h).1) hF) (dg _) (Nat.add_le_add_left (ayW hx) _)) (aav u1 hl),u2.qR hk⟩
 ·split at hx
  ·rename_i e cs hb;obtain ⟨rfl,hx⟩:=Yw hx;cases hv;obtain ⟨svs,_,q,hH⟩:=r.flat hb;obtain ⟨u,u1,u2⟩:=vJ q hx;exact ⟨u,by rw[lT,cC];exact Ln hi (rn hH) u1,u2⟩
  ·cases hx
 ·cases hx
def binL:BinOp->IntKind->Int->Int->Option AV
 | .add,k,m,n=>some (.int k (k.wrap (m+n)))
 | .sub,k,m,n=>some (.int k (k.wrap (m-n)))
 | .mul,k,m,n=>some (.int k (k.wrap (m*n)))
 | .eql,_,m,n=>some (.bool (decide (m=n)))
 | .neq,_,m,n=>some (.bool (!decide (m=n)))
 | .lss,_,m,n=>some (.bool (decide (m<n)))
 | .leq,_,m,n=>some (.bool (!decide (n<m)))
 | .gtr,_,m,n=>some (.bool (decide (n<m)))
 | .geq,_,m,n=>some (.bool (!decide (m<n)))
 | .shr,k,m,n=>aP (decide (n=1)) (some (.int k (m.fdiv 2))) none
 |_,_,_,_=>none
def Nu {k k':IntKind} (h:gF k k'=true):k=k':=by cases k<;>cases k'<;>first|rfl|cases h
def VA.of_eq {v':SV} (h:v=v'):VA F g v (.lit v'):=h ▸ .lit v
def aCc {op:BinOp} {k:IntKind} {m n:Int} (hx:binL op k m n=some x):∃v,arv E op t k (.lit m) (.int k (.lit n))=some v/\VA F g v x:=by
 have kk:=akz k;cases op<;>first|(cases hx;done)|skip
 case shr=>
  obtain ⟨hn,hx⟩:=aV hx;obtain rfl:n=1:=by simpa using hn
  cases hx;exact ⟨.int k (.lit (m.fdiv 2)),by cases k<;>rfl,.lit _⟩
 case add=>cases hx;exact ⟨_,by show aP (gF k k) (some (SV.int k (acx k (.lit m) (.lit n)))) none=_;rw[kk];rfl,.lit _⟩
 case sub=>cases hx;exact ⟨_,by show aP (gF k k) (some (SV.int k (Na k (.lit m) (.lit n)))) none=_;rw[kk];rfl,.lit _⟩
 case mul=>cases hx;exact ⟨_,by cases k<;>rfl,.lit _⟩
 case eql=>cases hx;exact ⟨.bool (decide (m=n)),by show aP (gF k k) (la false (some (Gu m n))) none=_;rw[kk,AH];rfl,.lit _⟩
 case neq=>cases hx;exact ⟨.bool (!decide (m=n)),by show aP (gF k k) (la true (some (Gu m n))) none=_;rw[kk,AH];rfl,.lit _⟩
 case lss=>cases hx;exact ⟨.bool (decide (m<n)),by show aP (gF k k) (la false (some (Af m n))) none=_;rw[kk,vp];rfl,.lit _⟩
 case leq=>cases hx;exact ⟨.bool (!decide (n<m)),by show aP (gF k k) (la true (some (Af n m))) none=_;rw[kk,vp];rfl,.lit _⟩
 case gtr=>cases hx;exact ⟨.bool (decide (n<m)),by show aP (gF k k) (la false (some (Af n m))) none=_;rw[kk,vp];rfl,.lit _⟩
 case geq=>cases hx;exact ⟨.bool (!decide (m<n)),by show aP (gF k k) (la true (some (Af m n))) none=_;rw[kk,vp];rfl,.lit _⟩
def binS:BinOp->ByteArray->ByteArray->Option AV
 | .eql,a,b=>some (.bool (decide (a=b)))
 | .neq,a,b=>some (.bool (!decide (a=b)))
 | .lss,a,b=>some (.bool (Op.bytesLess a.toList b.toList))
 | .leq,a,b=>some (.bool (Op.bytesLess a.toList b.toList||a.toList==b.toList))
 | .gtr,a,b=>some (.bool (!(Op.bytesLess a.toList b.toList||a.toList==b.toList)))
 | .geq,a,b=>some (.bool (!Op.bytesLess a.toList b.toList))
 |_,_,_=>none
def aCb {op:BinOp} {a b:ByteArray} (hx:binS op a b=some x):∃v,aru E op t a (.str b)=some v/\VA F g v x:=by
 cases op<;>first|(cases hx;done)|skip
 ·cases hx;exact ⟨.bool (De a b),rfl,.of_eq (by rw[vD])⟩
 ·cases hx;exact ⟨.bool (!De a b),rfl,.of_eq (by rw[vD])⟩
 all_goals (cases hx;exact ⟨_,rfl,.lit _⟩)
def ctor:SV->Nat
 | .qc=>1
 | .ptr _ _=>2
 | .dD=>3
 | .sl _ _ _ _=>4
 | .mn=>5
 | .mp _=>6
 | .pb=>7
 | .fn _ _ _=>8
 |_=>0
def Xu:AV->bP
 | .lit v=>some (ctor v)
 | .el .. | .ju _=>some 2
 | .sl 0 _ _ _ (_::_)=>some 4
 | .mp _=>some 6
 | .fn .. =>some 8
 |_=>none
def eqC (k a b:Nat):Option Bool:=aP (Nat.beq a k&&Nat.beq b k) (some true) (aP ((Nat.beq a k&&Nat.beq b (k+1))||(Nat.beq a (k+1)&&Nat.beq b k)) (some false) none)
def kD:UD->bP
 | .pointer=>some 1
 | .slice _=>some 3
 | .map _ _=>some 5
 | .func=>some 7
 |_=>none
def aid (h:Xu x=some k) (hv:VA F g v x):ctor v=k:=by
 unfold Xu at h;split at h<;>first|(cases h;done)|(cases h;cases hv<;>rfl)
def alo {d:UD} (h:kD d=some k) (eq:TypeId->SV->SV->Option Bool) (t:TypeId) (v w:SV):eqD d E eq t v w=eqC k (ctor v) (ctor w):=by
 cases d<;>first|(cases h;done)|(cases h;cases v<;>cases w<;>rfl)
def aoL {e sz:Nat} (q:VA F g v (.sl 1 e sz n Q)):eqC 3 3 (ctor v)=some Q.isEmpty/\eqC 3 (ctor v) 3=some Q.isEmpty:=by
 cases q with
 |nil=>exact ⟨rfl,rfl⟩
 |sl hn hF hc hm=>cases Q with
  |nil=>exact absurd rfl (hm rfl)
  |cons=>exact ⟨rfl,rfl⟩
def aln (E:Env) (eq:TypeId->AV->AV->Option Bool) (xs ys:bf):List FL->Option Bool
 | []=>some true
 |f::fs=>aP f.named (az (E.ty.get f.type) λi=>bU (ua i xs f.off) (ua i ys f.off) λx y=>bU (eq f.type x y) (aln E eq xs ys fs) λa b=>some (a&&b)) none
def auR (E:Env) (eq:TypeId->AV->AV->Option Bool) (t:TypeId):UD->AV->AV->Option Bool
 | .bool,.lit (.bool a),.lit (.bool b)=>some (a==b)
 | .int _,.lit (.int k (.lit a)),.lit (.int k' (.lit b))=>aP (gF k k') (some (decide (a=b))) none
 | .string,.lit (.str a),.lit (.str b)=>some (decide (a=b))
 | .struct fs,x,y=>bU (acw x) (acw y) λxs ys=>aP (E.P.stoodInHeld t) none (aln E eq xs ys fs)
 | .slice _,.lit .dD,.sl 1 _ _ _ Q=>some Q.isEmpty
 | .slice _,.sl 1 _ _ _ Q,.lit .dD=>some Q.isEmpty
 |d,x,y=>az (kD d) λk=>bU (Xu x) (Xu y) (eqC k)
def Vf (E:Env) (n:Nat):TypeId->AV->AV->Option Bool:=
 @Nat.rec (λ_=>TypeId->AV->AV->Option Bool) (λ_ _ _=>none) (λ_ eq t x y=>az (E.ty.get t) λi=>auR E eq t i.desc x y) n
def abQ {eq:TypeId->SV->SV->Option Bool} {eqL:TypeId->AV->AV->Option Bool} (ih:∀t v w x y b,VA F g v x->VA F g w y->eqL t x y=some b->eq t v w=some b) {vs ws:aY} {xs ys:bf} (h1:dz F g vs xs) (h2:dz F g ws ys):∀{fs:List FL} {b:Bool},aln E eqL xs ys fs=some b->GO E eq vs ws fs=some b
 | [],_,hb=>hb
 |f::fs,b,hb=>by
  obtain ⟨hn,hb⟩:=aV hb;obtain ⟨i,hi,hb⟩:=aq hb;obtain ⟨x,y,hx,hy,hb⟩:=bp hb;obtain ⟨c,d,hc,hd,hb⟩:=bp hb;obtain ⟨v,v1,v2⟩:=vJ h1 hx;obtain ⟨w,w1,w2⟩:=vJ h2 hy;have e1:=ih _ _ _ _ _ _ v2 w2 hc;have e2:=abQ ih h1 h2 hd;show aP f.named (az (E.ty.get f.type) λi=>bU (ia i vs f.off) (ia i ws f.off) λx y=>andThen (eq f.type x y) (GO E eq vs ws fs)) none=_
  rw[hn,hi];show bU (ia i vs f.off) (ia i ws f.off) (λx y=>andThen (eq f.type x y) (GO E eq vs ws fs))=_
  rw[v1,w1];show andThen (eq f.type v w) (GO E eq vs ws fs)=_;rw[e1,e2];cases hb;cases c<;>rfl
def ahW:∀(n:Nat) {t:TypeId} {v w:SV} {x y:AV} {b:Bool},VA F g v x->VA F g w y->Vf E n t x y=some b->eqT E n t v w=some b
 |0,_,_,_,_,_,_,_,_,hb=>by cases hb
 |n+1,t,v,w,x,y,b,hv,hw,hb=>by
  obtain ⟨i,hi,hb⟩:=aq (show az (E.ty.get t) (λi=>auR E (Vf E n) t i.desc x y)=some b from hb)
  show az (E.ty.get t) (λi=>eqD i.desc E (eqT E n) t v w)=_
  rw[hi];show eqD i.desc E (eqT E n) t v w=some b;generalize i.desc=d at hb;unfold auR at hb;split at hb
  ·cases hv;cases hw;exact hb
  ·cases hv;cases hw;obtain ⟨hk,hb⟩:=aV hb;show aP (gF _ _) (some (Gu _ _)) none=_;rw[hk,AH];exact hb
  ·cases hv;cases hw;show some (De _ _)=_;rw[vD];exact hb
  ·obtain ⟨xs,ys,h1,h2,hb⟩:=bp hb;obtain ⟨vs,rfl,q1⟩:=Vm h1 hv;obtain ⟨ws,rfl,q2⟩:=Vm h2 hw;show aP (E.P.stoodInHeld t) none (GO E (eqT E n) _ _ _)=_;rw[bG] at hb ⊢;split at hb
   ·cases hb
   ·rename_i hs;rw[aM hs];exact abQ (eqL:=Vf E n) (λ_ _ _ _ _ _ a b c=>ahW n a b c) q1 q2 hb
  ·cases hv;rw[alo rfl];exact (aoL hw).1.trans hb
  ·cases hw;rw[alo rfl];exact (aoL hv).2.trans hb
  ·obtain ⟨k,hk,hb⟩:=aq hb;obtain ⟨a,b',h1,h2,hb⟩:=bp hb;rw[alo hk,aid h1 hv,aid h2 hw];exact hb
def aKt (E:Env) (t:TypeId) (x:AV):Bool:=
 match x with
 | .agg _=> !E.P.eqGuardType E.P.depth t
 | .lit (.agg _)=> !E.P.eqGuardType E.P.depth t
 | .undef=>false
 |_=>true
def alL (E:Env) (op:BinOp) (t:TypeId) (x y:AV):Option AV:=
 match x,y with
 | .lit (.int k (.lit m)),.lit (.int k' (.lit n))=>aP (gF k k') (binL op k m n) none
 | .lit (.str a),.lit (.str b)=>binS op a b
 | .lit (.int _ _),_=>none
 | .lit (.str _),_=>none
 |x,y=>aP (aKt E t x) (match op with
  | .eql=>az (Vf E 20 t x y) λb=>some (.bool b)
  | .neq=>az (Vf E 20 t x y) λb=>some (.bool (!b))
  |_=>none) none
def aFd {op:BinOp} {oy:Operand} {z:AV} (hv:VA F g v x) (hw:VA F g w y) (hz:alL E op t x y=some z):∃u,JE E op t ox oy v w=some u/\VA F g u z:=by
 unfold alL at hz;split at hz
 ·obtain ⟨hk,h2⟩:=aV hz;obtain rfl:=Nu hk;cases hv;cases hw;exact aCc h2
 ·cases hv;cases hw;exact aCb hz
 ·cases hz
 ·cases hz
 ·rename_i n1 n2 n3 n4;obtain ⟨h1,h2⟩:=aV hz;clear hz;have hb:avr v=(λE op t ox oy x y=>UR op E t ox oy x y)/\auP E t ox oy v=true:=by
   cases hv with
   |lit v=>cases v<;>first|exact ⟨rfl,h1⟩|exact ⟨rfl,rfl⟩|exact (n1 _ _ rfl).elim|exact (n2 _ rfl).elim
   |undef=>cases h1
   |_=>first|exact ⟨rfl,h1⟩|exact ⟨rfl,rfl⟩
  show ∃u,avr v E op t ox oy v w=some u/\VA F g u z;rw[hb.1];have key:∀{b:Bool},Vf E 20 t x y=some b->GN E t ox oy v w=some b:=λh2=>by
   unfold GN;rw[hb.2];exact ahW 20 hv hw h2
  split at h2
  ·obtain ⟨b,h3,h2⟩:=aq h2;cases h2;exact ⟨.bool b,by show la false (GN E t ox oy v w)=_;rw[key h3];rfl,.lit _⟩
  ·obtain ⟨b,h3,h2⟩:=aq h2;cases h2;exact ⟨.bool (!b),by show la true (GN E t ox oy v w)=_;rw[key h3];rfl,.lit _⟩
  ·cases h2
def unL (op:UnOp):AV->Option AV
 | .lit (.bool b)=>aP (PD op) (some (.bool (!b))) none
 | .lit (.int k (.lit n))=>aP (isNeg op) (some (.int k (k.wrap (0-n)))) none
 |_=>none
def aJl {op:UnOp} (hx:unL op y=some x) (hv:VA F g v y):∃u,same (unA op v)=some (u,[])/\VA F g u x:=by
 unfold unL at hx;split at hx
 ·obtain ⟨h1,h2⟩:=aV hx;cases h2;cases hv;exact ⟨_,by show same (aP (PD op) (some (SV.bool _)) none)=_;rw[h1];rfl,.lit _⟩
 ·obtain ⟨h1,h2⟩:=aV hx;cases h2;cases hv;exact ⟨_,by show same (aP (isNeg op) (some (SV.int _ _)) none)=_;rw[h1];rfl,.lit _⟩
 ·cases hx
def alz:UD->AV->Option AV
 | .int k,.lit (.int _ (.lit n))=>some (.int k (k.wrap n))
 | .string,.lit (.str s)=>some (.str s)
 | .string,.lit (.int _ (.lit n))=>some (.str (Utf8.encode n))
 |_,_=>none
def aBZ {dst:TypeId} {i2:TI} (hi:E.ty.get src=some i) (uM:E.ty.get dst=some i2) (hx:alz i2.desc y=some x) (hv:VA F g v y):∃u,same (LJ E src dst v)=some (u,[])/\VA F g u x:=by
 have key:∃u,Xw i2.desc v=some u/\VA F g u x:=by
  generalize i2.desc=d at hx;unfold alz at hx;split at hx<;>first|(cases hx;done)|(cases hx;cases hv;exact ⟨_,rfl,.lit _⟩)
 obtain ⟨u,u1,u2⟩:=key;refine ⟨u,?_,u2⟩;show same (bU (E.ty.get src) (E.ty.get dst) λ_ i=>Xw i.desc v)=_
 rw[hi,uM];show same (Xw i2.desc v)=_;rw[u1];rfl
end
section
variable {F F':Hf} {g g':Gb} {Y:Nat->Ow} {c:Nat->bP} {s s':LS} {T:Tf} {H:Hf} {E:Env} {pn:Nat->Bool}
def Pe (ts:fy):List (Nat×Operand)->Option (List (Nat×bf))
 | []=>some []
 |p::rest=>bU (BJ (dR ts p.2)) (Pe ts rest) λcs l=>some ((p.1,cs)::l)
def LC (place:Nat->Option (Nat×Nat)) (cs:bf):List (Nat×bf)->Option bf
 | []=>some cs
 |p::rest=>az (place p.1) λq=>aP (Nat.beq p.2.length q.2&&Nat.ble (Nat.add q.1 q.2) cs.length) (LC place (gu cs q.1 p.2) rest) none
inductive PVs (F:Hf) (g:Gb):List (Nat×aY)->List (Nat×bf)->Prop
 |nil:PVs F g [] []
 |cons {j vs xs l m:_} (h:dz F g vs xs) (t:PVs F g l m):PVs F g ((j,vs)::l) ((j,xs)::m)
def CO (h:BJ x=some xs):x≠ .undef:=λe=>by rw[e] at h;cases h
def Nk (r:Rel F g Y c s T H):∀{l:List (Nat×Operand)} {m:List (Nat×bf)},Pe s.ts l=some m->∃k,kr T l=some k/\PVs F g k m
 | [],_,hm=>by cases hm;exact ⟨[],rfl,.nil⟩
 |p::rest,m,hm=>by
  obtain ⟨cs,m',h1,h2,h3⟩:=bp hm;cases h3;obtain ⟨v,v1,v2⟩:=r.val (x:=p.2) rfl (CO h1);obtain ⟨ws,w1,w2⟩:=CN h1 v2;obtain ⟨k,k1,k2⟩:=Nk r h2;refine ⟨(p.1,ws)::k,?_,.cons w2 k2⟩;show az (cD T p.2) (λv=>bU v.cells (kr T rest) λcs l=>some ((p.1,cs)::l))=_
  rw[v1];show bU v.cells (kr T rest) (λcs l=>some ((p.1,cs)::l))=_
  rw[w1,k1];rfl
def LB {place:Nat->Option (Nat×Nat)}:∀{k:List (Nat×aY)} {m:List (Nat×bf)} {vs:aY} {xs ys:bf},PVs F g k m->dz F g vs xs->LC place xs m=some ys->∃ws,mW place vs k=some ws/\dz F g ws ys
 |_,_,vs,_,_,.nil,hv,hy=>by cases hy;exact ⟨vs,rfl,hv⟩
 |_,_,vs,xs,ys,.cons (j:=j) (vs:=pv) (l:=kt) h t,hv,hy=>by
  obtain ⟨q,h1,hy⟩:=aq hy;obtain ⟨h2,hy⟩:=aV hy;obtain ⟨ws,w1,w2⟩:=LB t (hv.eI h q.1) hy;refine ⟨ws,?_,w2⟩;show az (place j) (λq=>aP (Nat.beq pv.length q.2&&Nat.ble (Nat.add q.1 q.2) vs.length) (mW place (eI vs q.1 pv) kt) none)=_
  rw[h1];show aP (Nat.beq pv.length q.2&&Nat.ble (Nat.add q.1 q.2) vs.length) (mW place (eI vs q.1 pv) kt) none=_;rw[h.length,hv.length,h2];exact w1
def acf (E:Env) (z:bf) (gZ:List (Nat×bf)):UD->Option bf
 | .array _ e=>az (E.ty.get e) λie=>LC (rY ie.size) z gZ
 | .struct fs=>LC (Pb E fs) z gZ
 |_=>none
def avn {k:List (Nat×aY)} {m:List (Nat×bf)} (hi:E.ty.get t=some i) (hk:PVs F g k m) (hy:acf E (wu i.zero) m i.desc=some ys):∃u,same (EU E t k)=some (u,[])/\VA F g u (.agg ys):=by
 have key:∃ws,Qc i.desc E i.zero k=some (.agg ws)/\dz F g ws ys:=by
  generalize i.desc=d at hy;unfold acf at hy;split at hy
  ·obtain ⟨ie,hie,hy⟩:=aq hy;obtain ⟨ws,w1,w2⟩:=LB hk sG hy;refine ⟨ws,?_,w2⟩;show az (E.ty.get _) (λie=>JH (mW (rY ie.size) i.zero k))=_
   rw[hie];show JH (mW (rY ie.size) i.zero k)=_;rw[w1];rfl
  ·obtain ⟨ws,w1,w2⟩:=LB hk sG hy;refine ⟨ws,?_,w2⟩;show JH (mW (Pb E _) i.zero k)=_;rw[w1];rfl
  ·cases hy
 obtain ⟨ws,w1,w2⟩:=key;refine ⟨.agg ws,?_,.agg w2⟩;show same (az (E.ty.get t) λi=>Qc i.desc E i.zero k)=_
 rw[hi];show same (Qc i.desc E i.zero k)=_;rw[w1];rfl
def arrE:UD->Option (Nat×TypeId)
 | .array n e=>some (n,e)
 |_=>none
def alT (E:Env) (t:TypeId) (k:Nat):Option TI:=az (E.ty.get t) λi=>az (arrE i.desc) λq=>az (E.ty.get q.2) λie=>aP (Nat.ble (Nat.succ k) q.1) (some ie) none
def Qi {ie:TI} (h:alT E t k=some ie):∃i n e,E.ty.get t=some i/\i.desc= .array n e/\E.ty.get e=some ie/\Nat.ble (Nat.succ k) n=true:=by
 obtain ⟨i,hi,h⟩:=aq h;obtain ⟨q,hq,h⟩:=aq h;obtain ⟨ie',hie,h⟩:=aq h;obtain ⟨hk,h⟩:=aV h;cases h;cases hd:i.desc<;>rw[hd] at hq<;>cases hq
 exact ⟨i,_,_,hi,hd,hie,hk⟩
def atz (bs:cL):UD->AV->Option Int
 | .slice _,.sl _ _ _ n _=>some (n:Int)
 | .slice _,.lit .dD=>some 0
 | .slice _,.ms _ _ _ n=>some (n:Int)
 | .string,.lit (.str b)=>some (b.size:Int)
 | .map _ _,.mp K=>(match lk K bs with|some (.map es)=>some (es.length:Int)|_=>none)
 | .map _ _,.lit .mn=>some 0
 |_,_=>none
def aEO {d:UD} {n:Int} (r:Rel F g Y c s T H) (hn:atz s.bs d y=some n) (hv:VA F g v y):xQ d v H=some (.int .i64 (.lit n)):=by
 have key:∀{n':Nat},U1 v=some n'->n=(n':Int)->az (U1 v) (λn=>some (uz n))=some (SV.int .i64 (.lit n)):=λ{n'} h1 h2=>by
  rw[h1,h2];rfl
 unfold atz at hn;split at hn
 ·cases hn;rename_i n0 Q;exact key (n':=n0) (by cases hv<;>rfl) rfl
 ·cases hn;cases hv;rfl
 ·cases hn;rename_i n0;exact key (n':=n0) (by cases hv<;>rfl) rfl
 ·cases hn;cases hv;rfl
 ·split at hn
  ·rename_i K _ es hb;cases hn;cases hv;obtain ⟨q,_,q3⟩:=r.bx K _ hb;generalize Y K=L at q q3;cases q with
   | @map _ ms cl hk hv=>
   show az (j1 (H (g K).n)) (λp=>some (uz p.1.length))=_
   rw[(q3 ((g K).n,.map ms cl) (by simp)).1]
   show some (uz ms.length)=_;rw[show ms.length=es.length by simpa using hk.length];rfl
  ·cases hn
 ·cases hn;cases hv;rfl
 ·cases hn
def akq (mx:Bool):AV->AV->Option AV
 | .lit (.int k (.lit m)),.lit (.int k' (.lit n))=>aP (gF k k') (some (.int k (aP mx (if m<n then n else m) (if n<m then n else m)))) none
 |_,_=>none
def apy {z:AV} (hz:akq mx x y=some z) (hv:VA F g v x) (hw:VA F g w y):∃u,same (IL E mx v w)=some (u,[])/\VA F g u z:=by
 unfold akq at hz;split at hz
 ·obtain ⟨hk,hz⟩:=aV hz;cases hz;cases hv;cases hw;rename_i k m k' n;refine ⟨_,?_,.lit _⟩;cases mx
  ·show some (SV.int k (aP (Af n m) (.lit n) (.lit m)),[])=some (SV.int k (.lit (if n<m then n else m)),[])
   rw[vp,bG];by_cases hc:n<m<;>simp[hc]
  ·show some (SV.int k (aP (Af m n) (.lit n) (.lit m)),[])=some (SV.int k (.lit (if m<n then n else m)),[])
   rw[vp,bG];by_cases hc:m<n<;>simp[hc]
 ·cases hz
def bltL (E:Env) (s:LS) (b:Builtin) (aa:List Operand) (ts:List TypeId):Option AV:=
 match b,aa,ts with
 | .len,[a],[t]=>az (E.ty.get t) λi=>az (atz s.bs i.desc (dR s.ts a)) λn=>some (.int .i64 n)
 | .min,[a,b],_=>akq false (dR s.ts a) (dR s.ts b)
 | .max,[a,b],_=>akq true (dR s.ts a) (dR s.ts b)
 |_,_,_=>none
def Ek (x:AV):Option AV:=aP (sH x) none (some x)
def oF (h:Ek x=some y):x=y/\x≠ .undef:=by
 unfold Ek at h;cases hx:sH x with
 |true=>rw[hx] at h;cases h
 |false=>rw[hx] at h;cases h;exact ⟨rfl,Gt hx⟩
def aJB:AV->Bool
 | .el _ _ _ _| .ju _| .fn _ _ _=>true
 |_=>false
def Pa (E:Env) (s:LS) (op:Op):Option AV:=
 match op with
 | .move a=>Ek (dR s.ts a)
 | .assign a=>Ek (dR s.ts a)
 | .pick c a b=>(match dR s.ts c with| .lit (.bool t)=>Ek (dR s.ts (aP t a b))|_=>none)
 | .nilCheck a=>aP (aJB (dR s.ts a)) (some (dR s.ts a)) none
 | .load t a=>az (E.ty.get t) λi=>az (Ek (dR s.ts a)) λy=>Gr i s.bs y
 | .fieldAddr t a f=>az (EL E t f) λp=>az (Ek (dR s.ts a)) λy=>aqW p y
 | .field t a f=>az (EL E t f) λp=>az (Ek (dR s.ts a)) λy=>az (acw y) λcs=>ua p.2 cs p.1
 | .extract a i=>(match dR s.ts a with| .cS xs=>xs[i]? |_=>none)
 | .binOp op t a b _=>bU (Ek (dR s.ts a)) (Ek (dR s.ts b)) λx y=>alL E op t x y
 | .unOp op _ a=>az (Ek (dR s.ts a)) λy=>unL op y
 | .convert src dst a=>bU (E.ty.get src) (E.ty.get dst) λ_ i2=>az (Ek (dR s.ts a)) λy=>alz i2.desc y
 | .makeFunc (.func f) a c=>aP (sD (tV s.ts a.toList)) (aP (sD (tV s.ts c.toList)) (some (.fn f (tV s.ts a.toList) (tV s.ts c.toList))) none) none
 | .build t parts=>bU (E.ty.get t) (Pe s.ts parts.toList) λi m=>az (acf E (wu i.zero) m i.desc) λys=>some (.agg ys)
 | .index t a ix=>(match dR s.ts a,dR s.ts ix with
  | .agg cs,.lit (.int _ (.lit (.ofNat k)))=>az (alT E t k) λie=>ua ie cs (Nat.mul k ie.size)
  |_,_=>none)
 | .indexAddr t a ix=>(match dR s.ts a,dR s.ts ix with
  | .el K z 0 off,.lit (.int _ (.lit (.ofNat k)))=>az (alT E t k) λie=>some (.el K z 0 (Nat.add off (Nat.mul k ie.size)))
  |_,_=>none)
 | .call c=>(match c.callee with
  | .builtin b=>aP (sD (tV s.ts c.args.toList)) (bltL E s b c.args.toList c.argTypes.toList) none
  |_=>none)
 |_=>none
def apc {op:Op} (hx:Pa E s op=some x):Ok E pn op s s x []:=by
 unfold Pa at hx;split at hx
 ·obtain ⟨rfl,h2⟩:=oF hx;exact .un (f:=λ_ v=>some (v,[])) (λ_ _ _=>rfl) rfl h2 λr hv=>⟨_,rfl,hv⟩
 ·obtain ⟨rfl,h2⟩:=oF hx;exact .un (f:=λ_ v=>some (v,[])) (λ_ _ _=>rfl) rfl h2 λr hv=>⟨_,rfl,hv⟩
 ·split at hx
  ·rename_i t hc;obtain ⟨rfl,h2⟩:=oF hx;refine .val λ{F g Y c T H} r=> ?_
   obtain ⟨v,v1,v2⟩:=r.val hc (by simp)
   obtain ⟨w,w1,w2⟩:=r.val rfl h2;cases v2;refine ⟨w,λ_=> ?_,w2⟩
   show az (cD T _) (λv=>az (oT v) λb'=>one T (aP b' _ _) λv=>some (v,[]))=_
   rw[v1];show one T (aP t _ _) (λv=>some (v,[]))=_
   rw[one,w1];rfl
  ·cases hx
 ·obtain ⟨h1,hx⟩:=aV hx;cases hx;refine .un (f:=λ_ v=>same (Pm v)) (λ_ _ _=>rfl) rfl (λe=>by rw[e] at h1;cases h1) λ{F g Y c T H v} r hv=>⟨v,?_,hv⟩
  generalize dR s.ts _=y at h1 hv;cases y<;>first|(cases h1;done)|(cases hv<;>rfl)
 ·obtain ⟨i,hi,hx⟩:=aq hx;obtain ⟨y,hy,hx⟩:=aq hx;obtain ⟨rfl,hn⟩:=oF hy;exact .un (f:=λH v=>same (oW E H _ v)) (λ_ _ _=>rfl) rfl hn λr hv=>ahK hi hx r hv
 ·obtain ⟨p,hp,hx⟩:=aq hx;obtain ⟨y,hy,hx⟩:=aq hx;obtain ⟨rfl,hn⟩:=oF hy;exact .un (f:=λ_=>oo E _ _) (λ_ _ _=>rfl) rfl hn λr hv=>auE hp hx hv
 ·obtain ⟨p,hp,hx⟩:=aq hx;obtain ⟨y,hy,hx⟩:=aq hx;obtain ⟨rfl,hn⟩:=oF hy;obtain ⟨cs,hc,hx⟩:=aq hx;exact .un (f:=λ_=>xN E _ _) (λ_ _ _=>rfl) rfl hn λr hv=>by
   obtain ⟨vs,rfl,q⟩:=Vm hc hv;exact auD hp q hx
 ·split at hx
  ·rename_i xs ha;exact .un (f:=λ_ v=>az (Oq v) λvs=>same (vs[_]?)) (λ_ _ _=>rfl) ha (by simp) λr hv=>by
    cases hv with
    | @cS _ vs _ q=>
    obtain ⟨u,u1,u2⟩:=q.get hx;exact ⟨u,by show same (vs[_]?)=_;rw[u1];rfl,u2⟩
  ·cases hx
 ·obtain ⟨y,z,hy,hz,hx⟩:=bp hx;obtain ⟨rfl,hn⟩:=oF hy;obtain ⟨rfl,hm⟩:=oF hz;exact .bi (f:=λv u=>same (JE E _ _ _ _ v u)) (λ_ _ _=>rfl) rfl hn rfl hm λhv hw=>by
   obtain ⟨u,u1,u2⟩:=aFd hv hw hx;exact ⟨u,by rw[u1];rfl,u2⟩
 ·obtain ⟨y,hy,hx⟩:=aq hx;obtain ⟨rfl,hn⟩:=oF hy;exact .un (f:=λ_ v=>same (unA _ v)) (λ_ _ _=>rfl) rfl hn λr hv=>aJl hx hv
 ·obtain ⟨i,i2,h1,h2,hx⟩:=bp hx;obtain ⟨y,hy,hx⟩:=aq hx;obtain ⟨rfl,hn⟩:=oF hy;exact .un (f:=λ_ v=>same (LJ E _ _ v)) (λ_ _ _=>rfl) rfl hn λr hv=>aBZ h1 h2 hx hv
 ·rename_i f a c;obtain ⟨h1,hx⟩:=aV hx;obtain ⟨h2,hx⟩:=aV hx;cases hx;refine .val λ{F g Y _ T H} r=> ?_
  obtain ⟨vs,v1,v2⟩:=r.fT h1;obtain ⟨ws,w1,w2⟩:=r.fT h2;refine ⟨.fn (.func f) vs ws,λ_=> ?_,.fn _ v2 w2⟩
  show aP (UU (.func f)) (bU (fT T a.toList) (fT T c.toList) λl m=>some (SV.fn (.func f) l m,[])) none=_
  rw[v1,w1];rfl
 ·obtain ⟨i,m,h1,h2,hx⟩:=bp hx;obtain ⟨ys,h3,hx⟩:=aq hx;cases hx;refine .val λ{F g Y c T H} r=> ?_
  obtain ⟨k,k1,k2⟩:=Nk r h2;obtain ⟨u,u1,u2⟩:=avn h1 k2 h3;refine ⟨u,λ_=> ?_,u2⟩
  show az (kr T _) (λgZ=>same (EU E _ gZ))=_
  rw[k1];exact u1
 ·split at hx
  ·rename_i cs _ k ha yU;obtain ⟨ie,hie,hx⟩:=aq hx;obtain ⟨i,n,e,h1,h2,h3,h4⟩:=Qi hie;exact .bi (f:=λv u=>az (kY u) λk=>vM E _ k v) (λ_ _ _=>rfl) ha (by simp) yU (by simp) λhv hw=>by
    cases hv with
    | @agg _ vs _ q=>
    cases hw;obtain ⟨u,u1,u2⟩:=vJ q hx;refine ⟨u,?_,u2⟩;show az (E.ty.get _) (λi=>abh i.desc E k (.agg vs))=_
    rw[h1];show abh i.desc E k (.agg vs)=_;rw[h2];show bU (some vs) (E.ty.get e) (λcs ie=>aP (Nat.ble (Nat.succ k) n) (same (ia ie cs (Nat.mul k ie.size))) none)=_
    rw[h3];show aP (Nat.ble (Nat.succ k) n) (same (ia ie vs (Nat.mul k ie.size))) none=_;rw[h4,u1];rfl
  ·cases hx
 ·split at hx
  ·rename_i K z off _ k ha yU;obtain ⟨ie,hie,hx⟩:=aq hx;obtain ⟨i,n,e,h1,h2,h3,h4⟩:=Qi hie;cases hx;exact .bi (f:=λv u=>az (kY u) λk=>same (og E _ v k)) (λ_ _ _=>rfl) ha (by simp) yU (by simp) λ{F g v w} hv hw=>by
    cases hv;cases hw;refine ⟨.ptr (g K).n (0*z+(off+k*ie.size)),?_,.el K z 0 _ (by assumption)⟩
    show same (az (E.ty.get _) λi=>Gv i.desc E (.ptr (g K).n (0*z+off)) k)=_
    rw[h1];show same (Gv i.desc E (.ptr (g K).n (0*z+off)) k)=_;rw[h2];show same (aP (Nat.ble (Nat.succ k) n) (az (E.ty.get e) λie=>some (SV.ptr (g K).n (Nat.add (0*z+off) (Nat.mul k ie.size)))) none)=_
    rw[h4,h3];show some (SV.ptr (g K).n (0*z+off+k*ie.size),[])=_;rw[fU]
  ·cases hx
 ·split at hx
  ·rename_i c _ b hc;obtain ⟨h1,hx⟩:=aV hx;refine .val λ{F g Y CM T H} r=> ?_
   obtain ⟨vs,v1,v2⟩:=r.fT h1;have key:∃u,(∀new,rk E H new b vs c.argTypes.toList=some (u,[]))/\VA F g u x:=by
    generalize c.args.toList=aa at v2 hx;generalize c.argTypes.toList=ts at hx;unfold bltL at hx;split at hx
    ·obtain ⟨i,hi,hx⟩:=aq hx;obtain ⟨n,hn,hx⟩:=aq hx;cases hx;cases v2 with|cons q1 q2=>
     cases q2;refine ⟨_,λ_=> ?_,.lit _⟩
     show az (E.ty.get _) (λi=>same (xQ i.desc _ H))=_
     rw[hi];show same (xQ i.desc _ H)=_;rw[aEO r hn q1];rfl
    ·cases v2 with|cons q1 q2=>
     cases q2 with|cons q2 q3=>
     cases q3;obtain ⟨u,u1,u2⟩:=apy hx q1 q2;exact ⟨u,λ_=>u1,u2⟩
    ·cases v2 with|cons q1 q2=>
     cases q2 with|cons q2 q3=>
     cases q3;obtain ⟨u,u1,u2⟩:=apy hx q1 q2;exact ⟨u,λ_=>u1,u2⟩
    ·cases hx
   obtain ⟨u,u1,u2⟩:=key;refine ⟨u,λnew=> ?_,u2⟩
   show rZ E T H new c=_;unfold rZ;rw[hc];show az (fT T c.args.toList) (λaa=>rk E H new b aa c.argTypes.toList)=_
   rw[v1];exact u1 new
  ·cases hx
 ·cases hx
def elN {id:Nat} {cp:Cp} (e:g K=⟨id,cp,true⟩):VA F g (.ptr id f) (.el K 0 0 f):=by
 have:=VA.el (F:=F) (g:=g) K 0 0 f (by rw[e])
 rwa[e,cC] at this
def rl {id s:Nat} {cp:Cp} (e:g K=⟨id,cp,true⟩):VA F g (.sl id 0 n cp) (.ms K s 0 n):=by
 have:=VA.ms (F:=F) (g:=g) (K:=K) s 0 n (by rw[e])
 rw[e,lT] at this;cases cp<;>exact this
def alb {id:Nat} {cp:Cp} (h:g K=⟨id,cp,true⟩) (q:dz F g svs xs):eH F g K (.flat e xs) [(id,.cells e svs)]:=by
 have:=eH.flat (K:=K) (e:=e) q;rwa[h] at this
def lU {id s:Nat} {cp:Cp} (h:g K=⟨id,cp,true⟩) (hz:z=true->Q≠ []) (hu:∀r∈Q,r.length=s) (hc:yv e s Q.length svs.length cp) (q:dz F lz (svs.take (Q.length*s)) Q.flatten):eH F g K (.rows z e s Q) [(id,.cells e svs)]:=by
 have:=eH.cy (F:=F) (g:=g) (K:=K) (z:=z) (e:=e) (by rw[h]) hz hu (by rw[h];exact hc) (TR.uG hu q) (o:= []) (λp hp=>by cases hp)
 rwa[h] at this
def yZ (sz:Nat):Nat->bf->bA
 |0,_=> []
 |n+1,cs=>cs.take sz::yZ sz n (cs.drop sz)
def ace {sz:Nat}:∀{n:Nat} {cs:bf},cs.length=n*sz->(yZ sz n cs).length=n/\(∀r∈yZ sz n cs,r.length=sz)/\(yZ sz n cs).flatten=cs
 |0,cs,hl=>by
  rw[lT] at hl;rw[vX.1 hl];exact ⟨rfl,λr hr=>(by cases hr),rfl⟩
 |n+1,cs,hl=>by
  rw[gA,pq] at hl;obtain ⟨a,b,c⟩:=ace (sz:=sz) (n:=n) (cs:=cs.drop sz) (by rw[iE];omega)
  refine ⟨by show (yZ sz n (cs.drop sz)).length+1=_;rw[a],λr hr=> ?_,?_⟩
  ·rcases cH.1 (show r∈cs.take sz::yZ sz n (cs.drop sz) from hr) with rfl|hr
   ·rw[dZ];omega
   ·exact b r hr
  ·show cs.take sz++(yZ sz n (cs.drop sz)).flatten=cs;rw[c,DH]
def UJ (z:bf):Nat->bf
 |0=> []
 |n+1=>z++UJ z n
def aaj {z:aY} {x:bf} (hz:dz F g z x):∀n,dz F g (rep z n) (UJ x n)
 |0=>.nil
 |n+1=>hz.append (aaj hz n)
def UI (z:bf):∀n,(UJ z n).length=n*z.length
 |0=>by simp[UJ]
 |n+1=>by show (z++UJ z n).length=_;rw[gD,UI z n,gA,pq,Aw]
def Wj {place:Nat->Option (Nat×Nat)}:∀{m:List (Nat×bf)} {xs ys:bf},LC place xs m=some ys->ys.length=xs.length
 | [],_,_,hy=>by cases hy;rfl
 |p::rest,xs,ys,hy=>by
  obtain ⟨q,h1,hy⟩:=aq hy;obtain ⟨h2,hy⟩:=aV hy;rw[Wj hy];rw[bF] at h2;have e1:p.2.length=q.2:=(beq_iff _ _).1 h2.1;have e2:q.1+q.2<=xs.length:=tO h2.2;unfold gu;rw[gD,gD,dZ,iE,show Nat.add q.1 p.2.length=q.1+p.2.length from rfl];omega
def MY {ie:TI} (h:pT ie=true):ie.zero.length=ie.size:=by
 unfold pT at h;rw[bF,bF] at h;exact (beq_iff _ _).1 h.2.2
def P6 (E:Env) (t:TypeId):Option (TypeId×TI):=az (E.ty.get t) λi=>az (qL i.desc) λe=>az (E.ty.get e) λie=>some (e,ie)
def Al {p:TypeId×TI} (h:P6 E t=some p):∃i,E.ty.get t=some i/\qL i.desc=some p.1/\E.ty.get p.1=some p.2:=by
 obtain ⟨i,hi,h⟩:=aq h;obtain ⟨e,he,h⟩:=aq h;obtain ⟨ie,hie,h⟩:=aq h;cases h;exact ⟨i,hi,he,hie⟩
def aat (E:Env) (s:LS) (K:Nat) (op:Op):Option (Bx×AV):=
 match op with
 | .box e a=>az (BJ (dR s.ts a)) λxs=>aP (lO K (ku xs)) none (some (.flat e xs,.loc K 0))
 | .alloc e=>az (E.ty.get e) λi=>some (.flat e (wu i.zero),.loc K 0)
 | .buildSlice t len parts=>bU (P6 E t) (Pe s.ts parts.toList) λp m=>aP (pT p.2&&Nat.ble (Nat.mul len p.2.size) 16777216) (az (LC (rY p.2.size) (UJ (wu p.2.zero) len) m) λys=>
   aP (ku ys).isEmpty (some (.rows false p.1 p.2.size (yZ p.2.size len ys),.ms K p.2.size 0 len)) (aP (Nat.beq len 1 && !lO K (ku ys)) (some (.flat p.1 ys,.ms K p.2.size 0 1)) none)) none
 | .makeMap _ none=>some (.map [],.mp K)
 | .range t a=>az (E.ty.get t) λi=>aP (Ew i.desc) (match dR s.ts a with| .lit (.str b)=>some (.iter b 0,.it K)|_=>none) none
 |_=>none
def Ll {l:bq} (h:lO K l=false):∀k∈l,k≠K:=λk hm e=>by
 rw[(qd K l).2 (e ▸ hm)] at h;cases h
def apb {op:Op} {p:Bx×AV} (hf:s.free K) (hp:pn K=false) (hx:aat E s K op=some p):Ok E pn op s (s.set K p.1) p.2 [K]:=by
 unfold aat at hx;split at hx
 ·rename_i e a;obtain ⟨xs,h1,hx⟩:=aq hx;rw[bG] at hx;split at hx
  ·cases hx
  ·rename_i hm;cases hx;refine .lay hp hf λ{F g Y c T H new} r=> ?_
   obtain ⟨v,v1,v2⟩:=r.val rfl (CO h1);obtain ⟨vs,w1,w2⟩:=CN h1 v2;refine ⟨.ptr new 0,.cells e vs,.k 1,?_,λg' e1 e2=>⟨elN e1,alb e1 (w2.same (.refl F) λk hk=>e2 k (Ll (by simpa using hm) k hk))⟩⟩
   show one T a (Xe new e)=_;rw[one,v1];show az v.cells _=_;rw[w1];rfl
 ·rename_i e;obtain ⟨i,h1,hx⟩:=aq hx;cases hx;exact .lay hp hf λ{F g Y c T H new} r=>⟨.ptr new 0,.cells e i.zero,.k 1,by show az (E.ty.get e) _=_;rw[h1];rfl,λg' e1 e2=>⟨elN e1,alb e1 sG⟩⟩
 ·rename_i t len parts;obtain ⟨q,m,h1,h2,hx⟩:=bp hx;obtain ⟨h3,hx⟩:=aV hx;obtain ⟨ys,h4,hx⟩:=aq hx;obtain ⟨i,hi,he,hie⟩:=Al h1;have jn:=(kK.1 h3).1;have hlen:ys.length=len*q.2.size:=by rw[Wj h4,UI,wu,nQ,MY jn]
  have run:∀{F:Hf} {g:Gb} {Y:Nat->Ow} {c:Nat->bP} {T:Tf} {H:Hf} {new:Nat},Rel F g Y c s T H->∃ws,dz F g ws ys/\qQ E (.buildSlice t len parts) T H new=some (.sl new 0 len (.k len),[(new,some (.cells q.1 ws))]):=λ{F g Y c T H new} r=>by
   obtain ⟨k,k1,k2⟩:=Nk r h2;obtain ⟨ws,w1,w2⟩:=LB k2 (aaj sG len) h4;refine ⟨ws,w2,?_⟩;show az (kr T parts.toList) (λgZ=>tj E new t len gZ)=_
   rw[k1];show az (E.ty.get t) _=_;rw[hi];show az (qL i.desc) _=_;rw[he];show az (E.ty.get q.1) _=_;rw[hie];show aP (pT q.2&&Nat.ble (Nat.mul len q.2.size) 16777216) (az (mW (rY q.2.size) (rep q.2.zero len) k) λcs=>some (SV.sl new 0 len (.k len),[(new,some (SO.cells q.1 cs))])) none=_
   rw[h3,w1];rfl
  rw[bG] at hx;split at hx
  ·rename_i h5;cases hx;obtain ⟨c1,c2,c3⟩:=ace hlen;refine .lay hp hf λ{F g Y c T H new} r=> ?_
   obtain ⟨ws,w2,w3⟩:=run (new:=new) r;refine ⟨_,_,.k len,w3,λg' e1 e2=>⟨rl e1,lU e1 (λe=>by cases e) c2 (by rw[c1];exact ⟨dg _,by rw[w2.length,hlen]⟩) ?_⟩⟩
   rw[c1,c3,kn (by rw[w2.length,hlen];exact dg _)]
   exact w2.qR h5
  ·obtain ⟨h6,hx⟩:=aV hx;cases hx;rw[bF] at h6;obtain rfl:=(beq_iff _ _).1 h6.1;refine .lay hp hf λ{F g Y c T H new} r=> ?_
   obtain ⟨ws,w2,w3⟩:=run (new:=new) r;exact ⟨_,_,.k 1,w3,λg' e1 e2=>⟨rl e1,alb e1 (w2.same (.refl F) λk hk=>e2 k (Ll (by simpa using h6.2) k hk))⟩⟩
 ·cases hx;refine .lay hp hf λ{F g Y c T H new} r=>⟨.mp new,.map [] 0,.k 0,rfl,λg' e1 e2=>⟨?_,?_⟩⟩
  ·have:=VA.mp (F:=F) (g:=g') K;rwa[e1] at this
  ·have:=eH.map (F:=F) (g:=g') (K:=K) (es:= []) (ms:= []) (c:=0) .nil .nil;rwa[e1] at this
 ·rename_i t a;obtain ⟨i,h1,hx⟩:=aq hx;obtain ⟨h2,hx⟩:=aV hx;split at hx
  ·rename_i b ha;cases hx;refine .lay hp hf λ{F g Y c T H new} r=> ?_
   obtain ⟨v,v1,v2⟩:=r.val ha (by simp)
   cases v2;refine ⟨.ptr new 0,.nA b 0,.k 0,?_,λg' e1 e2=>⟨?_,?_⟩⟩
   ·show one T a (vL E H new t)=_;rw[one,v1];show az (E.ty.get t) _=_;rw[h1];show az (O6 i.desc (.str b) H) _=_;generalize i.desc=d at h2;cases d<;>first|(cases h2;done)|rfl
   ·have:=VA.it (F:=F) (g:=g') K;rwa[e1] at this
   ·have:=eH.iter (F:=F) (g:=g') (K:=K) (s:=b) (pos:=0);rwa[e1] at this
  ·cases hx
 ·cases hx
def O9 (E:Env) (s:LS) (op:Op):Option (Nat×Bx):=
 match op with
 | .store t a c=>bU (E.ty.get t) (BJ (dR s.ts c)) λi xs=>(match dR s.ts a with
  | .el K _ j off=>(match lk K s.bs with
   |some (.flat e cs)=>zer j (aP (Nat.beq xs.length i.size&&Nat.ble (Nat.add off xs.length) cs.length) (some (K,.flat e (gu cs off xs))) none)
   |_=>none)
  |_=>none)
 |_=>none
def VX {id:Nat} (hi:E.ty.get t=some i) (hw:w.cells=some vs) (hH:H id=some (.cells e svs)) (hl:(Nat.beq vs.length i.size&&Nat.ble (Nat.add off vs.length) svs.length)=true):
  unit (rX E H t w (.ptr id off))=some (.cS [],[(id,some (.cells e (eI svs off vs)))]):=by
 show unit (rP (E.ty.get t) w.cells (nk (H id)) λi xs p=>aP (Nat.beq xs.length i.size&&Nat.ble (Nat.add off xs.length) p.2.length) (some [(id,some (SO.cells p.1 (eI p.2 off xs)))]) none)=_
 rw[hi,hw,hH];show unit (aP (Nat.beq vs.length i.size&&Nat.ble (Nat.add off vs.length) svs.length) (some [(id,some (SO.cells e (eI svs off vs)))]) none)=_;rw[hl];rfl
def apa {op:Op} {p:Nat×Bx} (hx:O9 E s op=some p):Ok E pn op s (s.set p.1 p.2) (.cS []) [p.1]:=by
 unfold O9 at hx;split at hx
 ·rename_i t a b;obtain ⟨i,xs,h1,h2,hx⟩:=bp hx;split at hx
  ·rename_i K z j off ha;split at hx
   ·rename_i e cs hb;obtain ⟨rfl,hx⟩:=Yw hx;obtain ⟨h3,hx⟩:=aV hx;cases hx;refine .wr hb λ{F g Y c T H} r=> ?_
    obtain ⟨v,v1,v2⟩:=r.val ha (by simp)
    obtain ⟨w,w1,w2⟩:=r.val rfl (CO h2);obtain ⟨vs,u1,u2⟩:=CN h2 w2;cases v2;obtain ⟨svs,hφ,q,hH⟩:=r.flat hb;refine ⟨.cS [],_,.cells e (eI svs off vs),[],[],hφ,λnew=> ?_,.cS .nil,.flat (q.eI u2 off),.refl _⟩
    show two T a b (λa v=>unit (rX E H t v a))=_
    rw[two,v1,w1];show unit (rX E H t w (.ptr (g K).n (0*z+off)))=_;rw[lT,cC];exact VX h1 u1 hH (by rw[u2.length,q.length];exact h3)
   ·cases hx
  ·cases hx
 ·cases hx
end
section
variable {F F':Hf} {g g':Gb} {Y:Nat->Ow} {c:Nat->bP} {s s':LS} {T:Tf} {H:Hf} {E:Env} {pn:Nat->Bool}
def j4 {x:Option J} {a:J} {f:J->Option γ} (h:x=some a):az x f=f a:=by rw[h];rfl
def GZ {O:Type} {x:Option J} {y:Option O} {a:J} {b:O} {f:J->O->Option γ} (h:x=some a) (k:y=some b):bU x y f=f a b:=by rw[h,k];rfl
def CG {J:Type} {s:Nat}:∀{Q:List (List J)},(∀r∈Q,r.length=s)->∀l,(Q.drop l).flatten=Q.flatten.drop (l*s)
 |_,_,0=>by simp
 | [],_,l+1=>by simp
 |r::Q,hu,l+1=>by
  rw[List.drop_succ_cons,CG (λq hq=>hu q (by simp[hq])) l,qB,gA,pq,Aw,<-tU,List.drop_left' (hu r (by simp))]
def Jp {J:Type} {s:Nat}:∀{Q:List (List J)},(∀r∈Q,r.length=s)->∀l,(Q.take l).flatten=Q.flatten.take (l*s)
 |_,_,0=>by simp
 | [],_,l+1=>by simp
 |r::Q,hu,l+1=>by
  rw[SD,qB,Jp (λq hq=>hu q (by simp[hq])) l,qB,gA,pq,Aw,<-hu r (by simp),DV]
def abL {s lo:Nat} {Q:List (List J)} (hu:∀r∈Q,r.length=s):((Q.drop lo).take n).flatten=(Q.flatten.drop (lo*s)).take (n*s):=by
 rw[Jp (λr hr=>hu r (pE hr)),CG hu]
def OY {s:Nat} {Q:List (List J)} {R:List J} (hj:Q[j]? =some R):j*s+s<=Q.length*s:=by
 have:=kJ s (show j+1<=Q.length from (cf.1 hj).1);rwa[gA,pq] at this
def auA {s:Nat} {Q:List (List J)} {R:List J} (hu:∀r∈Q,r.length=s) (hj:Q[j]? =some R):(Q.flatten.drop (j*s)).take s=R:=by
 obtain ⟨cV,he⟩:=cf.1 hj;rw[<-CG hu,qE cV,qB,he,DU (hu R (cN hj))]
def yW {J:Type} (rows:List J) (n:Int):Option J:=if 0<=n then rows[n.toNat]? else none
def MW {rows:List J} {n:Int} {R:J} (hg:yW rows n=some R):∃k:Nat,n=k/\rows[k]? =some R:=by
 unfold yW at hg;split at hg
 ·exact ⟨n.toNat,by omega,hg⟩
 ·cases hg
def asV (sh:Sh) (x:AV):AV:=
 match sh with
 | .d=>x
 | .o _ _=>.undef
def F3:dW->bf->bf
 |_,[]=> []
 |l,x::r=>asV (l.headD .d) x::F3 l.tail r
def xV (sh:Sh) (x:AV):AV:=aP (jF x).isEmpty (asV sh x) .undef
def tY:dW->bf->bf
 |_,[]=> []
 |l,x::r=>xV (l.headD .d) x::tY l.tail r
def Bq:Nat->dW->bf->fy
 |_,_,[]=> []
 |p,l,x::r=>aP (sH (xV (l.headD .d) x)) (aP (sH x) (Bq (Nat.succ p) l.tail r) ((p,x)::Bq (Nat.succ p) l.tail r)) (Bq (Nat.succ p) l.tail r)
def kb.see:∀{l vs xs L},kb F l vs xs L->dz F lz vs (F3 l xs)
 |_,_,_,_,.nil=>.nil
 |l,_,_,_,.cons (v:=v) q t=>.cons (by
  show VA F lz v (asV (l.headD .d) _);generalize l.headD .d=sh at q;cases sh with
  |d=>cases q with
   |d q=>exact q
   |any=>exact .undef v
  |o b l=>exact .undef v) t.see
def TR.at {s:Nat}:∀{l vs Q L} {j:Nat} {R},TR F l vs Q L->(∀r∈Q,r.length=s)->Q[j]? =some R->∃L0,kb F l ((vs.drop (j*s)).take s) R L0
 |_,_,_,_,_,_,.nil,_,h=>by cases h
 |l,_,_,_,0,R,.cons (vs:=vs) (a:=a) q t,hu,h=>by
  obtain rfl:_=R:=by simpa using h
  exact ⟨a,by rw[lT,rS,DU (by rw[q.length];exact hu _ (by simp))];exact q⟩
 |l,_,_,_,j+1,R,.cons (vs:=vs) q t,hu,h=>by
  have hl:vs.length=s:=by rw[q.length];exact hu _ (by simp)
  have:=t.at (λr hr=>hu r (fM _ hr)) (show _=some R by simpa using h)
  rwa[gA,pq,Aw,<-tU,<-hl,Yx,hl]
def TR.take {s:Nat}:∀{l vs Q L} (n:Nat),TR F l vs Q L->(∀r∈Q,r.length=s)->∃L',L'.Sublist L/\TR F l (vs.take (n*s)) (Q.take n) L'
 |_,_,_,_,0,_,_=>⟨[],Of _,by simpa using .nil⟩
 |_,_,_,_,n+1,.nil,_=>⟨[],.refl _,by simpa using .nil⟩
 |l,_,_,_,n+1,.cons (vs:=vs) q t,hu=>by
  obtain ⟨L',h1,h2⟩:=t.take n λr hr=>hu r (fM _ hr)
  refine ⟨_,(SB _).append h1,?_⟩;rw[gA,pq,Aw,<-hu _ (jo),<-q.length,DV,SD,q.length,hu _ (jo)];exact .cons q h2
def TR.append:∀{l vs Q L ws R L2},TR F l vs Q L->TR F l ws R L2->TR F l (vs++ws) (Q++R) (L++L2)
 |_,_,_,_,_,_,_,.nil,k=>k
 |_,_,_,_,_,_,_,.cons q t,k=>by rw[lu,lu];exact .cons q (t.append k)
def TC.put (sh:Sh) (h:VA F g v x):TC F sh v (xV sh x) []:=by
 unfold xV;rw[bG];split
 ·rename_i hk;cases sh with
  |d=>exact .d (h.qR hk)
  |o=>exact .any v
 ·exact .any v
def kb.aaq:∀{l ws xs},dz F g ws xs->kb F l ws (tY l xs) []
 |_,_,_,.nil=>.nil
 |l,_,_,.cons h t=>.cons (a:= []) (TC.put _ h) (kb.aaq t)
def kb.put:∀{l vs R L ws xs},kb F l vs R L->dz F g ws xs->xs.length<=R.length->∃L',L'.Sublist L/\kb F l (ws++vs.drop ws.length) (tY l xs++R.drop xs.length) L'
 |l,vs,R,L,_,_,q,.nil,_=>⟨L,.refl _,by simpa[tY] using q⟩
 |l,_,_,_,_,_,.nil,.cons h t,hl=>by cases hl
 |l,_,_,_,_,_,.cons (a:=a) q qs,.cons h t,hl=>by
  obtain ⟨L',h1,h2⟩:=qs.put t (by simpa using hl)
  exact ⟨L',h1.trans (Yz _ _),.cons (a:= []) (TC.put _ h) (by simpa using h2)⟩
def kb.spl:∀{l vs R L ws xs} (f:Nat),kb F l vs R L->dz F g ws xs->f+xs.length<=R.length->∃L',L'.Sublist L/\kb F l (eI vs f ws) (gu R f (tY (l.drop f) xs)) L'
 |l,vs,R,L,ws,xs,0,q,h,hl=>by
  obtain ⟨L',h1,h2⟩:=q.put h (by omega)
  refine ⟨L',h1,?_⟩;show kb F l (vs.take 0++ws++vs.drop (Nat.add 0 ws.length)) (R.take 0++tY l xs++R.drop (Nat.add 0 (tY l xs).length)) L';rw[show (tY l xs).length=xs.length by rw[<-(kb.aaq (F:=F) (l:=l) h).length,h.length],show Nat.add 0 ws.length=ws.length from cC _,show Nat.add 0 xs.length=xs.length from cC _]
  exact h2
 |l,_,_,_,ws,xs,f+1,.nil,h,hl=>by simp at hl
 |l,_,_,_,ws,xs,f+1,.cons (v:=v) (vs:=vs) (x:=x) (xs:=R) q t,h,hl=>by
  obtain ⟨L',h1,h2⟩:=t.spl f h (by simp at hl;omega)
  refine ⟨_,(SB _).append h1,?_⟩;have e1:eI (v::vs) (f+1) ws=v::eI vs f ws:=by
   show (v::vs).take (f+1)++ws++(v::vs).drop (f+1+ws.length)=v::(vs.take f++ws++vs.drop (f+ws.length));rw[show f+1+ws.length=f+ws.length+1 by omega];rfl
  have e2:∀ys,gu (x::R) (f+1) ys=x::gu R f ys:=λys=>by
   show (x::R).take (f+1)++ys++(x::R).drop (f+1+ys.length)=x::(R.take f++ys++R.drop (f+ys.length));rw[show f+1+ys.length=f+ys.length+1 by omega];rfl
  rw[e1,e2,show l.drop (f+1)=l.tail.drop f by cases l<;>simp]
  exact .cons q h2
def OG {a v b:aY} (h:f+ws.length<=v.length):eI (a++(v++b)) (a.length+f) ws=a++(eI v f ws++b):=by
 show (a++(v++b)).take (a.length+f)++ws++(a++(v++b)).drop (a.length+f+ws.length)=a++((v.take f++ws++v.drop (f+ws.length))++b);rw[DV,age (by omega),fU,agf,agd h]
 simp
def SQ {R:bf} (h1:f+xs.length<=R.length):(gu R f xs).length=R.length:=by
 show (R.take f++xs++R.drop (f+xs.length)).length=_;rw[gD,gD,dZ,iE];omega
def HC {R xs:aY} (h1:f+xs.length<=R.length):(eI R f xs).length=R.length:=by
 show (R.take f++xs++R.drop (f+xs.length)).length=_;rw[gD,gD,dZ,iE];omega
def TR.spl {s:Nat} (h:dz F g ws xs) (hl:f+xs.length<=s):∀{l vs Q L} {j:Nat} {R},TR F l vs Q L->(∀r∈Q,r.length=s)->Q[j]? =some R->∃L',L'.Sublist L/\TR F l (eI vs (j*s+f) ws) (Q.set j (gu R f (tY (l.drop f) xs))) L'
 |_,_,_,_,_,_,.nil,_,hj=>by cases hj
 |l,_,_,_,0,R,.cons (vs:=vs) (ws:=b) q t,hu,hj=>by
  obtain rfl:_=R:=by simpa using hj
  have hr:=hu _ (jo);obtain ⟨L',h1,h2⟩:=q.spl f h (by omega)
  refine ⟨_,h1.append (.refl _),?_⟩;have:=OG (a:= []) (v:=vs) (b:=b) (f:=f) (ws:=ws) (by rw[h.length,q.length];omega)
  rw[lT,show eI (vs++b) (0+f) ws=eI vs f ws++b from this];exact .cons h2 t
 |l,_,_,_,j+1,R,.cons (vs:=vs) (ws:=b) q t,hu,hj=>by
  obtain ⟨L',h1,h2⟩:=t.spl h hl (λr hr=>hu r (fM _ hr)) (show _=some R by simpa using hj)
  have hv:vs.length=s:=by rw[q.length];exact hu _ (jo)
  refine ⟨_,(SB _).append h1,?_⟩;have hlen:=t.length λr hr=>hu r (fM _ hr)
  have hjs:=OY (s:=s) (show _=some R by simpa using hj)
  have:=OG (a:=vs) (v:=b) (b:= []) (f:=j*s+f) (ws:=ws) (by rw[h.length];omega)
  rw[tM,tM,hv] at this;rw[show (j+1)*s+f=s+(j*s+f) by rw[gA];omega,this]
  exact .cons q h2
def afx {N:Nat} (h1:off+ws.length<=N) (h2:N<=vs.length):(eI vs off ws).take N=eI (vs.take N) off ws:=by
 show (vs.take off++ws++vs.drop (off+ws.length)).take N=(vs.take N).take off++ws++(vs.take N).drop (off+ws.length);have hl:(vs.take off++ws).length=off+ws.length:=by rw[gD,dZ,fE (by omega)]
 rw[List.take_append,kn (by omega),hl,tR,oB,fE (by omega)]
def aoD {p:Nat} (h:off+ws.length<=vs.length):(eI vs off ws)[p]? =if p<off then vs[p]? else if p<off+ws.length then ws[p-off]? else vs[p]? :=by
 show (vs.take off++ws++vs.drop (off+ws.length))[p]? =_;have hl:(vs.take off).length=off:=by rw[dZ];omega
 rw[lu];by_cases h1:p<off
 ·rw[aH h1,pD (by omega),fa,aH h1]
 ·rw[aM h1,nP (by omega),hl]
  by_cases h2:p<off+ws.length
  ·rw[aH h2,pD (by omega)]
  ·rw[aM h2,nP (by omega),fc]
   congr 1;omega
def Rel.cy (r:Rel F g Y c s T H) {K:Nat} {z:Bool} {e sz:Nat} {l:dW} {Q:bA} {o:fy} (hb:lk K s.bs=some (.cy z e sz l Q o)):(Q= []/\o= []/\(g K).b=false/\Y K= [])\/
  ((g K).b=true/\∃svs L,Y K=((g K).n,.cells e svs)::L/\H (g K).n=some (.cells e svs)/\(z=true->Q≠ [])/\(∀r∈Q,r.length=sz)/\yv e sz Q.length svs.length (g K).c/\TR F l (svs.take (Q.length*sz)) Q L/\HoA F g svs o):=by
 obtain ⟨q,_,q3⟩:=r.bx K _ hb;generalize Y K=L at q q3;cases q with
 |nil h=>exact .inl ⟨rfl,rfl,h,rfl⟩
 |cy h1 h2 h3 h4 h5 h6=>exact .inr ⟨h1,_,_,rfl,(q3 (_,_) (by simp)).1,h2,h3,h4,h5,h6⟩
def Rel.row (r:Rel F g Y c s T H) {e sz:Nat} {R:bf} (hb:lk K s.bs=some (.cy z e sz l Q o)) (hj:Q[j]? =some R):
  (g K).b=true/\∃svs L,Y K=((g K).n,.cells e svs)::L/\H (g K).n=some (.cells e svs)/\(∀r∈Q,r.length=sz)/\yv e sz Q.length svs.length (g K).c/\TR F l (svs.take (Q.length*sz)) Q L/\HoA F g svs o/\dz F lz ((svs.drop (j*sz)).take sz) (F3 l R)/\R.length=sz/\j*sz+sz<=svs.length:=by
 rcases r.cy hb with ⟨rfl,_⟩|⟨h1,svs,L,h2,h3,_,h4,h5,h6,h7⟩
 ·cases hj
 ·obtain ⟨L0,q⟩:=h6.at h4 hj;have hle:=OY (s:=sz) hj;rw[tR,oB,fE (by omega)] at q
  exact ⟨h1,svs,L,h2,h3,h4,h5,h6,h7,q.see,h4 R (cN hj),jf hle (ou h5)⟩
structure cB where
 need:Prop
 got:Prop
 pf:got
def eqO (a b:Nat):cB:=⟨a=b,a=a,rfl⟩
structure o7 where
 Eh:List cB
 s:LS
 x:AV
 W:bq
def iA:List cB->Prop
 | []=>True
 |q::l=>q.need/\iA l
def ui (E:Env) (pn:Nat->Bool) (op:Op) (s:LS) (r:o7):Prop:=iA r.Eh->Ok E pn op s r.s r.x r.W
def eqH (j sz:Nat):bq->fy->List cB
 |f::fs,p::o=>eqO p.1 (Nat.add (Nat.mul j sz) f)::eqH j sz fs o
 |_,_=> []
def ath (R:bf):bq->fy->bf
 |f::fs,p::o=>ath (R.set f p.2) fs o
 |_,_=>R
def dz.set:∀{vs xs} {i:Nat} {v:SV} {x:AV},dz F g vs xs->vs[i]? =some v->VA F g v x->dz F g vs (xs.set i x)
 |_,_,_,_,_,.nil,_,_=>.nil
 |_,_,0,_,_,.cons _ t,h,k=>by obtain rfl:=kW (show some _=some _ from h);exact .cons k t
 |_,_,i+1,_,_,.cons h t,hi,k=>.cons h (t.set (by simpa using hi) k)
def aho {svs:aY} {j sz:Nat}:∀{fs:bq} {o:fy} {R:bf},dz F g ((svs.drop (j*sz)).take sz) R->HoA F g svs o->(∀f∈fs,f<sz)->iA (eqH j sz fs o)->dz F g ((svs.drop (j*sz)).take sz) (ath R fs o)
 | [],_,_,q,_,_,_=>q
 |_::_,[],_,q,_,_,_=>q
 |f::fs,p::o,R,q,ho,hf,ha=>by
  obtain ⟨h1,h2⟩:p.1=j*sz+f/\iA (eqH j sz fs o):=ha;obtain ⟨v,v1,v2⟩:=ho p (by simp)
  refine aho (fs:=fs) (o:=o) (q.set (i:=f) ?_ v2) (λp hp=>ho p (fM _ hp)) (λf hf'=>hf f (fM _ hf')) h2
  rw[fa,aH (hf f (by simp)),fc,<-h1]
  exact v1
def Xh (sz:Nat):bq->Bool
 | []=>true
 |f::l=>Nat.ble (Nat.succ f) sz&&Xh sz l
def aaP {sz:Nat}:∀{l:bq},Xh sz l=true->∀f∈l,f<sz
 |_::_,h,f,hf=>by
  have h:=kK.1 (show (Nat.ble (Nat.succ _) sz&&Xh sz _)=true from h);rcases cH.1 hf with rfl|hf
  ·exact (bV _ _).1 h.1
  ·exact aaP h.2 f hf
def asX (E:Env) (s:LS) (op:Op) (R:bf) (fs:bq) (ob:Prop->cB):Option o7:=
 match op with
 | .load t a=>az (E.ty.get t) λi=>(match dR s.ts a with
  | .el K sz j f=>(match lk K s.bs with
   |some (.cy z e D2 l Q o)=>aP (Nat.beq sz D2&&(Nat.ble (Nat.add f i.size) sz&&(Xh sz fs&&(ku (F3 l R)).isEmpty))) (az (ua i (((ath (F3 l R) fs o).drop f).take i.size) 0) λx=>some ⟨ob (Q[j]? =some R)::eqH j sz fs o,s,x,[]⟩) none
   |_=>none)
  |_=>none)
 | .indexAddr t a ix=>az (E.ty.get t) λi=>az (qL i.desc) λe=>az (E.ty.get e) λie=>(match dR s.ts a,dR s.ts ix with
  | .sl _ _ sz _ Q,.lit (.int _ (.lit n))=>aP (Nat.beq ie.size sz) (some ⟨[ob (yW Q n=some R)],s,.ju R,[]⟩) none
  |_,_=>none)
 |_=>none
def abg {ie:TI} {id m:Nat} {c:Cp} (hi:E.ty.get t=some i) (he:qL i.desc=some e) (hie:E.ty.get e=some ie) (hk:k<m):same (og E t (.sl id off m c) k)=some (.ptr id (off+k*ie.size),[]):=by
 unfold og;rw[j4 hi,uF he];show same (AI E e id off m k)=_;unfold AI;rw[hie,(bV _ _).2 hk];rfl
def aBq {op:Op} {R:bf} {ob:Prop->cB} (gO:∀P,(ob P).need=P) {r:o7} (h:asX E s op R fs ob=some r):ui E pn op s r:=by
 unfold asX at h;split at h
 ·obtain ⟨i,hi,h⟩:=aq h;split at h
  ·rename_i K sz j f ha;split at h
   ·rename_i z e D2 l Q o hb;obtain ⟨hc,h⟩:=aV h;obtain ⟨x,hx,h⟩:=aq h;cases h;simp only[bF] at hc;obtain ⟨h1,h2,h3,h4⟩:=hc;obtain rfl:=(beq_iff _ _).1 h1;have h2:f+i.size<=sz:=(bV _ _).1 h2;intro hh;obtain ⟨hj,hh⟩:=hh;rw[gO] at hj;exact .un (f:=λH v=>same (oW E H _ v)) (λ_ _ _=>rfl) ha (by simp) λ{F g Y c T H v} r hv=>by
     cases hv;obtain ⟨_,svs,L,_,hH,_,_,_,ho,q,hR,hl⟩:=r.row hb hj;obtain ⟨u,u1,u2⟩:=vJ (((aho (q.qR h4) ho (aaP h3) hh).drop f).take i.size) hx;rw[tR,oB,tU,fE (by omega)] at u1
     exact ⟨u,Ln hi (rn hH) (aav u1 (by omega)),u2⟩
   ·cases h
  ·cases h
 ·obtain ⟨i,hi,h⟩:=aq h;obtain ⟨e,he,h⟩:=aq h;obtain ⟨ie,hie,h⟩:=aq h;split at h
  ·rename_i m e' sz n0 Q _ n ha yU;obtain ⟨h1,h⟩:=aV h;cases h;obtain rfl:=(beq_iff _ _).1 h1;intro hh;have hR:=hh.1;rw[gO] at hR;obtain ⟨k,rfl,hk⟩:=MW hR;exact .bi (f:=λv u=>az (kY u) λk=>same (og E _ v k)) (λ_ _ _=>rfl) ha (by simp) yU (by simp) λ{F g v w} hv hw=>by
    cases hw;cases hv with
    |nil=>cases hk
    |sle=>cases hk
    | @sl _ _ id off cp _ _ _ _ e2 svs hn hF hc hm hu hl q=>
    subst hn;have hle:=OY (s:=ie.size) hk;have hRl:=hu R (cN hk);refine ⟨_,abg hi he hie (cf.1 hk).1,.ju (wK hF (by omega) (by omega)) (by omega) ?_⟩
    have:=(q.drop (k*ie.size)).take ie.size;rw[auA hu hk,tR,oB,tU,fE (by omega)] at this
    rw[hRl];exact this
  ·cases h
 ·cases h
def akQ (E:Env) (s:LS) (op:Op):Option o7:=
 match op with
 | .load t a=>az (E.ty.get t) λi=>(match dR s.ts a with
  | .el K sz j f=>(match lk K s.bs with
   |some (.cy _ _ _ _ _ (p::_))=>aP (lY i.desc) none (some ⟨[eqO p.1 (Nat.add (Nat.mul j sz) f)],s,p.2,[]⟩)
   |_=>none)
  |_=>none)
 |_=>none
def aBS {op:Op} {r:o7} (h:akQ E s op=some r):ui E pn op s r:=by
 unfold akQ at h;split at h
 ·obtain ⟨i,hi,h⟩:=aq h;split at h
  ·rename_i K sz j f ha;split at h
   ·rename_i p o hb;rw[bG] at h;split at h
    ·cases h
    ·rename_i hg;cases h;intro hh;have hp:p.1=j*sz+f:=hh.1;exact .un (f:=λH v=>same (oW E H _ v)) (λ_ _ _=>rfl) ha (by simp) λ{F g Y c T H v} r hv=>by
      cases hv;rcases r.cy hb with ⟨_,h,_⟩|⟨_,svs,L,_,hH,_,_,_,_,ho⟩
      ·cases h
      ·obtain ⟨v,v1,v2⟩:=ho p (by simp)
       refine ⟨v,Ln hi (rn hH) ?_,v2⟩;unfold ia;rw[bG,aM hg,<-hp];exact v1
   ·cases h
  ·cases h
 ·cases h
def atL (E:Env) (s:LS) (op:Op) (k:Nat) (ob:Prop->cB):Option o7:=
 match op with
 | .indexAddr t a ix=>az (E.ty.get t) λi=>az (qL i.desc) λe=>az (E.ty.get e) λie=>(match dR s.ts a,dR s.ts ix with
  | .ms K sz lo n,.lit (.int _ (.lit m))=>aP (Nat.beq ie.size sz) (some ⟨[ob (m=(k:Int)/\k<n)],s,.el K sz (Nat.add lo k) 0,[]⟩) none
  |_,_=>none)
 |_=>none
def aBR {op:Op} {ob:Prop->cB} (gO:∀P,(ob P).need=P) {r:o7} (h:atL E s op k ob=some r):ui E pn op s r:=by
 unfold atL at h;split at h
 ·obtain ⟨i,hi,h⟩:=aq h;obtain ⟨e,he,h⟩:=aq h;obtain ⟨ie,hie,h⟩:=aq h;split at h
  ·rename_i K sz lo n _ m ha yU;obtain ⟨h1,h⟩:=aV h;cases h;obtain rfl:=(beq_iff _ _).1 h1;intro hh;have hm:=hh.1;rw[gO] at hm;obtain ⟨rfl,hk⟩:=hm;exact .bi (f:=λv u=>az (kY u) λk=>same (og E _ v k)) (λ_ _ _=>rfl) ha (by simp) yU (by simp) λ{F g v w} hv hw=>by
    cases hw;cases hv with
    |rl=>cases hk
    |xb=>cases hk
    |ms _ _ _ hb=>
    refine ⟨_,abg hi he hie hk,?_⟩;rw[<-gA];exact .el K ie.size (lo+k) 0 hb
  ·cases h
 ·cases h
def Df (Q:bA) (j f:Nat) (xs:bf):Option bA:=az (Q[j]?) λR=>some (Q.set j (gu R f xs))
def asD (E:Env) (s:LS) (op:Op) (Q':bA) (ob:Prop->cB):Option o7:=
 match op with
 | .store t a c=>bU (E.ty.get t) (BJ (dR s.ts c)) λi xs=>(match dR s.ts a with
  | .el K sz j f=>(match lk K s.bs with
   |some (.cy z e D2 l Q o)=>aP (Nat.beq sz D2&&(Nat.beq xs.length i.size&&Nat.ble (Nat.add f xs.length) sz)) (some ⟨[ob (Df Q j f (tY (l.drop f) xs)=some Q')],s.set K (.cy z e sz l Q' (Bq (Nat.add (Nat.mul j sz) f) (l.drop f) xs)),.cS [],[K]⟩) none
   |_=>none)
  |_=>none)
 |_=>none
def U9:∀{l:dW} {ws:aY} {xs:bf} (p:Nat),dz F g ws xs->∀q∈Bq p l xs,p<=q.1/\∃v,ws[q.1-p]? =some v/\VA F g v q.2
 |_,_,_,_,.nil,_,h=>by cases h
 |l,_,_,p,.cons (v:=v) (vs:=vs) (x:=x) (xs:=xs) h t,q,hq=>by
  have ih:q∈Bq (Nat.succ p) l.tail xs->p<=q.1/\∃w,(v::vs)[q.1-p]? =some w/\VA F g w q.2:=λhq=>by
   obtain ⟨h1,w,w1,w2⟩:=U9 (p+1) t q hq;exact ⟨by omega,w,by rw[show q.1-p=(q.1-(p+1))+1 by omega];exact w1,w2⟩
  have hq:q∈aP (sH (xV (l.headD .d) x)) (aP (sH x) (Bq (Nat.succ p) l.tail xs) ((p,x)::Bq (Nat.succ p) l.tail xs)) (Bq (Nat.succ p) l.tail xs):=hq;rw[bG,bG] at hq;split at hq
  ·split at hq
   ·exact ih hq
   ·rcases cH.1 hq with rfl|hq
    ·exact ⟨dg _,v,by rw[nR];rfl,h⟩
    ·exact ih hq
  ·exact ih hq
def azb {op:Op} {ob:Prop->cB} (gO:∀P,(ob P).need=P) {r:o7} (h:asD E s op Q' ob=some r):ui E pn op s r:=by
 unfold asD at h;split at h
 ·obtain ⟨i,xs,hi,hx,h⟩:=bp h;split at h
  ·rename_i K sz j f ha;split at h
   ·rename_i z e D2 l Q o hb;obtain ⟨hc,h⟩:=aV h;cases h;simp only[bF] at hc;obtain ⟨h1,h2,h3⟩:=hc;obtain rfl:=(beq_iff _ _).1 h1;have h3:f+xs.length<=sz:=(bV _ _).1 h3;intro hh;have hQ:=hh.1;rw[gO] at hQ;obtain ⟨R,hj,hQ⟩:=aq hQ;cases hQ;refine .wr hb λ{F g Y c T H} r=> ?_
    obtain ⟨v,v1,v2⟩:=r.val ha (by simp)
    obtain ⟨w,w1,w2⟩:=r.val rfl (CO hx);obtain ⟨ws,u1,u2⟩:=CN hx w2;cases v2;obtain ⟨s9,svs,L,hφ,hH,hu,hc,q,ho,_,hR,hl⟩:=r.row hb hj;obtain ⟨L',hs,q'⟩:=q.spl u2 h3 hu hj;have hle:=OY (s:=sz) hj;have hwl:=u2.length;refine ⟨.cS [],.cells e svs,.cells e (eI svs (j*sz+f) ws),L,L',hφ,λnew=> ?_,.cS .nil,.cy s9 (λ_ e0=> ?_) (λr hr=> ?_) ?_ ?_ (λp hp=> ?_),hs⟩
    ·show two T _ _ (λa v=>unit (rX E H _ v a))=_
     rw[two,v1,w1];exact VX hi u1 hH (by rw[hwl,bF];exact ⟨h2,(bV _ _).2 (show j*sz+f+xs.length<=svs.length by omega)⟩)
    ·have:=bM List.length e0;rw[mY] at this;rw[vX.1 this] at hj;cases hj
    ·rcases YB hr with hr|rfl
     ·exact hu r hr
     ·rw[SQ (by rw[<-(kb.aaq (F:=F) u2).length,hwl,hR];exact h3)];exact hR
    ·rw[mY,HC (by omega)];exact hc
    ·rw[mY,afx (by omega) (ou hc)];exact q'
    ·obtain ⟨k1,v,k2,k3⟩:=U9 _ u2 p hp;have k1:j*sz+f<=p.1:=k1;have k2:ws[p.1-(j*sz+f)]? =some v:=k2;have:=(cf.1 k2).1;exact ⟨v,by rw[aoD (by omega),aM (by omega),aH (by omega)];exact k2,k3⟩
   ·cases h
  ·cases h
 ·cases h
end
section
variable {F F':Hf} {g g':Gb} {Y:Nat->Ow} {c:Nat->bP} {s s':LS} {T:Tf} {H:Hf} {E:Env} {pn:Nat->Bool}
def nI (K:Nat) (x:AV):AV:=aP (lO K (jF x)) .undef x
def PU (K:Nat) (x:AV):K∉jF (nI K x):=by
 unfold nI;rw[bG];split
 ·exact λhc=>by cases hc
 ·rename_i hx;exact λhc=>hx ((qd _ _).2 hc)
def GJ (q:VA F g v x):VA F g v (nI K x):=by
 unfold nI;rw[bG];split
 ·exact .undef v
 ·exact q
def abK {K:Nat}:∀{xs:bf} {vs:aY},dz F g vs xs->dz F g vs (xs.map (nI K))
 |_,_,.nil=>.nil
 |_,_,.cons h t=>.cons (GJ h) (abK t)
def GH (K:Nat):∀(l:bf),K∉ku (l.map (nI K))
 | [],hc=>by cases hc
 |x::l,hc=>(eO.1 (show K∈jF (nI K x)++ku (l.map (nI K)) from hc)).elim (PU K x) (GH K l)
def Bx.nN (K:Nat):Bx->Bx
 | .flat e cs=>.flat e (cs.map (nI K))
 | .cy z e s l Q o=>.cy z e s l Q (o.map λp=>(p.1,nI K p.2))
 |b=>b
def LS.nN (s:LS) (K:Nat):LS:=⟨s.ts.map λp=>(p.1,nI K p.2),s.bs.map λp=>(p.1,p.2.nN K)⟩
def aqV (s:LS) (K:Nat):(s.nN K).free K:=by
 refine ⟨λt x hx=> ?_,λk b cY hb=> ?_⟩
 ·obtain ⟨y,_,rfl⟩:=vV.1 ((Bi (λ(_:Nat) (x:AV)=>nI K x) t s.ts).symm.trans hx)
  exact PU K y
 ·obtain ⟨y,_,rfl⟩:=vV.1 ((Bi (λ(_:Nat) (b:Bx)=>b.nN K) k s.bs).symm.trans hb)
  cases y with
  |flat e cs=>exact GH K cs
  |cy z e s l Q o=>
   show K∉ku ((o.map λp=>(p.1,nI K p.2)).map (·.2))
   rw[DL,show ((λp:Nat×AV=>p.2) ∘ λp:Nat×AV=>(p.1,nI K p.2))=nI K ∘ (·.2) from rfl,<-DL]
   exact GH K _
  |_=>exact λhc=>by cases hc
def eH.nN (K:Nat) (q:eH F g k b L):eH F g k (b.nN K) L:=by
 cases q with
 |flat q=>exact .flat (abK q)
 |nil hb=>exact .nil hb
 |cy hb hz hu hc q ho=>
  refine .cy hb hz hu hc q λp hp=> ?_
  obtain ⟨p0,hp0,rfl⟩:=cP.1 hp;obtain ⟨v,v1,v2⟩:=ho p0 hp0;exact ⟨v,v1,GJ v2⟩
 |map hk hv=>exact .map hk hv
 |iter=>exact .iter
def Rel.nN (r:Rel F g Y c s T H) (K:Nat):Rel F g Y c (s.nN K) T H:=r.ajU (ft:=λ_=>nI K) (fb:=λ_ b=>b.nN K) r.fr (λ_=>by unfold nI;rw[bG];split<;>rfl) (λ_ _ _ _=>GJ) λ_ _ _ _ q=>q.nN K
structure Srx where
 Eh:List cB
 R:bA
 o:Nat->fy
def XB (s:LS) (sz:Nat) (l:dW) (y:AV) (R:bA) (o:Nat->fy):Prop:=y≠ .undef/\∀{F:Hf} {g:Gb} {Y:Nat->Ow} {c:Nat->bP} {T:Tf} {H:Hf} {v:SV},Rel F g Y c s T H->VA F g v y->
 ∃xs,uW H sz v=some (R.length,xs)/\TR F l xs R []/\(∀r∈R,r.length=sz)/\∀n,∀q∈o n,n<=q.1/\∃v,xs[q.1-n]? =some v/\VA F g v q.2
def YX {sz id:Nat} {cp:Cp} (hh:jb (H id) off (n*sz)=some (e,svs)) (hl:off+n*sz<=svs.length):uW H sz (.sl id off n cp)=some (n,(svs.drop off).take (n*sz)):=by
 show AX H sz (.sl id off n cp)=_;unfold AX;refine GZ (a:=n) rfl (b:=((svs.drop off).take (n*sz))) ?_;show mf H id off (Nat.mul n sz)=_;unfold mf;rw[show jb (H id) off (Nat.mul n sz)=some (e,svs) from hh];show aP (Nat.ble (Nat.add off (Nat.mul n sz)) svs.length) (some ((svs.drop off).take (n*sz))) none=_;rw[show Nat.ble (Nat.add off (Nat.mul n sz)) svs.length=true from (bV _ _).2 hl]
def kb.dat:∀{vs xs L},kb F [] vs xs L->dz F lz vs xs
 |_,_,_,.nil=>.nil
 |_,_,_,.cons (v:=v) q t=>.cons (match q with| .d q=>q| .any _=>.undef v) (kb.dat t)
def TR.dat:∀{vs Q L},TR F [] vs Q L->dz F lz vs Q.flatten
 |_,_,_,.nil=>.nil
 |_,_,_,.cons q t=>by rw[qB];exact q.dat.append t.dat
def AW {sz:Nat} (hv:v= .dD\/v= .sle):∃xs,uW H sz v=some (([]:bA).length,xs)/\TR F l xs [] []/\(∀r∈([]:bA),r.length=sz)/\∀n,∀q∈(λ_=> []:Nat->fy) n,n<=q.1/\∃v,xs[q.1-n]? =some v/\VA F g v q.2:=
 ⟨[],by rcases hv with rfl|rfl<;>rfl,.nil,λ_ hr=>(by cases hr),λ_ _ hq=>by cases hq⟩
def asP {m e sz:Nat}:XB s sz [] (.sl m e sz n R) R (λ_=> []):=⟨by simp,λr hv=>by
 cases hv with
 |nil=>exact AW (.inl rfl)
 |sle=>exact AW (.inr rfl)
 |sl hn hF hc hm hu hl q=>subst hn;exact ⟨_,YX (yp (λi o h=>(r.fr i o h).1) hF) hl,.uG hu q,hu,λ_ _ hq=>by cases hq⟩⟩
def aBl {sz lo:Nat} (hb:lk K s.bs=some (.cy z e sz [] Q o)) (hR:(Q.drop lo).take n=R) (hn:lo+n<=Q.length):XB s sz [] (.ms K sz lo n) R (λ_=> []):=⟨by simp,λ{F g Y c T H v} r hv=>by
 subst hR;have awM:∀{n},n=0->(Q.drop lo).take n= []:=λe=>by rw[e,DR]
 cases hv with
 |rl=>rw[awM rfl];exact AW (.inl rfl)
 |xb=>rw[awM rfl];exact AW (.inr rfl)
 |ms _ _ _ o6=>
  rcases r.cy hb with ⟨_,_,h,_⟩|⟨_,svs,L,_,hH,_,hu,hc,q,_⟩
  ·rw[h] at o6;cases o6
  ·have hl:=ou hc;have hle:lo*sz+n*sz<=Q.length*sz:=by rw[<-gA];exact kJ _ hn
   have hlen:((Q.drop lo).take n).length=n:=by rw[dZ,iE];omega
   have jG:∀r∈(Q.drop lo).take n,r.length=sz:=λr hr=>hu r (pE (qC hr))
   refine ⟨_,by rw[hlen];exact YX (rn hH) (by omega),.uG jG ?_,jG,λ_ _ hq=>by cases hq⟩
   have:=(q.dat.drop (lo*sz)).take (n*sz);rwa[tR,oB,fE (by omega),<-abL hu] at this⟩
def asO {sz:Nat} (hb:lk K s.bs=some (.flat e cs)) (hl:cs.length=sz):XB s sz l (.ms K sz 0 1) [tY l cs] (λn=>Bq n l cs):=⟨by simp,λ{F g Y c T H v} r hv=>by
 cases hv with
 |ms _ _ _ o6=>
 obtain ⟨svs,_,q,hH⟩:=r.flat hb;have Ey:svs.length=sz:=by rw[q.length,hl]
 refine ⟨svs,?_,by simpa using TR.cons (kb.aaq (l:=l) q) .nil,λr hr=> ?_,λn=>U9 n q⟩
 ·rw[YX (rn hH) (by omega),lT,rS,kn (by omega)];rfl
 ·rw[ez.1 hr,<-(kb.aaq (F:=F) (l:=l) q).length,Ey]⟩
def asQ (s:LS) (sz:Nat) (l:dW) (y:AV) (A:bA->Prop) (R:bA) (ob:Prop->cB):Option Srx:=
 match y with
 | .lit .dD=>some ⟨[ob (A [])],[],λ_=> []⟩
 | .sl _ _ D2 _ Q=>aP (Nat.beq D2 sz&&l.isEmpty) (some ⟨[ob (A Q)],Q,λ_=> []⟩) none
 | .ms K D2 lo n=>
  (match lk K s.bs with
  |some (.cy _ _ sz'' [] Q _)=>aP (Nat.beq D2 sz&&(Nat.beq sz'' sz&&l.isEmpty)) (some ⟨[ob (A R/\(Q.drop lo).take n=R/\lo+n<=Q.length)],R,λ_=> []⟩) none
  |some (.flat _ cs)=>aP (Nat.beq D2 sz&&(Nat.beq cs.length sz&&(Nat.beq lo 0&&Nat.beq n 1))) (some ⟨[ob (A [tY l cs])],[tY l cs],λn=>Bq n l cs⟩) none
  |_=>none)
 |_=>none
def aBm {sz:Nat} {ob:Prop->cB} (gO:∀P,(ob P).need=P) {q:Srx} (h:asQ s sz l y A R ob=some q) (hh:iA q.Eh):A q.R/\XB s sz l y q.R q.o:=by
 unfold asQ at h;split at h
 ·cases h;have h1:=hh.1;rw[gO] at h1;exact ⟨h1,by simp,λr hv=>by cases hv;exact AW (.inl rfl)⟩
 ·obtain ⟨h1,h⟩:=aV h;cases h;rw[bF] at h1;have h2:=hh.1;rw[gO] at h2;obtain rfl:=(beq_iff _ _).1 h1.1;obtain rfl:l= []:=by simpa using h1.2
  exact ⟨h2,asP⟩
 ·split at h
  ·rename_i hb;obtain ⟨h1,h⟩:=aV h;cases h;simp only[bF] at h1;have h2:=hh.1;rw[gO] at h2;obtain rfl:=(beq_iff _ _).1 h1.1;obtain rfl:=(beq_iff _ _).1 h1.2.1;obtain rfl:l= []:=by simpa using h1.2.2
   exact ⟨h2.1,aBl hb h2.2.1 h2.2.2⟩
  ·rename_i hb;obtain ⟨h1,h⟩:=aV h;cases h;simp only[bF] at h1;have h2:=hh.1;rw[gO] at h2;obtain rfl:=(beq_iff _ _).1 h1.1;obtain rfl:=(beq_iff _ _).1 h1.2.2.1;obtain rfl:=(beq_iff _ _).1 h1.2.2.2;exact ⟨h2,asO hb ((beq_iff _ _).1 h1.2.1)⟩
  ·cases h
 ·cases h
structure VO (w:Bool) (Q:bA) (n:Nat) (Q':bA) (n':Nat) (R:bA):Prop where
 hw:w=true->n=Q.length
 hn:n<=Q.length
 n6:n<=1000000
 r6:R.length<=1000000
 eq:Q.take n++R=Q'
 len:Q'.length=n'
def arM {m:Nat} {xs:aY} {ie:TI} (hi:E.ty.get t=some i) (hd:qL i.desc=some e) (he:E.ty.get e=some ie) (jn:pT ie=true) (hw:uW H ie.size w=some (m,xs)) (hm:m<=1000000):
  nK E H new t v w=aP (Nat.beq m 0) (aP (U2 v) (some (v,[])) none) (vd v H new e ie.size m xs):=by
 unfold nK;rw[j4 hi,j4 hd];unfold Vl;rw[j4 he,jn];show az (uW H ie.size w) (λq=>aP (Nat.ble q.1 1000000) (aP (Nat.beq q.1 0) (aP (U2 v) (some (v,[])) none) (vd v H new e ie.size q.1 q.2)) none)=_
 rw[j4 hw];show aP (Nat.ble m 1000000) _ none=_;rw[(bV _ _).2 hm]
def alV (r:Rel F g Y c s T H) (hn:H new=none) {z':Bool} {ie:TI} {xs:aY} (hi:E.ty.get t=some i) (hd:qL i.desc=some e) (he:E.ty.get e=some ie) (jn:pT ie=true) (hv:VA F g v (.ms K ie.size 0 n)) (hw:uW H ie.size w=some (R.length,xs)) (hx:TR F l xs R []) (hu:∀x∈R,x.length=ie.size) (hoR:∀n,∀q∈oR n,n<=q.1/\∃v,xs[q.1-n]? =some v/\VA F g v q.2) (hko:K∉ku ((oR (n*ie.size)).map (·.2))) (hq:n<=Q.length) (xf:n<=1000000) (hR:R.length<=1000000) (hz':z'=true->z=true/\n=Q.length) (hb:lk K s.bs=some (.cy z e ie.size l Q o)):
  ∃v' us gk L',nK E H new t v w=some (v',us)/\VA F (lR g K gk) v' (.ms K ie.size 0 (Q.take n++R).length)/\eH F (lR g K gk) K (.cy z' e ie.size l (Q.take n++R) (oR (n*ie.size))) L'/\(L'.map (·.1)).Nodup/\(∀p∈L',gx H us p.1=some p.2/\(c p.1=some K\/H p.1=none))/\(∀u∈us,u.1=new\/c u.1=some K)/\(gx H us new=none\/new∈L'.map (·.1)):=by
 have hlen:(Q.take n++R).length=n+R.length:=by rw[gD,dZ];omega
 have cX:xs.length=R.length*ie.size:=hx.length hu;have same:lR g K (g K)=g:=funext λk=>by unfold lR;split<;>simp_all
 have Ey:U2 v=true:=by cases hv<;>rfl
 obtain ⟨_,nd,own⟩:=r.bx K _ hb;rw[arM hi hd he jn hw hR];have hho:∀{gk:GK} {old tl:aY},old.length=n*ie.size->HoA F (lR g K gk) (old++xs++tl) (oR (n*ie.size)):=λ{gk old tl} ho p hp=>by
  obtain ⟨h1,v,v1,v2⟩:=hoR _ p hp;have:=(cf.1 v1).1;refine ⟨v,?_,v2.same (.refl F) λk hk=>show lR g K gk k=g k from aM λ(ek:k=K)=>hko (ek ▸ Ac (cP.2 ⟨p,hp,rfl⟩) k hk)⟩
  rw[pD (by rw[gD];omega),nP (by omega),ho]
  exact v1
 by_cases hR0:R.length=0
 ·obtain rfl:R= []:=vX.1 hR0;have fV:oR (n*ie.size)= []:=SH.2 λp hp=>by
   obtain ⟨_,v,v1,_⟩:=hoR _ p hp;rw[vX.1 (show xs.length=0 by rw[cX];exact lT _)] at v1
   cases v1
  rw[tM,fV,dZ,fE hq];have go:∀L',eH F g K (.cy z' e ie.size l (Q.take n) []) L'->L'.Sublist (Y K)->∃v' us gk L',aP (Nat.beq ([]:bA).length 0) (aP (U2 v) (some (v,[])) none) (vd v H new e ie.size ([]:bA).length xs)=some (v',us)/\VA F (lR g K gk) v' (.ms K ie.size 0 n)/\eH F (lR g K gk) K (.cy z' e ie.size l (Q.take n) []) L'/\(L'.map (·.1)).Nodup/\(∀p∈L',gx H us p.1=some p.2/\(c p.1=some K\/H p.1=none))/\(∀u∈us,u.1=new\/c u.1=some K)/\(gx H us new=none\/new∈L'.map (·.1)):=λL' mQ hs=>
   ⟨v,[],g K,L',by rw[Ey];rfl,by rw[same];exact hv,by rw[same];exact mQ,(hs.map _).nodup nd,λp hp=>⟨(own p (hs.subset hp)).1,.inl (own p (hs.subset hp)).2⟩,λ_ hu=>(by cases hu),.inl hn⟩
  rcases r.cy hb with ⟨rfl,_,hbf,hφ⟩|⟨s9,svs,L,hφ,hH,hz,se,hc,q,_⟩
  ·exact go [] (by simpa using .nil hbf) (Of _)
  ·obtain ⟨L',hs,q'⟩:=q.take n se;have hle:=kJ ie.size hq;rw[oB,fE hle] at q';refine go _ (.cy s9 (λe0=> ?_) (λr hr=>se r (qC hr)) ?_ ?_ λp hp=>by cases hp) (hφ ▸ hs.cons_cons _)
   ·rw[(hz' e0).2,xv];exact hz (hz' e0).1
   ·rw[dZ,fE hq];cases hκ:(g K).c with
    |k m=>rw[hκ] at hc;exact ⟨jf hq hc.1,hc.2⟩
    |u e'=>rw[hκ] at hc;exact ⟨hc.1,jf hle hc.2⟩
   ·rw[dZ,fE hq];exact q'
 rw[show Nat.beq R.length 0=false from by
  cases hx:Nat.beq R.length 0 with
  |false=>rfl
  |true=>exact absurd ((beq_iff _ _).1 hx) hR0]
 show ∃v' us gk L',vd v H new e ie.size R.length xs=some (v',us)/\_;have cY:Q.take n++R≠ []:=λhc=>hR0 (by rw[(SA.1 hc).2];rfl)
 have fresh:∀{us:dN} {old:aY} {L0:Ow},TR F l old (Q.take n) L0->old.length=n*ie.size->(∀r∈Q.take n,r.length=ie.size)->L0.Sublist (Y K)->gx H us new=some (.cells e (old++xs))->(∀p∈L0,gx H us p.1=H p.1)->(∀u∈us,u.1=new\/c u.1=some K)->vd v H new e ie.size R.length xs=some (.sl new 0 (Nat.add n R.length) (.u e),us)->
   ∃v' us gk L',vd v H new e ie.size R.length xs=some (v',us)/\VA F (lR g K gk) v' (.ms K ie.size 0 (Q.take n++R).length)/\eH F (lR g K gk) K (.cy z' e ie.size l (Q.take n++R) (oR (n*ie.size))) L'/\(L'.map (·.1)).Nodup/\(∀p∈L',gx H us p.1=some p.2/\(c p.1=some K\/H p.1=none))/\(∀u∈us,u.1=new\/c u.1=some K)/\(gx H us new=none\/new∈L'.map (·.1)):=λ{us old L0} q ho se hs l6 hL jG qo=>by
  have eg:lR g K ⟨new,.u e,true⟩ K=⟨new,.u e,true⟩:=aH rfl;have hl:(old++xs).length=(Q.take n++R).length*ie.size:=by rw[gD,ho,cX,hlen,gA]
  refine ⟨_,us,⟨new,.u e,true⟩,(new,.cells e (old++xs))::L0,qo,by rw[hlen];exact rl eg,?_,?_,λp hp=> ?_,jG,.inr (by simp)⟩
  ·have:=eH.cy (F:=F) (g:=lR g K ⟨new,.u e,true⟩) (K:=K) (z:=z') (e:=e) (s:=ie.size) (l:=l) (Q:=Q.take n++R) (o:=oR (n*ie.size)) (svs:=old++xs) (L:=L0) (by rw[eg]) (λ_=>cY) (λx hx=>(eO.1 hx).elim (se x) (hu x)) (by rw[eg];exact ⟨rfl,by rw[hl];exact dg _⟩) (by rw[<-hl,xv];simpa using q.append hx) (by simpa using hho (tl:= []) ho)
   rwa[eg] at this
  ·rw[iZ,pt];refine ⟨λhm=> ?_,(hs.map _).nodup nd⟩
   obtain ⟨p,hp,e0⟩:=cP.1 hm;have:=(own p (hs.subset hp)).1;rw[show p.1=new from e0,hn] at this;cases this
  ·rcases cH.1 hp with rfl|hp
   ·exact ⟨l6,.inr hn⟩
   ·exact ⟨(hL p hp).trans (own p (hs.subset hp)).1,.inl (own p (hs.subset hp)).2⟩
 have one:∀{x:SO} {i:Nat},gx H [(new,some x)] i=if i=new then some x else H i:=λ{x i}=>rfl
 rcases r.cy hb with ⟨rfl,_,hbf,hφ⟩|⟨s9,svs,L,hφ,hH,hz,se,hc,q,_⟩
 ·have HJ:v= .dD:=by
   cases hv with
   |rl=>rfl
   |xb _ _ h0=>cases h0
   |ms _ _ _ o6=>rw[hbf] at o6;cases o6
  subst HJ;obtain rfl:n=0:=DP.1 hq;exact fresh (us:= [(new,some (.cells e xs))]) (old:= []) (L0:= []) (by simpa using .nil) (by simp) (λr hr=>by simp at hr) (Of _) (by rw[one,aH rfl];rfl) (λp hp=>by cases hp) (λu hu=>.inl (by rw[ez.1 hu])) (by rw[show Nat.add 0 R.length=R.length from cC _];rfl)
 ·have wA:v= .sl (g K).n 0 n (g K).c:=by
   cases hv with
   |rl s o6=>rw[s9] at o6;cases o6
   |xb _ _ h0=>cases h0
   |ms=>rw[lT];cases (g K).c<;>rfl
  have hl:=ou hc;have hle:=kJ ie.size hq;have ho:(svs.take (n*ie.size)).length=n*ie.size:=by rw[dZ];omega
  obtain ⟨L0,hs,q'⟩:=q.take n se;rw[oB,fE hle] at q';have hut:∀r∈Q.take n,r.length=ie.size:=λr hr=>se r (qC hr)
  have hsK:L0.Sublist (Y K):=hφ ▸ hs.trans (List.sublist_cons_self _ _);rw[hφ] at nd own;have akS:∀p∈L0,p.1≠(g K).n/\p.1≠new:=λp hp=>⟨λe0=>(pt.1 nd).1 (e0 ▸ cP.2 ⟨p,hs.subset hp,rfl⟩),λe0=>by
   have:=(own p (fM _ (hs.subset hp))).1;rw[e0,hn] at this;cases this⟩
  have hcK:=(own _ jo).2;have hold:mf H (g K).n 0 (Nat.mul n ie.size)=some (svs.take (n*ie.size)):=by
   unfold mf;rw[hH];show aP (Nat.ble (Nat.add 0 (Nat.mul n ie.size)) svs.length) (some ((svs.drop 0).take (n*ie.size))) none=_;rw[(bV _ _).2 (show Nat.add 0 (Nat.mul n ie.size)<=svs.length by rw[show Nat.add 0 (Nat.mul n ie.size)=n*ie.size from cC _];omega)]
   rfl
  have hto:vd v H new e ie.size R.length xs=Qj new e ie.size (g K).n 0 n (g K).c R.length xs (e,svs) (svs.take (n*ie.size)):=by
   rw[wA];show LR H new e ie.size R.length xs (g K).n 0 n (g K).c=_;unfold LR;rw[(bV _ _).2 xf];show aP (Xm n R.length (g K).c) _ _=_;rw[bG];split
   ·rename_i I9;rw[j4 hold];cases hκ:(g K).c with
    |u e'=>rw[hκ] at I9;cases I9
    |k m=>
     rw[hκ] at I9;have I9:m<n+R.length:=(bV _ _).1 I9;show _=aP (Nat.ble (Nat.add n R.length) m) _ _;rw[show Nat.ble (Nat.add n R.length) m=false from by
      cases hx:Nat.ble (Nat.add n R.length) m with
      |false=>rfl
      |true=>exact absurd ((bV _ _).1 hx) (by show ¬n+R.length<=m;omega)]
   ·exact GZ (by rw[hH];rfl) hold
  cases hκ:(g K).c with
  |u e'=>
   rw[hκ] at hc hto;obtain ⟨rfl,ED⟩:=hc;refine fresh (us:= [((g K).n,none),(new,some (.cells e' (svs.take (n*ie.size)++xs)))]) q' ho hut hsK ?_ (λp hp=> ?_) (λu hu=> ?_) ?_
   ·show jk (jk H _) _ new=_;exact aH rfl
   ·show jk (jk H _) _ p.1=_;exact (aM (akS p hp).2).trans (aM (akS p hp).1)
   ·rcases cH.1 hu with rfl|hu
    ·exact .inr hcK
    ·exact .inl (by rw[ez.1 hu])
   ·rw[hto];show aP (Nat.ble (Nat.add 0 (Nat.mul n ie.size)) svs.length&&Nat.beq e' e') _ none=_;rw[(bV _ _).2 (show Nat.add 0 (Nat.mul n ie.size)<=svs.length by rw[show Nat.add 0 (Nat.mul n ie.size)=n*ie.size from cC _];omega),(beq_iff e' e').2 rfl]
    rfl
  |k m=>
   rw[hκ] at hc hto;obtain ⟨sZ,Jf⟩:=hc;have e1:Qj new e ie.size (g K).n 0 n (.k m) R.length xs (e,svs) (svs.take (n*ie.size))=aP (Nat.ble (Nat.add n R.length) m) (aP (Nat.ble (Nat.add 0 (Nat.mul (Nat.add n R.length) ie.size)) svs.length) (some (.sl (g K).n 0 (Nat.add n R.length) (.k m),[((g K).n,some (.cells e (eI svs (Nat.add 0 (Nat.mul n ie.size)) xs)))])) none) (wk new e (Nat.add n R.length) (svs.take (n*ie.size)++xs) []):=rfl;rw[e1] at hto;cases mq:Nat.ble (Nat.add n R.length) m with
   |false=>
    refine fresh (us:= [(new,some (.cells e (svs.take (n*ie.size)++xs)))]) q' ho hut hsK (by rw[one,aH rfl]) (λp hp=>by rw[one,aM (akS p hp).2]) (λu hu=>.inl (by rw[ez.1 hu])) (by rw[hto,mq];rfl)
   |true=>
    have hm:n+R.length<=m:=(bV _ _).1 mq;have axE:(n+R.length)*ie.size<=svs.length:=by rw[Jf];exact kJ _ hm
    have hz0:Nat.add 0 (Nat.mul n ie.size)=n*ie.size:=cC _;have hl3:(svs.take (n*ie.size)++xs).length=(Q.take n++R).length*ie.size:=by rw[gD,ho,cX,hlen,gA]
    rw[mq,(bV _ _).2 (show Nat.add 0 (Nat.mul (Nat.add n R.length) ie.size)<=svs.length by rw[show Nat.add 0 (Nat.mul (Nat.add n R.length) ie.size)=(n+R.length)*ie.size from cC _];exact axE),hz0] at hto
    refine ⟨_,_,g K,((g K).n,.cells e (eI svs (n*ie.size) xs))::L0,hto,?_,?_,?_,λp hp=> ?_,λu hu=>.inr (by rw[ez.1 hu];exact hcK),.inl ?_⟩
    ·rw[same,hlen];have:=VA.ms (F:=F) (g:=g) (K:=K) ie.size 0 (n+R.length) s9;rw[lT,hκ] at this;exact this
    ·have key:=eH.cy (F:=F) (g:=lR g K (g K)) (K:=K) (z:=z') (e:=e) (s:=ie.size) (l:=l) (Q:=Q.take n++R) (o:=oR (n*ie.size)) (svs:=eI svs (n*ie.size) xs) (L:=L0) (by rw[same];exact s9) (λ_=>cY) (λx hx=>(eO.1 hx).elim (hut x) (hu x)) (by rw[same,hκ,hlen,HC (by rw[cX,<-gA];exact axE)];exact ⟨hm,Jf⟩) (by
      rw[<-hl3,show (eI svs (n*ie.size) xs)=svs.take (n*ie.size)++xs++svs.drop (n*ie.size+xs.length) from rfl,Yy];simpa using q'.append hx) (hho ho)
     rwa[same] at key ⊢
    ·exact pt.2 ⟨λhm=>(pt.1 nd).1 ((hs.map _).subset hm),(hs.map _).nodup (pt.1 nd).2⟩
    ·rcases cH.1 hp with rfl|hp
     ·exact ⟨aH rfl,.inl hcK⟩
     ·have:=own p (fM _ (hs.subset hp));exact ⟨(aM (akS p hp).1).trans this.1,.inl this.2⟩
    ·exact (aM λ(e0:new=(g K).n)=>by rw[e0,hH] at hn;cases hn).trans hn
def asB (b:Builtin) (op:Op):Option ((Operand×Operand)×TypeId×TypeId):=
 match op with
 | .call c=>(match c.callee with
  | .builtin b'=>aP (decide (b'=b)) (match c.args.toList,c.argTypes.toList with
   | [a,y],[t1,t2]=>some ((a,y),t1,t2)
   |_,_=>none) none
  |_=>none)
 |_=>none
def anS {b:Builtin} {op:Op} (h:asB b op=some q):∃c,op= .call c/\c.callee= .builtin b/\c.args.toList= [q.1.1,q.1.2]/\c.argTypes.toList= [q.2.1,q.2.2]:=by
 unfold asB at h;split at h
 ·rename_i c;split at h
  ·rename_i b' hc;obtain ⟨h1,h2⟩:=aV h;clear h;have e:b'=b:=by simpa using h1
   split at h2
   ·rename_i ha ht;cases h2;exact ⟨c,rfl,by rw[hc,e],ha,ht⟩
   ·cases h2
  ·cases h
 ·cases h
def auW (s:LS) (y:AV) (d:bP):Option ((Nat×Nat)×Nat):=
 match y with
 | .ms K sz 0 n=>some ((K,n),sz)
 | .lit .dD=>az d λK=>(match lk K s.bs with
  |some (.cy true _ sz _ [] _)=>some ((K,0),sz)
  |_=>none)
 |_=>none
def aBV {q:(Nat×Nat)×Nat} (h:auW s y d=some q):y≠ .undef/\∀{F:Hf} {g:Gb} {Y:Nat->Ow} {c:Nat->bP} {T:Tf} {H:Hf} {v:SV},Rel F g Y c s T H->VA F g v y->VA F g v (.ms q.1.1 q.2 0 q.1.2):=by
 unfold auW at h;split at h
 ·cases h;exact ⟨by simp,λ_ hv=>hv⟩
 ·obtain ⟨K,_,h⟩:=aq h;split at h
  ·rename_i hb;cases h;refine ⟨by simp,λr hv=> ?_⟩
   cases hv;rcases r.cy hb with ⟨_,_,hbf,_⟩|⟨_,_,_,_,_,hz,_⟩
   ·exact .rl _ hbf
   ·exact absurd rfl (hz rfl)
  ·cases h
 ·cases h
def avs (E:Env) (pn:Nat->Bool) (s:LS) (d:bP) (op:Op) (w:Bool) (A:bA->Nat->bA->Prop) (fQ:bA->bA->bA) (fn:Nat->Nat) (jH:bA->Bool) (R:bA) (ob:Prop->cB):Option o7:=
 az (asB .append op) λq=>bU (P6 E q.2.1) (E.ty.get q.2.2) λp i2=>az (auW s (dR s.ts q.1.1) d) λk=>(match lk k.1.1 s.bs with
  |some (.cy z e sz l Q _)=>az (asQ s p.2.size l (dR s.ts q.1.2) (A Q k.1.2) R ob) λsc=>
   aP ((pT p.2&&(Iw i2.desc&&jH sc.R))&&((Nat.beq k.2 p.2.size&&(Nat.beq sz p.2.size&&Nat.beq e p.1))&&(!pn k.1.1 && !lO k.1.1 (ku ((sc.o (Nat.mul k.1.2 p.2.size)).map (·.2))))))
    (some ⟨sc.Eh,(s.nN k.1.1).set k.1.1 (.cy (w&&z) e sz l (fQ Q sc.R) (sc.o (Nat.mul k.1.2 p.2.size))),.ms k.1.1 sz 0 (fn k.1.2),[k.1.1]⟩) none
  |_=>none)
def aio {op:Op} {w:Bool} {A:bA->Nat->bA->Prop} {jH:bA->Bool} {ob:Prop->cB} (hAP:∀Q n R,A Q n R->jH R=true->VO w Q n (fQ Q R) (fn n) R) (gO:∀P,(ob P).need=P) {r:o7} (h:avs E pn s d op w A fQ fn jH R ob=some r):ui E pn op s r:=by
 obtain ⟨⟨⟨a,y⟩,t1,t2⟩,h1,h0⟩:=aq h;clear h;obtain ⟨cl,rfl,sZ,Jf,hc3⟩:=anS h1;obtain ⟨p,i2,h2,h3,h⟩:=bp h0;clear h0;obtain ⟨⟨⟨K,n⟩,sz0⟩,h4,h⟩:=aq h;dsimp only at h;split at h
 ·rename_i z e sz l Q o hb;obtain ⟨sc,h5,h⟩:=aq h;obtain ⟨h6,h⟩:=aV h;cases h;simp only[bF] at h6;obtain ⟨⟨k1,k2,k8⟩,⟨k3,k4,k5⟩,k6,k7⟩:=h6;intro hh;obtain ⟨hA0,hS⟩:=aBm gO h5 hh;have hA:=hAP _ _ _ hA0 k8;obtain ⟨d1,d2⟩:=aBV h4;obtain rfl:=(beq_iff _ _).1 k3;obtain rfl:=(beq_iff _ _).1 k4;obtain rfl:=(beq_iff _ _).1 k5;obtain ⟨i,hi,he,hie⟩:=Al h2;rw[<-hA.len,<-hA.eq];refine .boxG (λr=>r.nN K) λ{F g Y c T H new} r hn=> ?_
  obtain ⟨v,v1,v2⟩:=r.val rfl d1;obtain ⟨x,w1,w2⟩:=r.val rfl hS.1;obtain ⟨xs,x1,x2,x3,x4⟩:=hS.2 r w2;obtain ⟨v',us,gk,L',u1,u2,u3,u4,u5,u6,u7⟩:=alV (z':=w&&z) r hn hi he hie k1 (d2 r v2) x1 x2 x3 x4 ((λhm=>Ll (by simpa using k7) K hm rfl)) hA.hn hA.n6 hA.r6 (λhz=>by rw[bF] at hz;exact ⟨hz.2,hA.hw hz.1⟩) hb
  refine ⟨v',us,gk,L',?_,u2,u3,u4,u5,u6,.inr ⟨by simpa using k6,aqV s K⟩,u7⟩
  show rZ E T H new cl=_;unfold rZ;rw[sZ];show az (fT T cl.args.toList) (λaa=>rk E H new .append aa cl.argTypes.toList)=_
  rw[Jf,hc3];have e1:fT T [a,y]=some [v,x]:=by
   show bU (cD T a) (bU (cD T y) (some []) λv l=>some (v::l)) (λv l=>some (v::l))=_
   rw[v1,w1];rfl
  rw[e1];show az (E.ty.get t2) (λi=>aP (Iw i.desc) (nK E H new t1 v x) none)=_
  rw[j4 h3,k2];exact u1
 ·cases h
def appI (E:Env) (pn:Nat->Bool) (s:LS) (d:bP) (op:Op) (w:Bool) (R Q':bA) (n':Nat) (ob:Prop->cB):Option o7:=avs E pn s d op w (λQ n R=>VO w Q n Q' n' R) (λ_ _=>Q') (λ_=>n') (λ_=>true) R ob
def TapP (Q:bA) (n:Nat):Prop:=n=Q.length/\n<=1000000
def tapI (E:Env) (pn:Nat->Bool) (s:LS) (d:bP) (op:Op) (ob:Prop->cB):Option o7:=avs E pn s d op true (λQ n _=>TapP Q n) (λQ R=>Q++R) Nat.succ (λR=>Nat.beq R.length 1) [] ob
def aCm {op:Op} {w:Bool} {ob:Prop->cB} (gO:∀P,(ob P).need=P) {r:o7} (h:appI E pn s d op w R Q' n' ob=some r):ui E pn op s r:=aio (λ_ _ _ h _=>h) gO h
def aza {op:Op} {ob:Prop->cB} (gO:∀P,(ob P).need=P) {r:o7} (h:tapI E pn s d op ob=some r):ui E pn op s r:=aio (λQ n R h hc=>by
 obtain ⟨rfl,h6⟩:=h;have hc:R.length=1:=(beq_iff _ _).1 hc;exact ⟨λ_=>rfl,dg _,h6,by omega,by rw[xv],by rw[gD,hc]⟩) gO h
end
section
variable {F F':Hf} {g g':Gb} {Y:Nat->Ow} {c:Nat->bP} {s s':LS} {T:Tf} {H:Hf} {E:Env} {pn:Nat->Bool}
def cvS (m e s:Nat) (x:AV):AV:=
 match x with
 | .lit .dD=>.sl m e s 0 []
 | .sl m' e' s' n Q=>.sl (aP (Nat.beq m 2||(Nat.beq m 0&&Nat.beq m' 1)) m m') e' s' n Q
 |x=>x
def aEZ {m e sz:Nat} (q:VA F g v x):VA F g v (cvS m e sz x):=by
 unfold cvS;split
 ·cases q;exact .nil _ _ _
 ·rw[bG];split
  ·rename_i h;have hm:m=2\/m=0:=by
    rw[pC,bF] at h;exact h.imp (beq_iff _ _).1 λh=>(beq_iff _ _).1 h.1
   cases q with
   |nil=>exact .nil _ _ _
   |sle=>
    rcases hm with rfl|rfl
    ·exact .sle _ _
    ·cases h
   |sl hn hF hc _ hu hl q=>exact .sl hn hF hc (λe=>by omega) hu hl q
  ·exact q
 ·exact q
def cvG (k:bf->bf) (x:AV):AV:=
 match x with
 | .agg cs=>.agg (k cs)
 | .lit (.agg vs)=>.agg (k (wu vs))
 | .cS cs=>.cS (k cs)
 |x=>x
def arl {k:bf->bf} (hk:∀{vs xs},dz F g vs xs->dz F g vs (k xs)) (q:VA F g v x):VA F g v (cvG k x):=by
 unfold cvG;split
 ·cases q with|agg h=>exact .agg (hk h)
 ·cases q;exact .agg (hk sG)
 ·cases q with|cS h=>exact .cS (hk h)
 ·exact q
mutual
def cv:AV->AV->AV
 | .sl m e s _ _,x=>cvS m e s x
 | .agg ws,x=>cvG (λxs=>Jy ws xs) x
 | .cS ws,x=>cvG (λxs=>Jy ws xs) x
 | .undef,_=>.undef
 |_,x=>x
def Jy:bf->bf->bf
 |w::ws,x::xs=>cv w x::Jy ws xs
 |_,xs=>xs
end
mutual
def CK:∀{w x:AV} {v:SV},VA F g v x->VA F g v (cv w x)
 | .sl m e s _ _,_,_,q=>aEZ q
 | .agg ws,x,v,q=>arl (λq=>ES q) q
 | .cS ws,x,v,q=>arl (λq=>ES q) q
 | .undef,_,v,_=>.undef v
 | .lit _,_,_,q| .ju _,_,_,q| .fn _ _ _,_,_,q| .el _ _ _ _,_,_,q| .ms _ _ _ _,_,_,q| .mp _,_,_,q| .it _,_,_,q=>q
def ES:∀{ws xs:bf} {vs:aY},dz F g vs xs->dz F g vs (Jy ws xs)
 | [],_,_,q=>q
 |_::_,_,_,.nil=>.nil
 |_::_,_,_,.cons h t=>.cons (CK h) (ES t)
end
def cvO:fy->fy->fy
 |w::ws,p::o=>(p.1,cv w.2 p.2)::cvO ws o
 |_,o=>o
def ark {svs:aY}:∀{w o:fy},HoA F g svs o->HoA F g svs (cvO w o)
 | [],_,h=>h
 |_::_,[],h=>h
 |w::ws,p::o,h=>λq hq=>by
  rcases cH.1 (show q∈(p.1,cv w.2 p.2)::cvO ws o from hq) with rfl|hq
  ·obtain ⟨v,v1,v2⟩:=h p (by simp)
   exact ⟨v,v1,CK v2⟩
  ·exact ark (λp hp=>h p (fM _ hp)) q hq
def cvB (w b:Bx):Bx:=
 match w,b with
 | .flat _ ws,.flat e cs=>.flat e (Jy ws cs)
 | .cy z' _ _ _ _ o',.cy z e s l Q o=>.cy (z&&z') e s l Q (cvO o' o)
 |_,b=>b
def aFa {w:Bx} (q:eH F g k b L):eH F g k (cvB w b) L:=by
 unfold cvB;split
 ·cases q with|flat q=>exact .flat (ES q)
 ·rename_i o' z e s l Q o;cases q with
  |nil hb=>cases o'<;>exact .nil hb
  |cy hb hz hu hc q ho=>exact .cy hb (λh=>hz (kK.1 h).1) hu hc q (ark ho)
 ·exact q
def avp (ts:fy):Option Operand->Option (Option Int)
 |none=>some none
 |some x=>(match dR ts x with| .lit (.int _ (.lit n))=>some (some n)|_=>none)
def Qd (r:Rel F g Y c s T H) {o:Option Operand} {b:Option Int} {d:Nat} (hb:avp s.ts o=some b) (hn:b.getD d=(n:Int)):∃c,j0 T o=some c/\c.getD d=n/\(d=0\/d=n->n=0->nr c=true):=by
 cases o with
 |none=>
  cases hb;exact ⟨none,rfl,Sz hn,λ_ _=>rfl⟩
 |some x=>
  have hb:(match dR s.ts x with| .lit (.int _ (.lit n))=>some (some n)|_=>none)=some b:=hb
  split at hb
  ·rename_i k m hv;cases hb;obtain rfl:m=(n:Int):=hn;obtain ⟨v,v1,v2⟩:=r.val hv (by simp)
   cases v2;exact ⟨some n,by show az (cD T x) (λv=>az (kY v) λn=>some (some n))=_;rw[v1];rfl,rfl,λ_ h=>(beq_iff _ _).2 h⟩
  ·cases hb
def xG {a:Operand} {hi:Option Operand} {c2:bP} {ie:TI} (sX:E.ty.get t=some i) (hd:qL i.desc=some e) (he:E.ty.get e=some ie) (hv:cD T a=some v) (h1:j0 T lo=some c1) (h2:j0 T hi=some c2):
  qQ E (.slice t a lo hi none) T H new=same (Iq v E e c1 c2 none):=by
 show one T a (λv=>rP (j0 T lo) (j0 T hi) (some none) λl u m=>same (A4 E t v l u m))=_
 unfold one;rw[hv,h1,h2];show same (A4 E t v c1 c2 none)=_;unfold A4;rw[sX];show same (aoJ i.desc E v c1 c2 none)=_;rw[uF hd];show same (az (E.ty.get e) λ_=>Iq v E e c1 c2 none)=_
 rw[he];rfl
def Z3 {ie:TI} {id l u:Nat} {cp:Cp} {c2:bP} (hie:E.ty.get e=some ie) (d1:c1.getD 0=l) (d2:c2.getD n=u) (hlu:l<=u) (hu:u<=n) (hc:adN e n cp):Iq (.sl id off n cp) E e c1 c2 none=some (zt id off l u ie.size cp):=by
 show xH E e id off n cp c1 c2 none=_;unfold xH;rw[j4 hie,d1,d2];have e1:(YK cp e&&(Nat.ble l u&&(Nat.ble u (reach cp n)&&akr none u (reach cp n))))=true:=by
  rw[(bV _ _).2 hlu];cases cp with
  |k m=>rw[show Nat.ble u (reach (.k m) n)=true from (bV _ _).2 (jf hu hc)];rfl
  |u e'=>rw[show Nat.ble u (reach (.u e') n)=true from (bV _ _).2 hu,show YK (.u e') e=true from (beq_iff _ _).2 hc];rfl
 rw[e1];rfl
def adM (lo hi:Int) (n l u:Nat):Prop:=lo=(l:Int)/\hi=(u:Int)/\l<=u/\u<=n
def CutR (Q:bA) (lo hi:Int) (R:bA) (n:Nat):Prop:=∃l u,adM lo hi Q.length l u/\(Q.drop l).take (u-l)=R/\R.length=n
def abZ (m:Nat) (lo:Option Operand):Nat:= @Option.rec _ (λ_=>Nat) (aP (Nat.beq m 2) 2 0) (λ_=>2) lo
def aro {m:Nat} (h:abZ m lo=1):False:=by
 unfold abZ at h;cases lo with
 |none=>have h:aP (Nat.beq m 2) 2 0=1:=h;rw[bG] at h;split at h<;>cases h
 |some=>cases h
def asC (c:Cp) (a b:Nat):FX (FX c a) b=FX c (a+b):=by
 cases c with
 |k m=>exact bM Cp.k (Nat.sub_sub m a b)
 |u e=>rfl
def avg {id l u s':Nat} {m:Nat} {cp:Cp} {e':TypeId} (hn:Q.length=n) (hF:jb (F id) off (n*s')=some (e',svs)) (hu:∀r∈Q,r.length=s') (hl:off+n*s'<=svs.length) (hq:dz F lz ((svs.drop off).take (n*s')) Q.flatten) (h1:l<=u) (h2:u<=n) (hc:adN e n cp) (h0:lo=none->l=0):VA F g (zt id off l u s' cp) (.sl (abZ m lo) e s' (u-l) ((Q.drop l).take (u-l))):=by
 subst hn;have hlen:((Q.drop l).take (u-l)).length=u-l:=by rw[dZ,iE];omega
 have jG:∀r∈(Q.drop l).take (u-l),r.length=s':=λr hr=>hu r (pE (qC hr))
 have hle:l*s'+(u-l)*s'<=Q.length*s':=by rw[<-gA];exact kJ _ (by omega)
 have hq2:dz F lz ((svs.drop (off+l*s')).take ((u-l)*s')) ((Q.drop l).take (u-l)).flatten:=by
  have:=(hq.drop (l*s')).take ((u-l)*s');rwa[tR,oB,tU,fE (by omega),<-abL hu] at this
 unfold zt;rw[bG,bG];split
 ·rename_i e0;obtain rfl:=(beq_iff _ _).1 e0;rw[lT] at hle hq2;rw[Nat.sub_zero] at*;refine .sl hlen (wK hF (dg _) (by omega)) ?_ (λh=>(aro h).elim) jG (by omega) (by simpa using hq2)
  cases cp with
  |k m=>exact jf h2 hc
  |u e'=>exact hc
 ·rename_i e0;split
  ·refine .sl hlen (wK hF (show off<=off+l*s' from xw _ _) (show off+l*s'+(u-l)*s'<=off+Q.length*s' by omega)) ?_ (λh=>(aro h).elim) jG (show off+l*s'+(u-l)*s'<=svs.length by omega) hq2
   cases cp with
   |k m=>exact (show u-l<=m-l from Nat.sub_le_sub_right (jf h2 hc) l)
   |u e'=>exact hc
  ·rename_i cV;obtain rfl:u=l:=by
    have:¬l<u:=λhc=>cV ((bV _ _).2 hc)
    omega
   rw[nR,DR];cases lo with
   |none=>exact absurd ((beq_iff _ _).2 (h0 rfl)) e0
   |some=>exact .sle e s'
def avh (E:Env) (s:LS) (op:Op) (l u:Nat) (R:bA) (n':Nat) (ob:Prop->cB):Option o7:=
 match op with
 | .slice t a lo hi none=>az (P6 E t) λp=>bU (avp s.ts lo) (avp s.ts hi) λb1 b2=>(match dR s.ts a with
  | .sl m e sz n Q=>aP (Nat.beq e p.1&&Nat.beq sz p.2.size) (some ⟨[ob (CutR Q (b1.getD 0) (b2.getD (n:Nat)) R n')],s,.sl (abZ m lo) e sz n' R,[]⟩) none
  | .ms K sz lo0 n=>(match lk K s.bs with
   |some (.cy _ e D2 _ Q _)=>aP (Nat.beq e p.1&&(Nat.beq sz p.2.size&&Nat.beq D2 p.2.size)) (some ⟨[ob (adM (b1.getD 0) (b2.getD (n:Nat)) n l u/\lo0+n<=Q.length)],s,.ms K sz (Nat.add lo0 l) (Nat.sub u l),[]⟩) none
   |_=>none)
  |_=>none)
 |_=>none
def aBY {op:Op} {l u:Nat} {ob:Prop->cB} (gO:∀P,(ob P).need=P) {r:o7} (h:avh E s op l u R n' ob=some r):ui E pn op s r:=by
 unfold avh at h;split at h
 ·rename_i t a lo hi;obtain ⟨p,hp,h⟩:=aq h;obtain ⟨b1,b2,h1,h2,h⟩:=bp h;obtain ⟨i,sX,he,hie⟩:=Al hp;split at h
  ·rename_i m e sz n Q ha;obtain ⟨h3,h⟩:=aV h;cases h;rw[bF] at h3;obtain rfl:=(beq_iff _ _).1 h3.1;obtain rfl:=(beq_iff _ _).1 h3.2;intro hh;have hc:=hh.1;rw[gO] at hc;obtain ⟨l,u,⟨c1,c2,c3,c4⟩,rfl,rfl⟩:=hc;refine .val λ{F g Y c T H} r=> ?_
   obtain ⟨v,v1,v2⟩:=r.val ha (by simp)
   have hn:Q.length=n:=by cases v2<;>first|rfl|assumption
   rw[hn] at c4;have hlen:((Q.drop l).take (u-l)).length=u-l:=by rw[dZ,iE];omega
   obtain ⟨d1,f1,f2,f3⟩:=Qd (d:=0) r h1 c1;obtain ⟨d2,k1,k2,k3⟩:=Qd (d:=n) r h2 c2;have h0:lo=none->l=0:=λe=>by subst e;cases h1;exact (Sz c1).symm
   rw[hlen];generalize hm:abZ m lo=m' at*;cases v2 with
   |nil=>
    have hu0:u=0:=DP.1 c4;have ur:l=0:=by omega
    subst hu0;subst ur;refine ⟨.dD,λnew=> ?_,.nil _ _ _⟩
    rw[xG sX he hie v1 f1 k1];show same (aP (nr d1&&(nr d2&&true)) (some SV.dD) none)=_;rw[f3 (.inl rfl) rfl,k3 (.inl rfl) rfl];rfl
   |sle=>
    have hu0:u=0:=DP.1 c4;have ur:l=0:=by omega
    subst hu0;subst ur;refine ⟨.sle,λnew=> ?_,?_⟩
    ·rw[xG sX he hie v1 f1 k1];show same (aP (nr d1&&(nr d2&&true)) (some SV.sle) none)=_;rw[f3 (.inl rfl) rfl,k3 (.inl rfl) rfl];rfl
    ·rw[<-hm];cases lo<;>exact .sle _ _
   |sl _ hF hct _ hu hl q=>
    refine ⟨_,λnew=> ?_,by rw[<-hm];exact avg hn hF hu hl q c3 c4 hct h0⟩
    rw[xG sX he hie v1 f1 k1,Z3 hie f2 k2 c3 c4 hct];rfl
  ·rename_i K sz lo0 n ha;split at h
   ·rename_i z e D2 l' Q o hb;obtain ⟨h3,h⟩:=aV h;cases h;simp only[bF] at h3;obtain rfl:=(beq_iff _ _).1 h3.1;obtain rfl:=(beq_iff _ _).1 h3.2.1;obtain rfl:=(beq_iff _ _).1 h3.2.2;intro hh;have hc:=hh.1;rw[gO] at hc;obtain ⟨⟨c1,c2,c3,c4⟩,hn⟩:=hc;refine .val λ{F g Y c T H} r=> ?_
    obtain ⟨v,v1,v2⟩:=r.val ha (by simp)
    obtain ⟨d1,f1,f2,f3⟩:=Qd (d:=0) r h1 c1;obtain ⟨d2,k1,k2,k3⟩:=Qd (d:=n) r h2 c2;show ∃v,(∀new,_)/\VA F g v (.ms K p.2.size (lo0+l) (u-l));cases v2 with
    |rl _ o6=>
     have hu0:u=0:=DP.1 c4;have ur:l=0:=by omega
     subst hu0;subst ur;refine ⟨.dD,λnew=> ?_,.rl _ o6⟩
     rw[xG sX he hie v1 f1 k1];show same (aP (nr d1&&(nr d2&&true)) (some SV.dD) none)=_;rw[f3 (.inl rfl) rfl,k3 (.inl rfl) rfl];rfl
    |xb _ _ h0=>
     have hu0:u=0:=DP.1 c4;have ur:l=0:=by omega
     subst hu0;subst ur;refine ⟨.sle,λnew=> ?_,.xb _ _ h0⟩
     rw[xG sX he hie v1 f1 k1];show same (aP (nr d1&&(nr d2&&true)) (some SV.sle) none)=_;rw[f3 (.inl rfl) rfl,k3 (.inl rfl) rfl];rfl
    |ms _ _ _ o6=>
     rcases r.cy hb with ⟨_,_,h,_⟩|⟨_,svs,L,_,hH,_,hu,jh,_,_⟩
     ·rw[h] at o6;cases o6
     have hct:adN p.1 n (FX (g K).c lo0):=by
      cases hκ:(g K).c with
      |k m=>rw[hκ] at jh;have:=jh.1;exact (show n<=m-lo0 by omega)
      |u e'=>rw[hκ] at jh;exact jh.1
     refine ⟨_,λnew=>by rw[xG sX he hie v1 f1 k1,Z3 hie f2 k2 c3 c4 hct];rfl,?_⟩
     unfold zt;rw[bG,bG];split
     ·rename_i e0;obtain rfl:=(beq_iff _ _).1 e0;exact .ms _ lo0 u o6
     ·rename_i e0;have e0:l≠0:=λh=>e0 ((beq_iff _ _).2 h)
      split
      ·rw[asC,show Nat.add (lo0*p.2.size) (Nat.mul l p.2.size)=(lo0+l)*p.2.size from (gA _ _ _).symm];exact .ms _ (lo0+l) (u-l) o6
      ·rename_i cV;obtain rfl:u=l:=by
        have:¬l<u:=λhc=>cV ((bV _ _).2 hc)
        omega
       rw[nR];exact .xb _ _ (by omega)
   ·cases h
  ·cases h
 ·cases h
def Ly (K:Nat):fy->Bool
 | []=>true
 |p::l=> !lO K (jF p.2)&&Ly K l
def PR (K:Nat):cL->Bool
 | []=>true
 |p::l=>(Nat.beq p.1 K|| !lO K p.2.keys)&&PR K l
def Gm {l:bq} (h:(!lO K l)=true):K∉l:=λhm=>Ll (by simpa using h) K hm rfl
def NI {K:Nat}:∀{ts:fy},Ly K ts=true->∀t x,lk t ts=some x->K∉jF x
 |(k,y)::l,hf,t,x,hx=>by
  have hf:=kK.1 (show (!lO K (jF y)&&Ly K l)=true from hf);rw[dy] at hx;split at hx
  ·cases hx;exact Gm hf.1
  ·exact NI hf.2 t x hx
def abJ {K:Nat}:∀{bs:cL},PR K bs=true->∀k b,k≠K->lk k bs=some b->K∉b.keys
 |(k',b')::l,hf,k,b,cY,hx=>by
  have hf:=kK.1 (show ((Nat.beq k' K|| !lO K b'.keys)&&PR K l)=true from hf);rw[dy] at hx;split at hx
  ·rename_i e;cases hx;rcases (pC _ _).mp hf.1 with h|h
   ·exact absurd (e.trans ((beq_iff _ _).1 h)) cY
   ·exact Gm h
  ·exact abJ hf.2 k b cY hx
def Lz (s:LS) (K:Nat):Bool:=Ly K s.ts&&PR K s.bs
def BC (hf:Lz s K=true):s.free K:=
 have hf:=kK.1 (show (Ly K s.ts&&PR K s.bs)=true from hf)
 ⟨NI hf.1,abJ hf.2⟩
def MkP (n1 n2:Int) (z:bf) (Q:bA) (l:Nat):Prop:=∃m:Nat,n1=(l:Int)/\n2=(m:Int)/\l<=m/\m<=1000000/\List.replicate l z=Q
def tabN {id s:Nat} {cp:Cp} (h:g K=⟨id,cp,true⟩) (hu:∀r∈Q,r.length=s) (hc:yv e s Q.length svs.length cp) (q:TR F l (svs.take (Q.length*s)) Q []):eH F g K (.cy false e s l Q []) [(id,.cells e svs)]:=by
 have:=eH.cy (F:=F) (g:=g) (K:=K) (z:=false) (e:=e) (by rw[h]) (λh=>by cases h) hu (by rw[h];exact hc) q (o:= []) (λp hp=>by cases hp)
 rwa[h] at this
def mkC (sh:Sh) (w:AV) (v:SV):AV:=
 match sh with
 | .d=>cv w (.lit v)
 | .o b _=>(match v,w with
  | .dD,.sl _ e s _ _=>wc b e s 0 []
  |_,_=>.undef)
def mkT:dW->bf->aY->bf
 |_,_,[]=> []
 |sh,ws,v::vs=>mkC (sh.headD .d) (ws.headD .dD) v::mkT sh.tail ws.tail vs
def aEM {F:Hf} {w:AV}:TC F sh v (mkC sh w v) []:=by
 cases sh with
 |d=>exact .d (CK (.lit v))
 |o b l=>
  show TC F (.o b l) v (match v,w with| .dD,.sl _ e s _ _=>wc b e s 0 []|_,_=>.undef) []
  split
  ·exact .nil
  ·exact .any _
def aaL {F:Hf}:∀{vs:aY} {sh:dW} {ws:bf},kb F sh vs (mkT sh ws vs) []
 | [],_,_=>.nil
 |v::vs,sh,ws=>.cons (a:= []) aEM aaL
def mkI (E:Env) (pn:Nat->Bool) (s:LS) (d:bP) (op:Op) (z:bf) (Q:bA) (l:Nat) (sh:dW) (ob:Prop->cB):Option o7:=
 match op with
 | .makeSlice t a c=>bU (P6 E t) d λp K=>(match dR s.ts a,dR s.ts c with
  | .lit (.int _ (.lit n1)),.lit (.int _ (.lit n2))=>aP (pT p.2&&(!pn K&&Lz s K)) (some ⟨[ob (MkP n1 n2 (mkT sh z p.2.zero) Q l)],s.set K (.cy false p.1 p.2.size sh Q []),.ms K p.2.size 0 l,[K]⟩) none
  |_,_=>none)
 |_=>none
def aak {z:aY}:∀{l m:Nat},l<=m->(rep z m).take (l*z.length)=rep z l
 |0,_,_=>by simp[rep]
 |l+1,0,h=>by omega
 |l+1,m+1,h=>by
  show (z++rep z m).take _=z++rep z l;rw[gA,pq,Aw,DV,aak (by omega)]
def aEL {op:Op} {z:bf} {l:Nat} {sh:dW} {ob:Prop->cB} (gO:∀P,(ob P).need=P) {r:o7} (h:mkI E pn s d op z Q l sh ob=some r):ui E pn op s r:=by
 unfold mkI at h;split at h
 ·rename_i t a c;obtain ⟨p,K,hp,hd,h⟩:=bp h;split at h
  ·rename_i n1 _ n2 ha hc;obtain ⟨h1,h⟩:=aV h;cases h;simp only[bF] at h1;obtain ⟨k1,k2,k3⟩:=h1;intro hh;have hm:=hh.1;rw[gO] at hm;obtain ⟨m,rfl,rfl,hlm,hm6,rfl⟩:=hm;obtain ⟨i,hi,he,hie⟩:=Al hp;have mD:=MY k1;have hzl:(mkT sh z p.2.zero).length=p.2.size:=by rw[<-(aaL (F:=λ_=>none)).length,mD]
   refine .lay (by simpa using k2) (BC k3) λ{F g Y c T H new} r=> ?_
   obtain ⟨v,v1,v2⟩:=r.val ha (by simp)
   obtain ⟨w,w1,w2⟩:=r.val hc (by simp)
   cases v2;cases w2;refine ⟨.sl new 0 l (.k m),.cells p.1 (rep p.2.zero m),.k m,?_,λg' e1 e2=>⟨rl e1,tabN e1 (λr hr=>by rw[List.eq_of_mem_replicate hr];exact hzl) ?_ ?_⟩⟩
   ·show two T a _ (λu v=>bU (kY u) (kY v) (Be E new t))=_
    rw[two,v1,w1];show Be E new t l m=_;unfold Be;rw[j4 hi,j4 he,j4 hie,(bV _ _).2 hlm,(bV _ _).2 hm6,k1];rfl
   ·have:∀m,(rep p.2.zero m).length=m*p.2.size:=λm=>by
     rw[(aaj (F:=λ_=>none) (g:=lz) sG m).length,UI,wu,nQ,mD]
    rw[tQ];exact ⟨hlm,this m⟩
   ·rw[tQ,<-mD,aak hlm];have:∀l,TR F sh (rep p.2.zero l) (List.replicate l (mkT sh z p.2.zero)) []:=λl=>by
     induction l with
     |zero=>exact .nil
     |succ l ih=>rw[Sy];exact .cons (a:= []) (b:= []) aaL ih
    exact this l
  ·cases h
 ·cases h
def divL (op:BinOp) (k:IntKind) (m n:Int):Option AV:=
 match op with
 | .rem=>some (.int k (m.tmod n))
 | .quo=>some (.int k (k.wrap (m.tdiv n)))
 |_=>none
def asy (E:Env) (s:LS) (op:Op) (n:Nat) (ob:Prop->cB):Option o7:=
 match op with
 | .binOp o _ a b _=>(match dR s.ts a,dR s.ts b with
  | .lit (.int k (.lit x)),.lit (.int k' (.lit y))=>aP (gF k k') (az (divL o k x y) λz=>some ⟨[ob (y≠0)],s,z,[]⟩) none
  | .lit (.str x),.lit (.str y)=>(match o with
   | .add=>some ⟨[ob (x.size+y.size<=1000000)],s,.str (x++y),[]⟩
   |_=>none)
  |_,_=>none)
 | .index t a ix=>az (E.ty.get t) λi=>(match dR s.ts a,dR s.ts ix with
  | .lit (.str b),.lit (.int _ (.lit m))=>aP (Ew i.desc) (some ⟨[ob ((yW b.data.toList m).map UInt8.toNat=some n)],s,.int .u8 (n:Int),[]⟩) none
  |_,_=>none)
 | .next it true=>(match dR s.ts it with
  | .it K=>(match lk K s.bs with
   |some (.iter b pos)=>aP (Nat.beq n 0) (some ⟨[ob (¬pos<b.size)],s,.cS [.bool false],[]⟩) (some ⟨[ob (pos<b.size)],s.set K (.iter b (Nat.add pos (Utf8.decode b pos).2)),.cS [.bool true,.int .i64 (pos:Int),.int .i32 (Utf8.decode b pos).1],[K]⟩)
   |_=>none)
  |_=>none)
 |_=>none
def asZ {k:IntKind} {m n:Int} (hn:n≠0):nF P (binOp .rem t (.int k m) (.int k n))=some (.int k (m.tmod n)):=by
 have:binOp .rem t (.int k m) (.int k n)=Sem.pure (.int k (m.tmod n)):=by
  simp[binOp,Op.intDiv,hn,pure]
 rw[this];rfl
def ata {k:IntKind} {m n:Int} (hn:n≠0):nF P (binOp .quo t (.int k m) (.int k n))=some (.int k (k.wrap (m.tdiv n))):=by
 have:binOp .quo t (.int k m) (.int k n)=Sem.pure (.int k (k.wrap (m.tdiv n))):=by
  simp[binOp,Op.intDiv,hn,pure]
 rw[this];rfl
def avl {a b:ByteArray} (hn:a.size+b.size<=1000000):nF P (binOp .add t (.string a) (.string b))=some (.string (a++b)):=by
 have h1:¬(((a.size+b.size:Nat):Int)>IntKind.i64.max):=by
  have:IntKind.i64.max=9223372036854775807:=by decide
  omega
 have:binOp .add t (.string a) (.string b)=Sem.pure (.string (a++b)):=by
  show Op.stringOp .add a b=_;unfold Op.stringOp;simp only[];rw[aM h1];rfl
 rw[this];rfl
def aaX (r:Rel F g Y c s T H) {pos:Nat} {b:ByteArray} (ha:dR s.ts it= .it K) (hb:lk K s.bs=some (.iter b pos)):Y K= [((g K).n,.nA b pos)]/\∀new,qQ E (.next it true) T H new=some (xO (g K).n (b,pos)):=by
 obtain ⟨v,v1,v2⟩:=r.val ha (by simp)
 cases v2;obtain ⟨q,_,q3⟩:=r.bx K _ hb;generalize Y K=L at q q3;cases q with
 |iter=>
 refine ⟨rfl,λnew=> ?_⟩
 show one T it (yH H true)=_;rw[one,v1];show az (Ls (H (g K).n)) (λp=>some (xO (g K).n p))=_
 rw[(q3 ((g K).n,.nA b pos) (by simp)).1];rfl
def ayY {op:Op} {ob:Prop->cB} (gO:∀P,(ob P).need=P) {r:o7} (h:asy E s op n ob=some r):ui E pn op s r:=by
 unfold asy at h;split at h
 ·rename_i o t a b t2;split at h
  ·rename_i k x k' y ha hb;obtain ⟨hk,h⟩:=aV h;obtain ⟨z,hz,h⟩:=aq h;cases h;obtain rfl:=Nu hk;intro hh;have hn:=hh.1;rw[gO] at hn;exact .bi (f:=λv u=>same (JE E _ _ _ _ v u)) (λ_ _ _=>rfl) ha (by simp) hb (by simp) λ{F g v w} hv hw=>by
    cases hv;cases hw;cases o<;>first|(cases hz;done)|skip
    ·cases hz;refine ⟨.int k (.lit (k.wrap (x.tdiv y))),?_,.lit _⟩;show same (Gg (nF E.P (binOp .quo t (.int k x) (.int k y))))=_;rw[ata hn];rfl
    ·cases hz;refine ⟨.int k (.lit (x.tmod y)),?_,.lit _⟩;show same (Gg (nF E.P (binOp .rem t (.int k x) (.int k y))))=_;rw[asZ hn];rfl
  ·rename_i x y ha hb;split at h
   ·cases h;intro hh;have hn:=hh.1;rw[gO] at hn;exact .bi (f:=λv u=>same (JE E _ _ _ _ v u)) (λ_ _ _=>rfl) ha (by simp) hb (by simp) λ{F g v w} hv hw=>by
     cases hv;cases hw;refine ⟨.str (x++y),?_,.lit _⟩;show same (Gg (nF E.P (binOp .add t (.string x) (.string y))))=_;rw[avl hn];rfl
   ·cases h
  ·cases h
 ·obtain ⟨i,hi,h⟩:=aq h;split at h
  ·rename_i b _ m ha yU;obtain ⟨hd,h⟩:=aV h;cases h;intro hh;have hn:=hh.1;rw[gO] at hn;obtain ⟨cc,h1,h2⟩:=vV.1 hn;obtain ⟨j,rfl,h3⟩:=MW h1;exact .bi (f:=λv u=>az (kY u) λk=>vM E _ k v) (λ_ _ _=>rfl) ha (by simp) yU (by simp) λ{F g v w} hv hw=>by
    cases hv;cases hw;refine ⟨_,?_,.lit _⟩;show vM E _ j (.str b)=_;unfold vM;rw[j4 hi];generalize i.desc=d at hd;cases d<;>first|(cases hd;done)|skip
    show az (b.data.toList[j]?) (λb=>some (SV.int .u8 (.lit (.ofNat b.toNat)),([]:dN)))=_
    rw[j4 h3,<-h2];rfl
  ·cases h
 ·split at h
  ·rename_i K ha;split at h
   ·rename_i b pos hb;rw[bG] at h;split at h
    ·cases h;intro hh;have cV:=hh.1;rw[gO] at cV;refine .val λ{F g Y c T H} r=>⟨.cS [.bool false],λnew=> ?_,.cS (.cons (.lit _) .nil)⟩
     rw[(aaX r ha hb).2];have hx:Nat.ble (Nat.succ pos) b.size=false:=by
      cases hx:Nat.ble (Nat.succ pos) b.size with
      |false=>rfl
      |true=>exact absurd ((bV _ _).1 hx) cV
     show some (aP (Nat.ble (Nat.succ pos) b.size) _ _)=_;rw[hx]
    ·cases h;intro hh;have cV:=hh.1;rw[gO] at cV;refine .wr hb λ{F g Y c T H} r=> ?_
     obtain ⟨hφ,go⟩:=aaX (E:=E) r ha hb;refine ⟨.cS [.bool true,uz pos,.int .i32 (.lit (Utf8.decode b pos).1)],_,.nA b (pos+(Utf8.decode b pos).2),[],[],hφ,λnew=> ?_,.cS (.cons (.lit _) (.cons (.lit _) (.cons (.lit _) .nil))),.iter,.refl _⟩
     rw[go];show some (aP (Nat.ble (Nat.succ pos) b.size) _ _)=_;rw[(bV _ _).2 cV];rfl
   ·cases h
  ·cases h
 ·cases h
end
section
variable {F F':Hf} {g g':Gb} {Y:Nat->Ow} {c:Nat->bP} {s s':LS} {T:Tf} {H:Hf} {E:Env} {pn:Nat->Bool}
def akA:AV->AV->Option Bool
 | .lit (.str a),.lit (.str b)=>some (decide (a=b))
 | .lit (.bool a),.lit (.bool b)=>some (a==b)
 | .lit (.int k (.lit a)),.lit (.int k' (.lit b))=>aP (gF k k') (some (decide (a=b))) none
 |_,_=>none
def aaW:AV->UD->Bool
 | .lit (.str _),d=>Ew d
 | .lit (.bool _),d=>Lt d
 | .lit (.int k (.lit _)),d=>akG k d
 |_,_=>false
def qA (k:AV):List (AV×AV)->Option (Option (Nat×AV))
 | []=>some none
 |e::es=>
  match akA k e.1 with
  |some true=>some (some (0,e.2))
  |some false=>(match qA k es with|some (some p)=>some (some (p.1+1,p.2))|r=>r)
  |none=>none
def Nv {k:AV} {b:Bool} (hu:VA F g u k) (hv:VA F g' v x) (hb:akA k x=some b):sameKey u v=some b/\(b=true->k=x):=by
 unfold akA at hb;split at hb
 ·cases hb;cases hu;cases hv;exact ⟨by show some (De _ _)=_;rw[vD],λh=>by simp at h;rw[h]⟩
 ·cases hb;cases hu;cases hv;exact ⟨rfl,λh=>by simp at h;rw[h]⟩
 ·obtain ⟨hk,hb⟩:=aV hb;cases hb;cases hu;cases hv;exact ⟨by show aP (gF _ _) (some (Gu _ _)) none=_;rw[hk,AH],λh=>by simp at h;rw[h,Nu hk]⟩
 ·cases hb
def ahQ {k:AV} {d:UD} (hu:VA F g u k) (hd:aaW k d=true):IS u d=true/\(jF k).isEmpty=true:=by
 unfold aaW at hd;split at hd
 ·cases hu;exact ⟨hd,rfl⟩
 ·cases hu;exact ⟨hd,rfl⟩
 ·cases hu;exact ⟨(show (true&&akG _ d)=true by rw[hZ];exact hd),rfl⟩
 ·cases hd
def Ve {k:AV} {u:SV} (hu:VA F g u k):∀{es:List (AV×AV)} {ms:je} (j:Nat),dz F lz (ms.map (·.1)) (es.map (·.1))->dz F lz (ms.map (·.2.1)) (es.map (·.2))->
  (qA k es=some none->pQ u ms j=some none)/\∀i x,qA k es=some (some (i,x))->∃v c,pQ u ms j=some (some (j+i,v,c))/\VA F lz v x/\es[i]? =some (k,x)/\i<ms.length
 | [],[],j,_,_=>⟨λ_=>rfl,λi x h=>by cases h⟩
 | [],m::ms,j,h,_=>by cases h
 |e::es,[],j,h,_=>by cases h
 |e::es,m::ms,j,h1,h2=>by
  cases h1 with|cons a1 t1=>
  cases h2 with|cons a2 t2=>
  obtain ⟨i1,i2⟩:=Ve hu (es:=es) (ms:=ms) (Nat.add j 1) t1 t2;constructor
  ·intro hf;unfold qA at hf;unfold pQ;split at hf
   ·cases hf
   ·rename_i hk;rw[(Nv hu a1 hk).1];show pQ u ms (Nat.add j 1)=_;split at hf
    ·cases hf
    ·exact i1 hf
   ·cases hf
  ·intro i x hf;unfold qA at hf;unfold pQ;split at hf
   ·rename_i hk;cases hf;obtain ⟨q1,q2⟩:=Nv hu a1 hk;rw[q1];exact ⟨m.2.1,m.2.2,rfl,a2,by rw[q2 rfl];rfl,by simp⟩
   ·rename_i hk;rw[(Nv hu a1 hk).1];show ∃v c,pQ u ms (Nat.add j 1)=_/\_;split at hf
    ·rename_i p hp;cases hf;obtain ⟨v,c,b1,b2,b3,b4⟩:=i2 p.1 p.2 hp;refine ⟨v,c,?_,b2,by simpa using b3,by simpa using b4⟩
     rw[b1,show Nat.add j 1+p.1=j+(p.1+1) from by show j+1+p.1=_;omega]
    ·rename_i cY;exact absurd hf (cY _)
   ·cases hf
def qT (E:Env) (t:TypeId):Option (TI×TI):=az (E.ty.get t) λi=>az (Bh i.desc) λq=>bU (E.ty.get q.1) (E.ty.get q.2) λa b=>some (a,b)
def Wf {p:TI×TI} (h:qT E t=some p):∃i q,E.ty.get t=some i/\Bh i.desc=some q/\E.ty.get q.1=some p.1/\E.ty.get q.2=some p.2:=by
 obtain ⟨i,hi,h⟩:=aq h;obtain ⟨q,hq,h⟩:=aq h;obtain ⟨a,b,h1,h2,h⟩:=bp h;cases h;exact ⟨i,q,hi,hq,h1,h2⟩
def okM (ok:Bool) (v:AV) (b:Bool):AV:=aP ok (.cS [v,.bool b]) v
def apt {ok b:Bool} (h:VA F g v x):VA F g (okV ok v b) (okM ok x b):=by
 cases ok
 ·exact h
 ·exact .cS (.cons h (.cons (.lit _) .nil))
def PT (ok:Bool) (z:Option AV):Option (Nat×AV)->Option AV
 |some r=>some (okM ok r.2 true)
 |none=>az z λz=>some (okM ok z false)
def YH (es:List (AV×AV)) (k v:AV):Option (Nat×AV)->List (AV×AV)
 |some r=>es.set r.1 (k,v)
 |none=>es++ [(k,v)]
def dz.asU:∀{vs xs} {i:Nat} {v:SV} {x:AV},dz F g vs xs->VA F g v x->dz F g (vs.set i v) (xs.set i x)
 |_,_,_,_,_,.nil,_=>.nil
 |_,_,0,_,_,.cons _ t,k=>.cons k t
 |_,_,i+1,_,_,.cons h t,k=>.cons h (t.asU k)
def Rel.map (r:Rel F g Y c s T H) {K:Nat} {es:List (AV×AV)} (hb:lk K s.bs=some (.map es)):∃ms cl,Y K= [((g K).n,.map ms cl)]/\H (g K).n=some (.map ms cl)/\dz F lz (ms.map (·.1)) (es.map (·.1))/\dz F lz (ms.map (·.2.1)) (es.map (·.2)):=by
 obtain ⟨q,_,q3⟩:=r.bx K _ hb;generalize Y K=L at q q3;cases q with
 | @map _ ms cl hk hv=>exact ⟨ms,cl,rfl,(q3 ((g K).n,.map ms cl) (by simp)).1,hk,hv⟩
def atv (E:Env) (s:LS) (op:Op) (x:AV) (CH:List (AV×AV)) (ob:Prop->cB):Option o7:=
 match op with
 | .lookup t a c ok=>az (qT E t) λp=>(match dR s.ts a with
  | .mp K=>(match lk K s.bs with
   |some (.map es)=>aP (aaW (dR s.ts c) p.1.desc&&(jF x).isEmpty) (some ⟨[ob (∃f,qA (dR s.ts c) es=some f/\PT ok (ua p.2 (wu p.2.zero) 0) f=some x)],s,x,[]⟩) none
   |_=>none)
  |_=>none)
 | .mapUpdate t a c d=>az (qT E t) λp=>(match dR s.ts a with
  | .mp K=>(match lk K s.bs with
   |some (.map es)=>aP (aaW (dR s.ts c) p.1.desc) (az (Ek (dR s.ts d)) λx'=>aP (jF x').isEmpty (some ⟨[ob (∃f,qA (dR s.ts c) es=some f/\YH es (dR s.ts c) x' f=CH)],s.set K (.map CH),.cS [],[K]⟩) none) none
   |_=>none)
  |_=>none)
 |_=>none
def ahR {k:AV} {d:UD} (h:aaW k d=true):k≠ .undef:=λe=>by rw[e] at h;cases h
def aBH {op:Op} {ob:Prop->cB} (gO:∀P,(ob P).need=P) {r:o7} (h:atv E s op x CH ob=some r):ui E pn op s r:=by
 unfold atv at h;split at h
 ·rename_i t a k ok;obtain ⟨p,hp,h⟩:=aq h;split at h
  ·rename_i K ha;split at h
   ·rename_i es hb;obtain ⟨h1,h⟩:=aV h;cases h;rw[bF] at h1;intro hh;have hf:=hh.1;rw[gO] at hf;obtain ⟨f,hf,hx⟩:=hf;obtain ⟨i,q,hi,hq,e1,e2⟩:=Wf hp;refine .val λ{F g Y c T H} r=> ?_
    obtain ⟨v,v1,v2⟩:=r.val ha (by simp)
    obtain ⟨w,w1,w2⟩:=r.val rfl (ahR h1.1);cases v2;obtain ⟨ms,cl,_,hH,EE,wA⟩:=r.map hb;obtain ⟨m1,m2⟩:=Ve w2 0 EE wA;have key:∃r,pQ w ms 0=some r/\∃u,Jn ok (ia p.2 p.2.zero 0) r=some u/\VA F g u x:=by
     cases f with
     |none=>
      obtain ⟨z,hz,hx⟩:=aq hx;cases hx;obtain ⟨u,u1,u2⟩:=vJ (sG (F:=F) (g:=lz) (vs:=p.2.zero)) hz;exact ⟨none,m1 hf,okV ok u false,by show az (ia p.2 p.2.zero 0) (λz=>some (okV ok z false))=_;rw[u1];rfl,(apt u2).qR h1.2⟩
     |some r=>
      cases hx;obtain ⟨v,c,b1,b2,_,_⟩:=m2 r.1 r.2 hf;exact ⟨_,b1,okV ok v true,rfl,(apt b2).qR h1.2⟩
    obtain ⟨r',k1,u,u1,u2⟩:=key;refine ⟨u,λnew=> ?_,u2⟩
    show two T a k (λa b=>same (sF E H t a b ok))=_
    rw[two,v1,w1];show same (sF E H t (.mp (g K).n) w ok)=_;unfold sF;rw[j4 hi,j4 hq,GZ e1 e2,(ahQ w2 h1.1).1];show same (az (az (j1 (H (g K).n)) λp=>some p.1) λes=>az (pQ w es 0) λr=>Jn ok (ia p.2 p.2.zero 0) r)=_
    rw[hH];show same (az (pQ w ms 0) λr=>Jn ok (ia p.2 p.2.zero 0) r)=_
    rw[k1];show same (Jn ok (ia p.2 p.2.zero 0) r')=_;rw[u1];rfl
   ·cases h
  ·cases h
 ·rename_i t a k d;obtain ⟨p,hp,h⟩:=aq h;split at h
  ·rename_i K ha;split at h
   ·rename_i es hb;obtain ⟨h1,h⟩:=aV h;obtain ⟨x',h2,h⟩:=aq h;obtain ⟨rfl,cY⟩:=oF h2;obtain ⟨h3,h⟩:=aV h;cases h;intro hh;have hf:=hh.1;rw[gO] at hf;obtain ⟨f,hf,rfl⟩:=hf;obtain ⟨i,q,hi,hq,e1,e2⟩:=Wf hp;refine .wr hb λ{F g Y c T H} r=> ?_
    obtain ⟨v,v1,v2⟩:=r.val ha (by simp)
    obtain ⟨w,w1,w2⟩:=r.val rfl (ahR h1);obtain ⟨u,u1,u2⟩:=r.val rfl cY;cases v2;obtain ⟨ms,cl,hφ,hH,EE,wA⟩:=r.map hb;obtain ⟨hlk,hkk⟩:=ahQ w2 h1;obtain ⟨m1,m2⟩:=Ve w2 0 EE wA;have key:∃r,pQ w ms 0=some r/\∃Em cl',YI ms cl w u r= .map Em cl'/\dz F lz (Em.map (·.1)) ((YH es (dR s.ts k) (dR s.ts d) f).map (·.1))/\dz F lz (Em.map (·.2.1)) ((YH es (dR s.ts k) (dR s.ts d) f).map (·.2)):=by
     cases f with
     |none=>
      refine ⟨none,m1 hf,ms++ [(w,u,cl)],Nat.add cl 1,rfl,?_,?_⟩
      ·show dz F lz ((ms++ [(w,u,cl)]).map (·.1)) ((es++ [(dR s.ts k,dR s.ts d)]).map (·.1))
       rw[mw,mw];exact EE.append (.cons (w2.qR hkk) .nil)
      ·show dz F lz ((ms++ [(w,u,cl)]).map (·.2.1)) ((es++ [(dR s.ts k,dR s.ts d)]).map (·.2))
       rw[mw,mw];exact wA.append (.cons (u2.qR h3) .nil)
     |some r=>
      obtain ⟨v,c,b1,b2,b3,b4⟩:=m2 r.1 r.2 hf;refine ⟨_,b1,ms.set (0+r.1) (w,u,c),cl,rfl,?_,?_⟩
      ·show dz F lz ((ms.set (0+r.1) (w,u,c)).map (·.1)) ((es.set r.1 (dR s.ts k,dR s.ts d)).map (·.1))
       rw[DJ,DJ,cC];exact EE.asU (w2.qR hkk)
      ·show dz F lz ((ms.set (0+r.1) (w,u,c)).map (·.2.1)) ((es.set r.1 (dR s.ts k,dR s.ts d)).map (·.2))
       rw[DJ,DJ,cC];exact wA.asU (u2.qR h3)
    obtain ⟨r',k1,Em,cl',k2,k3,k4⟩:=key;refine ⟨.cS [],_,.map Em cl',[],[],hφ,λnew=> ?_,.cS .nil,.map k3 k4,.refl _⟩
    show two T a k (λa b=>one T d λc=>unit (vh E H t a b c))=_
    unfold two one;rw[v1,w1];show az (cD T d) (λc=>unit (vh E H t (.mp (g K).n) w c))=_
    rw[u1];show unit (vh E H t (.mp (g K).n) w u)=_;have e1:vh E H t (.mp (g K).n) w u=some [((g K).n,some (.map Em cl'))]:=by
     show az (E.ty.get t) (λi=>az (Bh i.desc) λq=>bU (E.ty.get q.1) (j1 (H (g K).n)) λik p=>aP (IS w ik.desc) (az (pQ w p.1 0) λr=>some [((g K).n,some (YI p.1 p.2 w u r))]) none)=_
     rw[j4 hi,j4 hq,hH,GZ e1 (show j1 (some (SO.map ms cl))=some (ms,cl) from rfl),hlk];show az (pQ w ms 0) (λr=>some [((g K).n,some (YI ms cl w u r))])=_
     rw[k1];show some [((g K).n,some (YI ms cl w u r'))]=_;rw[k2]
    rw[e1];rfl
   ·cases h
  ·cases h
 ·cases h
inductive Pl where
 |row (R:bf) (fs:bq)
 |nat (k:Nat)
 |uE (Q:bA)
 |app (w:Bool) (R Q:bA) (n:Nat)
 |Ib
 |cut (l u:Nat) (R:bA) (n:Nat)
 |mk (z:bf) (Q:bA) (l:Nat) (sh:dW)
 |val (n:Nat)
 |lkp (x:AV) (es:List (AV×AV))
 |eqv (y:AV)
 |laid (b:Bx)
def Oz (E:Env) (pn:Nat->Bool) (s:LS) (d:bP) (op:Op):Option o7:=
 (Pa E s op).elim ((O9 E s op).elim ((akQ E s op).elim (az d λK=>aP (!pn K&&Lz s K) (az (aat E s K op) λp=>some ⟨[],s.set K p.1,p.2,[K]⟩) none) some) λp=>some ⟨[],s.set p.1 p.2,.cS [],[p.1]⟩) λx=>some ⟨[],s,x,[]⟩
def Nb {op:Op} {r:o7} (h:Oz E pn s d op=some r):ui E pn op s r:=by
 unfold Oz at h;cases h1:Pa E s op with
 |some x=>rw[h1] at h;cases h;exact λ_=>apc h1
 |none=>
  rw[h1] at h;cases h2:O9 E s op with
  |some x=>rw[h2] at h;cases h;exact λ_=>apa h2
  |none=>
   rw[h2] at h;cases h3:akQ E s op with
   |some x=>rw[h3] at h;cases h;exact aBS h3
   |none=>
    rw[h3] at h;obtain ⟨K,_,h⟩:=aq h;obtain ⟨h4,h⟩:=aV h;obtain ⟨p,h5,h⟩:=aq h;cases h;rw[bF] at h4;exact λ_=>apb (BC h4.2) (by simpa using h4.1) h5
def awn (E:Env) (pn:Nat->Bool) (s:LS) (d:bP) (op:Op) (pl:Pl) (ob:Prop->cB):Option o7:=
 match pl with
 | .row R fs=>asX E s op R fs ob
 | .nat k=>atL E s op k ob
 | .uE Q=>asD E s op Q ob
 | .app w R Q n=>appI E pn s d op w R Q n ob
 | .Ib=>tapI E pn s d op ob
 | .cut l u R n=>avh E s op l u R n ob
 | .mk z Q l sh=>mkI E pn s d op z Q l sh ob
 | .val n=>asy E s op n ob
 | .lkp x es=>atv E s op x es ob
 | .eqv y=>az (Oz E pn s d op) λr=>some ⟨ob (r.x=y)::r.Eh,r.s,y,r.W⟩
 | .laid b=>bU d (Oz E pn s d op) λK r=>some ⟨ob (lk K r.s.bs=some b)::r.Eh,r.s.set K b,r.x,r.W⟩
def asF {op:Op} {pl:Pl} {ob:Prop->cB} (gO:∀P,(ob P).need=P) {r:o7} (h:awn E pn s d op pl ob=some r):ui E pn op s r:=by
 cases pl with
 |row=>exact aBq gO h
 |nat=>exact aBR gO h
 |uE=>exact azb gO h
 |app=>exact aCm gO h
 |Ib=>exact aza gO h
 |cut=>exact aBY gO h
 |mk=>exact aEL gO h
 |val=>exact ayY gO h
 |lkp=>exact aBH gO h
 |eqv y=>
  obtain ⟨r0,h1,h⟩:=aq h;cases h;intro ho;obtain ⟨o1,o2⟩:=ho;rw[gO] at o1;subst o1;exact (show Ok E pn op s r0.s r0.x r0.W from Nb h1 o2)
 |laid b=>
  obtain ⟨K,r0,_,h1,h⟩:=bp h;cases h;intro ho;obtain ⟨o1,o2⟩:=ho;rw[gO] at o1;have h2:=Nb h1 o2;refine ⟨λ{F g Y c T H new} r hn=> ?_⟩
  obtain ⟨v,us,g',φ',c',a1,a2,a3,a4⟩:=h2.go r hn;refine ⟨v,us,g',φ',c',a1,a2,a3.sub (λ_ _ h=>h) λk b' hb=> ?_,a4⟩
  rw[show (r0.s.set K b).bs=(K,b)::r0.s.bs from rfl,dy] at hb;split at hb
  ·rename_i e;rw[e,o1];exact hb
  ·exact hb
end
section
variable {F F':Hf} {g g':Gb} {Y:Nat->Ow} {c:Nat->bP} {s s':LS} {T:Tf} {H:Hf} {E:Env} {pn:Nat->Bool}
mutual
def GG (K:Nat) (D:Nat->Nat->AV) (L:Nat->Nat->AV):AV->AV
 | .agg cs=>.agg (CF K D L cs)
 | .cS cs=>.cS (CF K D L cs)
 | .fn f a b=>.fn f (CF K D L a) (CF K D L b)
 | .ms k s lo n=>aP (Nat.beq k K) (D s lo) (.ms k s lo n)
 | .el k s j f=>aP (Nat.beq k K) (L j f) (.el k s j f)
 |x=>x
def CF (K:Nat) (D:Nat->Nat->AV) (L:Nat->Nat->AV):bf->bf
 | []=> []
 |x::l=>GG K D L x::CF K D L l
end
mutual
def aaH (K sz:Nat):AV->bq
 | .agg cs=>Cn K sz cs
 | .cS cs=>Cn K sz cs
 | .fn f a b=>Cn K sz a++Cn K sz b
 | .ms k s lo n=>aP (Nat.beq k K&&(Nat.beq s sz&&Nat.beq lo 0)) [n] []
 |_=> []
def Cn (K sz:Nat):bf->bq
 | []=> []
 |x::l=>aaH K sz x++Cn K sz l
end
mutual
def ahS {K sz:Nat} {D:Nat->Nat->AV} {L:Nat->Nat->AV} {N:Nat->Prop} (h1:∀{v s lo n},(s=sz->lo=0->N n)->VA F g v (.ms K s lo n)->VA F g v (D s lo)) (h2:∀{v s j f},VA F g v (.el K s j f)->VA F g v (L j f)):∀{x:AV} {v:SV},(∀n∈aaH K sz x,N n)->VA F g v x->VA F g v (GG K D L x)
 | .agg cs,_,hn,.agg q=>.agg (xY h1 h2 hn q)
 | .cS cs,_,hn,.cS q=>.cS (xY h1 h2 hn q)
 | .fn f a b,_,hn,.fn _ q1 q2=>.fn _ (xY h1 h2 (λn h=>hn n (gB _ h)) q1) (xY h1 h2 (λn h=>hn n (iq _ h)) q2)
 | .ms k s lo n,v,hn,q=>by
  show VA F g v (aP (Nat.beq k K) (D s lo) (.ms k s lo n));rw[bG];split
  ·rename_i e;obtain rfl:=(beq_iff _ _).1 e;refine h1 (λe1 e2=>hn n ?_) q
   show n∈aP (Nat.beq k k&&(Nat.beq s sz&&Nat.beq lo 0)) [n] [];rw[e,(beq_iff _ _).2 e1,(beq_iff _ _).2 e2];exact ez.2 rfl
  ·exact q
 | .el k s j f,v,hn,q=>by
  show VA F g v (aP (Nat.beq k K) (L j f) (.el k s j f));rw[bG];split
  ·rename_i e;obtain rfl:=(beq_iff _ _).1 e;exact h2 q
  ·exact q
 | .lit _,_,_,q| .sl ..,_,_,q| .ju _,_,_,q| .mp _,_,_,q| .it _,_,_,q| .undef,_,_,q=>q
def xY {K sz:Nat} {D:Nat->Nat->AV} {L:Nat->Nat->AV} {N:Nat->Prop} (h1:∀{v s lo n},(s=sz->lo=0->N n)->VA F g v (.ms K s lo n)->VA F g v (D s lo)) (h2:∀{v s j f},VA F g v (.el K s j f)->VA F g v (L j f)):∀{x:bf} {v:aY},(∀n∈Cn K sz x,N n)->dz F g v x->dz F g v (CF K D L x)
 |_,_,_,.nil=>.nil
 |_,_,hn,.cons q t=>.cons (ahS h1 h2 (λn h=>hn n (gB _ h)) q) (xY h1 h2 (λn h=>hn n (iq _ h)) t)
end
def Bx.mapV (k:AV->AV) (ks:bf->bf):Bx->Bx
 | .flat e cs=>.flat e (ks cs)
 | .cy z e s l Q o=>.cy z e s l Q (o.map λp=>(p.1,k p.2))
 |b=>b
def UW (K sz:Nat):fy->bq
 | []=> []
 |p::l=>aaH K sz p.2++UW K sz l
def UX (K sz:Nat):cL->bq
 | []=> []
 |p::l=>(match p.2 with| .flat _ cs=>Cn K sz cs| .cy _ _ _ _ _ o=>UW K sz o|_=> [])++UX K sz l
def No {K sz n t:Nat} {x:AV}:∀{l:fy},(t,x)∈l->n∈aaH K sz x->n∈UW K sz l
 |p::l,h,hn=>(cH.1 h).elim (λe=>gB _ (e ▸ hn)) λh=>iq _ (No h hn)
def LS.fX (s:LS) (K:Nat) (D:Nat->Nat->AV) (L:Nat->Nat->AV):LS:=⟨s.ts.map λp=>(p.1,GG K D L p.2),(kh K s.bs).map λp=>(p.1,p.2.mapV (GG K D L) (CF K D L))⟩
def noK (x:AV):AV:=aP (jF x).isEmpty x .undef
def aEH (q:VA F g v x):VA F g' v (noK x):=by
 unfold noK;rw[bG];split
 ·rename_i h;exact q.qR h
 ·exact .undef v
def ahE:∀{vs xs},dz F g vs xs->dz F g' vs (xs.map noK)
 |_,_,.nil=>.nil
 |_,_,.cons q t=>.cons (aEH q) (ahE t)
def zq (m n:Nat) (b:Bx) (s lo:Nat):AV:=
 match b with
 | .cy z e sz _ Q _=>aP (Nat.beq s sz&&Nat.beq lo 0) (.sl (aP (Nat.beq m 2) 2 (aP z 1 0)) e sz n Q) .undef
 |_=>.undef
def GF (b:Bx) (j f:Nat):AV:=
 match b with
 | .flat _ cs=>aP (Nat.beq j 0&&Nat.ble f cs.length) (.ju ((cs.map noK).drop f)) .undef
 |_=>.undef
def Bx.Ie (b:Bx):Nat×bA:=
 match b with
 | .cy _ _ sz _ Q _=>(sz,Q)
 |_=>(0,[])
def LS.abI (s:LS) (K m n:Nat) (b:Bx):LS:=s.fX K (zq m n b) (GF b)
def abH (s:LS) (K n:Nat) (b:Bx) (ob:Prop->cB):List cB:=ob (b.Ie.2.length=n)::(UW K b.Ie.1 s.ts++UX K b.Ie.1 s.bs).map λn'=>ob (b.Ie.2.length=n')
def acv {J:Type} {f:J->cB}:∀{l:List J},iA (l.map f)->∀x∈l,(f x).need
 |y::l,h,x,hx=>(cH.1 hx).elim (λe=>e ▸ h.1) λhx=>acv h.2 x hx
def Np {K sz n k:Nat} {b:Bx}:∀{l:cL},(k,b)∈l->(n∈match b with| .flat _ cs=>Cn K sz cs| .cy _ _ _ _ _ o=>UW K sz o|_=> [])->n∈UX K sz l
 |p::l,h,hn=>(cH.1 h).elim (λe=>gB _ (e ▸ hn)) λh=>iq _ (Np h hn)
def Rel.fX (r:Rel F g Y c s T H) {m:Nat} {ob:Prop->cB} (gO:∀P,(ob P).need=P) (hb:lk K s.bs=some b) (ho:iA (abH s K n b ob)):∃F' c',nq F F'/\((∀i k,c' i=some k->c i=some k)/\(∀i,F' i≠none->F i≠none\/c i=some K)/\(∀i,c i≠some K->c' i=c i)/\∀i,c' i≠some K)/\Rel F' g Y c' (s.abI K m n b) T H:=by
 obtain ⟨F',c',hF,hcw,hK,r'⟩:=r.sink K;have hK:=hK b hb;have q:=(r.bx K b hb).1;refine ⟨F',c',hF,hcw,?_⟩;obtain ⟨hn,ho⟩:=ho;rw[gO] at hn;have h1:∀{v s lo n'},(s=b.Ie.1->lo=0->b.Ie.2.length=n')->VA F' g v (.ms K s lo n')->VA F' g v (zq m n b s lo):=λ{v s lo n'} fN hv=>by
  unfold zq;split
  ·rename_i z e sz l Q o;rw[bG];split
   ·rename_i h;simp only[bF] at h;obtain ⟨k1,k2⟩:=h;obtain rfl:=(beq_iff _ _).1 k1;obtain rfl:=(beq_iff _ _).1 k2;have fN:Q.length=n':=fN rfl rfl;have hn:Q.length=n:=hn;have hmz:aP (Nat.beq m 2) 2 (aP z 1 0)=1->z=true:=λe=>by
     rw[bG] at e;split at e
     ·cases e
     ·cases z<;>first|rfl|cases e
    generalize Y K=L at q hK;cases q with
    |nil hbf=>
     cases hv with
     |rl=>subst hn;exact .nil _ _ _
     |ms _ _ _ h=>rw[hbf] at h;cases h
     |xb _ _ h=>cases h
    | @cy _ _ _ _ _ _ svs L s9 hz hu hc q ho=>
     cases hv with
     |rl _ h=>rw[s9] at h;cases h
     |xb _ _ h=>cases h
     |ms=>
      rw[lT];subst hn;subst fN;refine .sl rfl (rn (hK ((g K).n,.cells e svs) (by simp))) ?_ (λe=>hz (hmz e)) hu (by rw[cC];exact ou hc) (by rw[rS];exact q.data hF λp hp=>hK p (fM _ hp))
      have:=aij hc;cases hκ:(g K).c<;>rw[hκ] at this<;>exact this
   ·exact .undef v
  ·exact .undef v
 have h2:∀{v s j f},VA F' g v (.el K s j f)->VA F' g v (GF b j f):=λ{v s j f} hv=>by
  unfold GF;split
  ·rename_i e cs;rw[bG];split
   ·rename_i hf;rw[bF] at hf;obtain rfl:=(beq_iff _ _).1 hf.1;have hf:f<=cs.length:=(bV _ _).1 hf.2;cases hv;generalize Y K=L at q hK;cases q with
    | @flat _ _ svs q=>
     have hl:=q.length;rw[lT,cC];refine .ju (rn (hK ((g K).n,.cells e svs) (by simp))) (by rw[iE,nQ];omega) ?_
     rw[iE,nQ,kn (by rw[iE];omega)]
     exact ((ahE q).mono hF).drop f
   ·exact .undef v
  ·exact .undef v
 have hN:=acv ho;have vaA:∀{x v},(∀n∈aaH K b.Ie.1 x,n∈UW K b.Ie.1 s.ts++UX K b.Ie.1 s.bs)->VA F' g v x->VA F' g v (GG K (zq m n b) (GF b) x):=λ{x v} hx q=>ahS (N:=λn=>b.Ie.2.length=n) h1 h2 (λn hn=>by have:=hN n (hx n hn);rwa[gO] at this) q
 refine r'.ajU (ft:=λ_=>GG K (zq m n b) (GF b)) (fb:=λ_ b'=>b'.mapV (GG K (zq m n b) (GF b)) (CF K (zq m n b) (GF b))) r'.fr (λ_=>rfl) (λt v x hx q=>vaA (λn hn=>gB _ (No (nW hx) hn)) q) λk b' L hk q=> ?_
 have hk:lk k s.bs=some b':=by
  have hk:lk k (kh K s.bs)=some b':=hk;rw[vm] at hk;split at hk
  ·cases hk
  ·exact hk
 cases q with
 |flat q=>exact .flat (xY (N:=λn=>b.Ie.2.length=n) h1 h2 (λn hn=>by have:=hN n (iq _ (Np (nW hk) hn));rwa[gO] at this) q)
 |nil h=>exact .nil h
 |cy hb hz hu hc q ho=>
  refine .cy hb hz hu hc q λp hp=> ?_
  obtain ⟨p0,hp0,rfl⟩:=cP.1 hp;obtain ⟨v,v1,v2⟩:=ho p0 hp0;exact ⟨v,v1,vaA (λn hn=>iq _ (Np (nW hk) (No (t:=p0.1) hp0 hn))) v2⟩
 |map h1 h2=>exact .map h1 h2
 |iter=>exact .iter
def Rel.F8 (r:Rel F g Y c s T H) {b':Bx} (hb:lk K s.bs=some b) (h:∀{L},eH F g K b L->∃L',L'.Sublist L/\eH F g K b' L'):∃φ' c',(∀i k,c' i=some k->c i=some k)/\Rel F g φ' c' (s.set K b') T H:=by
 obtain ⟨q,nd,own⟩:=r.bx K b hb;obtain ⟨L',hs,q'⟩:=h q;obtain ⟨c',r',_,hc,_⟩:=r.chg q' ((hs.map _).nodup nd) (λp hp=>⟨(own p (hs.subset hp)).1,.inl (own p (hs.subset hp)).2⟩) (λi hi=>absurd rfl hi) (.inl rfl)
 refine ⟨_,c',λi k hk=> ?_,r'⟩
 rcases hc i k hk with h|⟨rfl,hm⟩
 ·exact h
 ·obtain ⟨p,hp,rfl⟩:=cP.1 hm;exact (own p (hs.subset hp)).2
def jM.F8 {b':Bx} (hb:lk K s.bs=some b) (h:∀{F g L},eH F g K b L->∃L',L'.Sublist L/\eH F g K b' L'):jM pn s (s.set K b'):=.mk λ{F g Y c T H} r=>
 let ⟨φ',c',_,r'⟩:=r.F8 hb h
 ⟨F,g,φ',c',.refl _,λ_ _=>rfl,r'⟩
def kb.foc:∀{l vs xs L} {k:Nat} {x:AV},kb F l vs xs L->xs[k]? =some x->∃v L1 L0 L2,vs[k]? =some v/\L=L1++(L0++L2)/\TC F ((l.drop k).headD .d) v x L0/\∀y FC,TC F ((l.drop k).headD .d) v y FC->kb F l vs (xs.set k y) (L1++(FC++L2))
 |_,_,_,_,_,_,.nil,h=>by cases h
 |l,_,_,_,0,x,.cons (v:=v) (b:=b) q t,h=>by
  obtain rfl:=kW (show some _=some x from h);exact ⟨v,[],_,b,rfl,rfl,q,λy FC q'=>show kb F l _ _ (FC++b) from .cons q' t⟩
 |l,_,_,_,k+1,x,.cons (a:=a) q t,h=>by
  obtain ⟨v,L1,L0,L2,h1,h2,h3,h4⟩:=t.foc (k:=k) (by simpa using h)
  have e:l.drop (k+1)=l.tail.drop k:=by cases l<;>simp
  rw[e];refine ⟨v,a++L1,L0,L2,by simpa using h1,by rw[h2,lu],h3,λy FC q'=> ?_⟩
  rw[lu];exact .cons q (h4 y FC q')
def TR.foc {s:Nat}:∀{l vs Q L} {j k:Nat} {R:bf} {x:AV},TR F l vs Q L->(∀r∈Q,r.length=s)->Q[j]? =some R->R[k]? =some x->∃v L1 L0 L2,vs[j*s+k]? =some v/\L=L1++(L0++L2)/\TC F ((l.drop k).headD .d) v x L0/\∀y FC,TC F ((l.drop k).headD .d) v y FC->TR F l vs (Q.set j (R.set k y)) (L1++(FC++L2))
 |_,_,_,_,_,_,_,_,.nil,_,h,_=>by cases h
 |l,_,_,_,0,k,R,x,.cons (vs:=vs) (b:=b) q t,hu,h,hx=>by
  obtain rfl:=kW (show some _=some R from h);obtain ⟨v,L1,L0,L2,h1,h2,h3,h4⟩:=q.foc hx;refine ⟨v,L1,L0,L2++b,?_,by rw[h2];simp,h3,λy FC q'=>by have:=TR.cons (h4 y FC q') t;simpa using this⟩
  rw[lT,cC,pD (cf.1 h1).1];exact h1
 |l,_,_,_,j+1,k,R,x,.cons (vs:=vs) (a:=a) q t,hu,h,hx=>by
  obtain ⟨v,L1,L0,L2,h1,h2,h3,h4⟩:=t.foc (λr hr=>hu r (fM _ hr)) (show _=some R by simpa using h) hx
  have hv:vs.length=s:=by rw[q.length];exact hu _ (jo)
  refine ⟨v,a++L1,L0,L2,?_,by rw[h2,lu],h3,λy FC q'=> ?_⟩
  ·rw[nP (by rw[hv,gA];omega),hv,show (j+1)*s+k-s=j*s+k by rw[gA];omega]
   exact h1
  ·rw[lu];exact .cons q (h4 y FC q')
def rh:dW->Bool
 | []=>true
 | .d::l=>rh l
 |_=>false
def C1:∀{l:dW},rh l=true->l.headD .d= .d/\rh l.tail=true
 | [],_=>⟨rfl,rfl⟩
 | .d::l,h=>⟨rfl,h⟩
def kb.rh:∀{l l' vs xs L},bZ.rh l=true->bZ.rh l'=true->kb F l vs xs L->kb F l' vs xs L
 |_,_,_,_,_,_,_,.nil=>.nil
 |l,l',_,_,_,h,h',.cons q t=>.cons (by rw[(C1 h').1,<-(C1 h).1];exact q) (t.rh (C1 h).2 (C1 h').2)
def TR.rh:∀{l l' vs xs L},bZ.rh l=true->bZ.rh l'=true->TR F l vs xs L->TR F l' vs xs L
 |_,_,_,_,_,_,_,.nil=>.nil
 |_,_,_,_,_,h,h',.cons q t=>.cons (q.rh h h') (t.rh h h')
mutual
def auO:Sh->Sh->Bool
 | .d,.d=>true
 | .o x l,.o y m=>(x==y)&&LF l m
 |_,_=>false
def LF:dW->dW->Bool
 | [],[]=>true
 |x::l,y::m=>auO x y&&LF l m
 |_,_=>false
end
mutual
def aBU:∀{a b:Sh},auO a b=true->a=b
 | .d,.d,_=>rfl
 | .o x l,.o y m,h=>by
  have h:=kK.1 (show ((x==y)&&LF l m)=true from h);rw[eq_of_beq h.1,NK h.2]
 | .d,.o _ _,h=>by cases (show false=true from h)
 | .o _ _,.d,h=>by cases (show false=true from h)
def NK:∀{a b:dW},LF a b=true->a=b
 | [],[],_=>rfl
 |x::l,y::m,h=>by
  have h:=kK.1 (show (auO x y&&LF l m)=true from h);rw[aBU h.1,NK h.2]
 | [],_::_,h=>by cases (show false=true from h)
 |_::_,[],h=>by cases (show false=true from h)
end
def Z7 (l l':dW) (Q:bA):Bool:=LF l l'||((rh l&&rh l')||(match Q with| []=>true|_=>false))
def ahg {l':dW} (h:Z7 l l' Q=true) (q:TR F l vs Q L):TR F l' vs Q L:=by
 unfold Z7 at h;rw[pC,pC,bF] at h;rcases h with h|h|h
 ·rw[<-NK h];exact q
 ·exact q.rh h.1 h.2
 ·split at h
  ·cases q;exact .nil
  ·cases h
open Classical in
def Rel.split (r:Rel F g Y c s T H) {K2:Nat} {b1 b2:Bx} {L2:Ow} (hb:lk K s.bs=some b) (hk:s.free K2) (hn:lk K2 s.bs=none) (hg:∀k,k≠K2->g' k=g k) (h1:eH F g' K b1 L1) (h2:eH F g' K2 b2 L2) (hs:∀p∈L1++L2,p∈Y K) (nd:((L1++L2).map (·.1)).Nodup):
  Rel F g' (lR (lR Y K L1) K2 L2) (λi=>if i∈L2.map (·.1) then some K2 else c i) ⟨s.ts,(K2,b2)::(K,b1)::s.bs⟩ T H:=by
 obtain ⟨_,_,own⟩:=r.bx K b hb;have cY:K≠K2:=λe=>by rw[e,hn] at hb;cases hb
 rw[mw] at nd;obtain ⟨n1,n2,n3⟩:=DI.1 nd;have off:∀{k i},k≠K->c i=some k->i∉L2.map (·.1):=λ{k i} hk hc hm=>by
  obtain ⟨p,hp,rfl⟩:=cP.1 hm;rw[(own p (hs p (iq _ hp))).2] at hc;exact hk (kW hc).symm
 refine ⟨λt x hx hu=> ?_,λk b' jP=> ?_,λi o hi=>⟨(r.fr i o hi).1,?_⟩,λi hi=> ?_⟩
 ·obtain ⟨v,v1,v2⟩:=r.tm t x hx hu;exact ⟨v,v1,v2.same (.refl F) λk jP=>hg k λe=>hk.1 t x hx (e ▸ jP)⟩
 ·rw[show ({ts:=s.ts,bs:=(K2,b2)::(K,b1)::s.bs}:LS).bs=(K2,b2)::(K,b1)::s.bs from rfl,dy,dy] at jP;unfold lR;split at jP
  ·rename_i e;cases jP;rw[aH e,e];exact ⟨h2,n2,λp hp=>⟨(own p (hs p (iq _ hp))).1,aH (cP.2 ⟨p,hp,rfl⟩)⟩⟩
  ·rename_i e2;rw[aM e2];split at jP
   ·rename_i e;cases jP;rw[aH e,e];refine ⟨h1,n1,λp hp=>⟨(own p (hs p (gB _ hp))).1,?_⟩⟩
    rw[aM λhm=>n3 p.1 (cP.2 ⟨p,hp,rfl⟩) p.1 hm rfl]
    exact (own p (hs p (gB _ hp))).2
   ·rename_i e;rw[aM e];obtain ⟨q1,q2,q3⟩:=r.bx k b' jP;refine ⟨q1.same (.refl F) (hg k e2) λj hj=>hg j λe=>hk.2 k b' e2 jP (e ▸ hj),q2,λp hp=>⟨(q3 p hp).1,?_⟩⟩
    rw[aM (off e (q3 p hp).2)];exact (q3 p hp).2
 ·have:=(r.fr i o hi).2;rw[aM λhm=> ?_]
  ·exact this
  ·obtain ⟨p,hp,rfl⟩:=cP.1 hm;rw[(own p (hs p (iq _ hp))).2] at this;cases this
 ·rw[aM λhm=> ?_]
  ·exact r.cn i hi
  ·obtain ⟨p,hp,rfl⟩:=cP.1 hm;have:=(own p (hs p (iq _ hp))).1;rw[hi] at this;cases this
open Classical in
def Rel.join (r:Rel F g Y c s T H) {K2:Nat} {b1 b2:Bx} (hb:lk K s.bs=some b) (EI:lk K2 s.bs=some b2) (cY:K≠K2) (h1:eH F g K b1 L1) (hs:∀p∈L1,p∈Y K\/p∈Y K2) (nd:(L1.map (·.1)).Nodup):
  Rel F g (lR Y K L1) (λi=>if i∈L1.map (·.1) then some K else c i) ⟨s.ts,(K,b1)::kh K2 s.bs⟩ T H:=by
 have o1:=(r.bx K b hb).2.2;have o2:=(r.bx K2 b2 EI).2.2;have own:∀p∈L1,H p.1=some p.2/\(c p.1=some K\/c p.1=some K2):=λp hp=>(hs p hp).elim (λh=>⟨(o1 p h).1,.inl (o1 p h).2⟩) λh=>⟨(o2 p h).1,.inr (o2 p h).2⟩
 refine ⟨r.tm,λk b' jP=> ?_,λi o hi=>⟨(r.fr i o hi).1,?_⟩,λi hi=> ?_⟩
 ·rw[show ({ts:=s.ts,bs:=(K,b1)::kh K2 s.bs}:LS).bs=(K,b1)::kh K2 s.bs from rfl,dy,vm] at jP;unfold lR;split at jP
  ·rename_i e;cases jP;rw[aH e,e];exact ⟨h1,nd,λp hp=>⟨(own p hp).1,aH (cP.2 ⟨p,hp,rfl⟩)⟩⟩
  ·rename_i e;split at jP
   ·cases jP
   ·rename_i e2;rw[aM e];obtain ⟨q1,q2,q3⟩:=r.bx k b' jP;refine ⟨q1,q2,λp hp=>⟨(q3 p hp).1,?_⟩⟩
    rw[aM λhm=> ?_]
    ·exact (q3 p hp).2
    ·obtain ⟨p',yS,e'⟩:=cP.1 hm;have:=(own p' yS).2;rw[show p'.1=p.1 from e',(q3 p hp).2] at this;rcases this with h|h
     ·exact e (kW h)
     ·exact e2 (kW h)
 ·have:=(r.fr i o hi).2;rw[aM λhm=> ?_]
  ·exact this
  ·obtain ⟨p,hp,rfl⟩:=cP.1 hm;rcases (own p hp).2 with h|h<;>(rw[h] at this;cases this)
 ·rw[aM λhm=> ?_]
  ·exact r.cn i hi
  ·obtain ⟨p,hp,rfl⟩:=cP.1 hm;have:=(own p hp).1;rw[hi] at this;cases this
end
section
variable {F F':Hf} {g g':Gb} {Y:Nat->Ow} {c:Nat->bP} {s s':LS} {T:Tf} {H:Hf} {E:Env} {pn:Nat->Bool}
def cvX (w b:Bx):Bx:=
 match w,cvB w b with
 | .cy _ _ _ l' _ o',.cy z e s l Q o=>.cy z e s (aP (Z7 l l' Q) l' l) Q (match o' with| []=> []|_=>o)
 |_,b=>b
def abY {w:Bx} (q:eH F g k b L):eH F g k (cvX w b) L:=by
 have q:=aFa (w:=w) q;unfold cvX;generalize cvB w b=b' at q;split
 ·rename_i l' _ o' z e s l Q o;rw[bG];cases q with
  |nil hb=>cases o'<;>exact .nil hb
  |cy hb hz hu hc q1 ho=>
   refine .cy hb hz hu hc ?_ ?_
   ·split
    ·rename_i h;exact ahg h q1
    ·exact q1
   ·split
    ·exact λp hp=>by cases hp
    ·exact ho
 ·exact q
def cvT (w:fy) (ts:fy):fy:=w.map λp=>(p.1,cv p.2 ((lk p.1 ts).getD .undef))
def NP (bs:cL):cL->Option cL
 | []=>some []
 |p::l=>bU (lk p.1 bs) (NP bs l) λb r=>some ((p.1,cvX p.2 b)::r)
def aib {bs:cL} {k:Nat} {b':Bx}:∀{w r:cL},NP bs w=some r->lk k r=some b'->∃w b,lk k bs=some b/\b'=cvX w b
 | [],r,h,hk=>by cases h;cases hk
 |p::l,r,h,hk=>by
  obtain ⟨b,r',h1,h2,h⟩:=bp h;cases h;rw[dy] at hk;split at hk
  ·rename_i e;cases hk;exact ⟨p.2,b,e ▸ h1,rfl⟩
  ·exact aib h2 hk
def ari {ts:fy} {t:Nat} {y:AV}:∀{w:fy},lk t (cvT w ts)=some y->∃w,y=cv w ((lk t ts).getD .undef)
 | [],h=>by cases h
 |p::l,h=>by
  rw[show cvT (p::l) ts=(p.1,cv p.2 ((lk p.1 ts).getD .undef))::cvT l ts from rfl,dy] at h;split at h
  ·rename_i e;cases h;exact ⟨p.2,by rw[e]⟩
  ·exact ari h
def NO (w:AV):cv w .undef= .undef:=by cases w<;>rfl
def Rel.cv (r:Rel F g Y c s T H) {w:LS} (h:NP s.bs w.bs=some bs):Rel F g Y c ⟨cvT w.ts s.ts,bs⟩ T H:=
 {r with
  tm:=λt y hy hn=>by
   obtain ⟨w,rfl⟩:=ari hy;cases hl:lk t s.ts with
   |none=>rw[hl] at hn;exact absurd (NO w) hn
   |some x=>
    rw[hl] at hn;obtain ⟨v,v1,v2⟩:=r.tm t x hl λe=>hn (by rw[e];exact NO w)
    exact ⟨v,v1,CK v2⟩
  bx:=λk b hk=>by
   obtain ⟨w,b0,h0,rfl⟩:=aib h hk;obtain ⟨q,q2⟩:=r.bx k b0 h0;exact ⟨abY q,q2⟩}
def jM.cv {w:LS} (h:NP s.bs w.bs=some bs):jM pn s ⟨cvT w.ts s.ts,bs⟩:=.mk λr=>⟨_,_,_,_,.refl _,λ_ _=>rfl,r.cv h⟩
def zi (K K' k:Nat):Nat:=aP (Nat.beq k K) K' k
def ahl (K K' k:Nat):zi K K' k=if k=K then K' else k:=by
 unfold zi;rw[bG];by_cases h:k=K
 ·rw[aH h,aH ((beq_iff _ _).2 h)]
 ·rw[aM h,aM (λe=>h ((beq_iff _ _).1 e))]
def LS.jl (s:LS) (K K':Nat):LS:=⟨s.ts.map λp=>(p.1,Di (zi K K') p.2),s.bs.map λp=>(zi K K' p.1,p.2.jl (zi K K'))⟩
def apz {K K' k:Nat} {b':Bx}:∀{l:cL},lk K' l=none->lk k (l.map λp=>(zi K K' p.1,p.2.jl (zi K K')))=some b'->∃k0 b0,lk k0 l=some b0/\zi K K' k0=k/\k0≠K'/\b'=b0.jl (zi K K')
 |(j,x)::l,hn,h=>by
  rw[dy] at hn;rw[iZ,dy] at h;split at hn
  ·cases hn
  ·rename_i hj;split at h
   ·rename_i e;cases h;exact ⟨j,x,by rw[dy,aH rfl],e.symm,λc=>hj c.symm,rfl⟩
   ·rename_i e;obtain ⟨k0,b0,a1,a2,a3,a4⟩:=apz hn h;exact ⟨k0,b0,by rw[dy,aM (λc=>e (by rw[<-a2,c])),a1],a2,a3,a4⟩
def jM.jl {K':Nat} (hk:s.free K') (yS:pn K'=false) (hn:lk K' s.bs=none):jM pn s (s.jl K K'):=.mk λ{F g Y c T H} r=>by
 let g2:Gb:=λk=>if k=K' then g K else g k
 have one:∀k,k≠K'->g2 (zi K K' k)=g k:=λk jP=>by
  rw[ahl];by_cases e:k=K
  ·subst e;rw[aH rfl];exact aH rfl
  ·rw[aM e];exact aM jP
 let φ2:Nat->Ow:=λk=>if k=K' then Y K else Y k
 let c2:Nat->bP:=λi=>(c i).map (zi K K')
 refine ⟨F,g2,φ2,c2,.refl _,λk jP=>aM λe=>(by rw[e,yS] at jP;cases jP),⟨λt y hy cY=> ?_,λk b hb=> ?_,λi o hi=>⟨(r.fr i o hi).1,by show (c i).map _=none;rw[(r.fr i o hi).2];rfl⟩,λi hi=>by show (c i).map _=none;rw[r.cn i hi];rfl⟩⟩
 ·obtain ⟨x,hx,e⟩:=vV.1 ((Bi (λ(_:Nat) (x:AV)=>Di (zi K K') x) t s.ts).symm.trans hy)
  subst e;by_cases hu:x= .undef
  ·subst hu;exact absurd rfl cY
  ·obtain ⟨v,v1,v2⟩:=r.tm t x hx hu;exact ⟨v,v1,v2.map (.refl F) λk hm=>one k λe=>hk.1 t x hx (e ▸ hm)⟩
 ·obtain ⟨k0,b0,a1,a2,a3,rfl⟩:=apz hn hb;obtain ⟨q1,q2,q3⟩:=r.bx k0 b0 a1;have hφ:φ2 k=Y k0:=by
   show (if k=K' then Y K else Y k)=_
   rw[<-a2,ahl];by_cases e:k0=K
   ·rw[aH e,aH rfl,e]
   ·rw[aM e,aM a3]
  rw[hφ];exact ⟨q1.mv (.refl F) (by rw[<-a2];exact one k0 a3) λk hm=>one k λe=>hk.2 k0 b0 a3 a1 (e ▸ hm),q2,λp hp=>⟨(q3 p hp).1,by show (c p.1).map _=_;rw[(q3 p hp).2,<-a2];rfl⟩⟩
def LP (K sz:Nat) (x:AV):AV:=
 match x with
 | .lit .dD=>.ms K sz 0 0
 |x=>x
def hasC (cs:List (Nat×Nat)) (k i:Nat):Bool:=cs.any λq=>Nat.beq q.1 k&&Nat.beq q.2 i
def alJ (cs:List (Nat×Nat)) (k K sz:Nat):Nat->bf->bf
 |_,[]=> []
 |i,x::l=>aP (hasC cs k i) (LP K sz x) x::alJ cs k K sz (i+1) l
def ayy (cs:List (Nat×Nat)) (K sz k:Nat) (b:Bx):Bx:=
 match b with
 | .flat e l=>.flat e (alJ cs k K sz 0 l)
 | .cy z e s l Q o=>.cy z e s l Q (o.map λp=>(p.1,aP (cs.any λq=>Nat.beq q.1 k) (LP K sz p.2) p.2))
 |b=>b
def LS.born (s:LS) (ts:bq) (cs:List (Nat×Nat)) (K:Nat) (z:Bool) (e sz:Nat):LS:=
 ⟨s.ts.map λp=>(p.1,aP (lO p.1 ts) (LP K sz p.2) p.2),(s.set K (.rows z e sz [])).bs.map λp=>(p.1,ayy cs K sz p.1 p.2)⟩
def NS {sz:Nat} (hb:(g K).b=false) (h:VA F g v x) (b:Bool):VA F g v (aP b (LP K sz x) x):=by
 rw[bG];split
 ·unfold LP;split
  ·cases h;exact .rl sz hb
  ·exact h
 ·exact h
def acg {cs:List (Nat×Nat)} {k K sz:Nat} (hb:(g K).b=false):∀{xs:bf} {vs:aY} {i:Nat},dz F g vs xs->dz F g vs (alJ cs k K sz i xs)
 | [],_,_,h=>h
 |x::l,_,i,.cons h t=>.cons (NS hb h _) (acg hb t)
def jM.born {cs:List (Nat×Nat)} {e sz:Nat} (hk:s.free K) (hp:pn K=false):jM pn s (s.born ts cs K z e sz):=.mk λ{F g Y c T H} r=>by
 let g2:Gb:=lR g K ⟨0,.k 0,false⟩;have hb:(g2 K).b=false:=by show (lR g K _ K).b=false;unfold lR;rw[aH rfl]
 obtain ⟨c',r2,_,_,_⟩:=r.chg (K:=K) (b':=.rows z e sz []) (L':= []) (g':=g2) (H':=H) (.nil hb) (by simp) (λp hp=>by cases hp) (λi hi=>absurd rfl hi) (.inr ⟨hk,λk cY=>aM cY⟩)
 refine ⟨F,g2,_,c',.refl _,λk jP=>aM λe=>(by rw[e,hp] at jP;cases jP),r2.ajU (ft:=λt x=>aP (lO t ts) (LP K sz x) x) (fb:=λk b=>ayy cs K sz k b) r2.fr (λt=>by rw[bG];split<;>rfl) (λt v x _ hv=>NS hb hv _) λk b L _ q=> ?_⟩
 cases q with
 |flat q=>exact .flat (acg hb q)
 |nil h=>exact .nil h
 |cy mQ hz hu hc q ho=>
  refine .cy mQ hz hu hc q λp hp=> ?_
  obtain ⟨p0,hp0,rfl⟩:=cP.1 hp;obtain ⟨v,v1,v2⟩:=ho p0 hp0;exact ⟨v,v1,NS hb v2 _⟩
 |map h1 h2=>exact .map h1 h2
 |iter=>exact .iter
def nSh (l:dW):dW:=aP (rh l) [] l
def aEI (q:TR F l vs Q L):TR F (nSh l) vs Q L:=by
 unfold nSh;rw[bG];split
 ·rename_i h;exact q.rh h rfl
 ·exact q
def TC.open {x x':Bool} {K2:Nat} {rows:bA} (q:TC F (.o x l2) v y L0) (hy:y=wc x' e2 xa n rows):∃gk L2,L2.Sublist L0/\∀g2:Gb,g2 K2=gk->eH F g2 K2 (.cy false e2 xa (nSh l2) rows []) L2/\VA F g2 v (.ms K2 xa 0 n):=by
 cases q with
 |any=>cases hy
 |nil=>
  injection hy with _ _ _ h1 h2
  subst h1;subst h2;exact ⟨⟨0,.k 0,false⟩,[],.refl _,λg2 e=>⟨.nil (by rw[e]),.rl _ (by rw[e])⟩⟩
 | @sl _ _ id cp svs e s n' Q L hn hu hc q=>
  injection hy with _ h1 h2 h3 h4
  subst h1;subst h2;subst h3;subst h4;subst hn;refine ⟨⟨id,cp,true⟩,_,.refl _,λg2 e=>⟨?_,?_⟩⟩
  ·have:=eH.cy (F:=F) (g:=g2) (K:=K2) (z:=false) (o:= []) (by rw[e]) (λh=>by cases h) hu (by rw[e];exact hc) (aEI q) (λp hp=>by cases hp)
   rwa[e] at this
  ·exact rl e
def avA (Q:bA) (j f:Nat) (x:Bool) (e2 s2 n:Nat) (rows:bA) (Q':bA):Prop:=∃R,Q[j]? =some R/\R[f]? =some (wc x e2 s2 n rows)/\Q.set j (gu R f [.undef])=Q'
def yh {R:bf} (h:f<R.length):gu R f [x]=R.set f x:=by
 show R.take f++ [x]++R.drop (f+1)=_;rw[List.set_eq_take_append_cons_drop,aH h];simp
def UC {sz:Nat} {R R':bf} (hu:∀r∈Q,r.length=sz) (h:R'.length=sz):∀r∈Q.set j R',r.length=sz:=λr hr=>by
 rcases YB hr with hr|rfl
 ·exact hu r hr
 ·exact h
def Z8 {R R':bf} (hj:Q[j]? =some R):Q.set j R'≠ []:=λe=>by
 have:=bM List.length e;rw[mY] at this;rw[vX.1 this] at hj;cases hj
def jM.opn {K2:Nat} {x x':Bool} {e sz:Nat} {rows:bA} (hb:lk K s.bs=some (.cy z e sz l Q o)) (hP:avA Q j f x' e2 xa n rows Q') (hl:(l.drop f).headD .d= .o x l2) (hk:s.free K2) (hp:pn K2=false) (hn:lk K2 s.bs=none):
  jM pn s ⟨s.ts,(K2,.cy false e2 xa (nSh l2) rows [])::(K,.cy z e sz l Q' ((j*sz+f,.ms K2 xa 0 n)::o))::s.bs⟩:=.mk λ{F g Y c T H} r=>by
 obtain ⟨R,hj,hf,rfl⟩:=hP;have hR:=(cf.1 hf).1;obtain ⟨s9,svs,L,hφ,hH,hu,hc,q,ho,_,hRl,_⟩:=r.row hb hj;obtain ⟨v,L1,L0,L2,h1,h2,h3,h4⟩:=q.foc hu hj hf;rw[hl] at h3 h4;obtain ⟨gk,LK,hs,eP⟩:=h3.open (K2:=K2) rfl;have cY:K≠K2:=λe=>by rw[e,hn] at hb;cases hb
 obtain ⟨b1,b2⟩:=eP (lR g K2 gk) (aH rfl);have gK:lR g K2 gk K=g K:=aM cY;have nd:=(r.bx K _ hb).2.1;rw[hφ,h2] at nd;have hv:svs[j*sz+f]? =some v:=by
  rw[fa] at h1;split at h1
  ·exact h1
  ·cases h1
 refine ⟨F,lR g K2 gk,_,_,.refl _,λk jP=>aM λe=>(by rw[e,hp] at jP;cases jP),r.split (b1:=.cy z e sz l (Q.set j (gu R f [.undef])) ((j*sz+f,.ms K2 xa 0 n)::o)) (L1:=((g K).n,.cells e svs)::(L1++([]++L2))) hb hk hn (λk cY=>aM cY) ?_ b1 (λp hp=> ?_) ?_⟩
 ·rw[<-gK];rw[yh hR];refine .cy (by rw[gK];exact s9) (λ_=>Z8 hj) (UC (R:=R) hu (by rw[mY];exact hRl)) (by rw[gK,mY];exact hc) (by rw[mY];exact h4 _ _ (.any v)) λp hp=> ?_
  rcases cH.1 hp with rfl|hp
  ·exact ⟨v,hv,b2⟩
  ·obtain ⟨w,w1,w2⟩:=ho p hp;exact ⟨w,w1,w2.same (.refl F) λk jP=>aM λ(ek:k=K2)=>hk.2 K _ cY hb (ek ▸ Ac (cP.2 ⟨p,hp,rfl⟩) k jP)⟩
 ·rw[hφ,h2];have:(((g K).n,SO.cells e svs)::(L1++([]++L2))++LK).Subset (((g K).n,SO.cells e svs)::(L1++(L0++L2))):=λp hp=>by
   have hs:= @(hs.subset);simp only[yy,cH,eO,jV] at hp ⊢;rcases hp with h|(h|h)|h
   ·exact .inl h
   ·exact .inr (.inl h)
   ·exact .inr (.inr (.inr h))
   ·exact .inr (.inr (.inl (hs h)))
  exact this hp
 ·have key:((((g K).n,SO.cells e svs)::(L1++([]++L2))++L0).map (·.1)).Nodup:=by
   refine (List.Perm.nodup_iff ?_).1 nd;refine List.Perm.map _ ?_;rw[yy,jV,lu];exact .cons _ (.append_left _ List.perm_append_comm)
  exact ((YA hs _).map _).nodup key
def VK (Q:bA) (j f:Nat) (y:AV) (Q':bA):Prop:=Df Q j f [y]=some Q'
def Rel.cls (r:Rel F g Y c s T H) {K2 p:Nat} {z2 x:Bool} {e sz:Nat} {l2':dW} {rows:bA} (hb:lk K s.bs=some (.cy z e sz l Q ((p,.ms K2 xa 0 n)::o))) (EI:lk K2 s.bs=some (.cy z2 e2 xa l2' rows [])) (hp:p=j*sz+f) (hn:rows.length=n) (hP:VK Q j f (wc x e2 xa n rows) Q') (hl:(l.drop f).headD .d= .o x l2) (hsh:Z7 l2' l2 rows=true) (hf:f<sz) (cY:K≠K2):
  ∃φ' c',(∀i k,c' i=some k->c i=some k\/(k=K/\c i=some K2))/\Rel F g φ' c' ⟨(s.nN K2).ts,(K,.cy z e sz l Q' (o.map λp=>(p.1,nI K2 p.2)))::kh K2 (s.nN K2).bs⟩ T H:=by
 obtain ⟨R,hj,hQ⟩:=aq hP;cases hQ;subst hp;obtain ⟨s9,svs,L,hφ,hH,hu,hc,q,ho,_,hRl,_⟩:=r.row hb hj;obtain ⟨xo,hxo⟩:∃xo,R[f]? =some xo:=⟨R[f]'(by omega),dJ _⟩
 obtain ⟨v,L1,L0,L2,h1,h2,h3,h4⟩:=q.foc hu hj hxo;rw[hl] at h4;obtain ⟨v',HJ,hx⟩:=ho _ jo;have ev:v'=v:=by
  rw[fa] at h1;split at h1
  ·exact kW (HJ.symm.trans h1)
  ·cases h1
 subst ev;obtain ⟨_,nd,own⟩:=r.bx K _ hb;obtain ⟨q2,nd2,aaw⟩:=r.bx K2 _ EI;have o4:TC F (.o x l2) v' (wc x e2 xa n rows) (Y K2):=by
  generalize Y K2=f2 at q2;cases q2 with
  |nil Jh=>
   cases hn;cases hx with
   |rl=>exact .nil
   |ms _ _ _ h=>rw[Jh] at h;cases h
   |xb _ _ h=>cases h
  |cy Jh xc hu1 sZ q1 EB=>
   subst hn;generalize hm:rows.length=m at hx;cases hx with
   |rl _ h=>rw[Jh] at h;cases h
   |xb _ _ h=>cases h
   |ms=>
    subst hm;rw[lT];have:FX (g K2).c 0=(g K2).c:=by cases (g K2).c<;>rfl
    rw[this];exact .sl rfl hu1 sZ (ahg hsh q1)
 have lf:∀{k b},lk k s.bs=some b->lk k (s.nN K2).bs=some (b.nN K2):=λ{k b} hb=>by
  rw[show (s.nN K2).bs=s.bs.map λp=>(p.1,p.2.nN K2) from rfl,Bi (λ(_:Nat) (b:Bx)=>b.nN K2),hb];rfl
 have sub:∀p∈((g K).n,SO.cells e svs)::(L1++(Y K2++L2)),p∈Y K\/p∈Y K2:=λp hp=>by
  rw[hφ,h2];simp only[cH,eO] at hp ⊢;rcases hp with h|h|h|h
  ·exact .inl (.inl h)
  ·exact .inl (.inr (.inl h))
  ·exact .inr h
  ·exact .inl (.inr (.inr (.inr h)))
 refine ⟨_,_,λi k h=> ?_,(r.nN K2).join (b1:=.cy z e sz l (Q.set j (gu R f [wc x e2 xa n rows])) (o.map λp=>(p.1,nI K2 p.2))) (L1:=((g K).n,.cells e svs)::(L1++(Y K2++L2))) (lf hb) (lf EI) cY ?_ sub ?_⟩
 ·split at h
  ·rename_i hm;obtain ⟨p,hp,rfl⟩:=cP.1 hm;cases h;exact (sub p hp).imp (λh=>(own p h).2) λh=>⟨rfl,(aaw p h).2⟩
  ·exact .inl h
 ·rw[yh (by omega)]
  refine .cy s9 (λ_=>Z8 hj) (UC (R:=R) hu (by rw[mY];exact hRl)) (by rw[mY];exact hc) (by rw[mY];exact h4 _ _ o4) λp hp=> ?_
  obtain ⟨p0,hp0,rfl⟩:=cP.1 hp;obtain ⟨w,w1,w2⟩:=ho p0 (fM _ hp0);exact ⟨w,w1,GJ w2⟩
 ·rw[hφ,h2] at nd own;have hd:∀p∈Y K2,∀p'∈((g K).n,SO.cells e svs)::(L1++(L0++L2)),p.1≠p'.1:=λp hp p' yS e0=>by
   have h1:=(aaw p hp).2;rw[e0,(own p' yS).2] at h1;exact cY (kW h1)
  have key:(((((g K).n,SO.cells e svs)::(L1++L2))++Y K2).map (·.1)).Nodup:=by
   rw[mw];have sl:(((g K).n,SO.cells e svs)::(L1++L2)).Sublist (((g K).n,SO.cells e svs)::(L1++(L0++L2))):=.cons_cons _ (YA (Yz _ _) _);refine DI.2 ⟨(sl.map _).nodup nd,nd2,λa ha b mQ e0=> ?_⟩
   obtain ⟨p',yS,rfl⟩:=cP.1 ha;obtain ⟨p,hp,rfl⟩:=cP.1 mQ;exact hd p hp p' (sl.subset yS) e0.symm
  refine (List.Perm.nodup_iff ?_).1 key;refine List.Perm.map _ ?_;rw[yy,lu];exact .cons _ (.append_left _ List.perm_append_comm)
def alC (sh:Sh) (y x:AV):Option AV:=
 match sh with
 | .d=>aP (jF x).isEmpty (some (cv y x)) none
 | .o b _=>(match x,y with
  | .lit .dD,.sl _ e s _ _=>some (wc b e s 0 [])
  |_,_=>none)
def aCa {y':AV} (h:alC sh y x=some y') (q:VA F g v x):TC F sh v y' []:=by
 unfold alC at h;split at h
 ·obtain ⟨h1,h⟩:=aV h;cases h;exact .d (CK (q.qR h1))
 ·split at h
  ·cases h;cases q;exact .nil
  ·cases h
def eH.cld {p:Nat} {e sz:Nat} {y':AV} (hp:p=j*sz+f) (hP:VK Q j f y' Q') (hy:alC ((l.drop f).headD .d) y x=some y') (hf:f<sz) (q:eH F g K (.cy z e sz l Q ((p,x)::o)) L):∃L',L'.Sublist L/\eH F g K (.cy z e sz l Q' o) L':=by
 obtain ⟨R,hj,hQ⟩:=aq hP;cases hQ;subst hp;cases q with
 | @cy _ _ _ _ _ _ svs L s9 hz hu hc q ho=>
 have hRl:=hu R (cN hj);obtain ⟨xo,hxo⟩:∃xo,R[f]? =some xo:=⟨R[f]'(by omega),dJ _⟩
 obtain ⟨v,L1,L0,L2,h1,h2,h3,h4⟩:=q.foc hu hj hxo;obtain ⟨v',HJ,hx⟩:=ho _ jo;have ev:v'=v:=by
  rw[fa] at h1;split at h1
  ·exact kW (HJ.symm.trans h1)
  ·cases h1
 subst ev;refine ⟨_,?_,.cy s9 (λ_=>Z8 hj) (UC (R:=R) hu (by rw[yh (by omega),mY];exact hRl)) (by rw[mY];exact hc) (by rw[yh (by omega),mY];exact h4 _ _ (aCa hy hx)) λp hp=>ho p (fM _ hp)⟩
 rw[h2];exact .cons_cons _ (YA (Yz _ _) _)
def jM.shr {u:Nat} {e sz:Nat} {P:bA} (hb:lk K s.bs=some (.cy z e sz l Q o)) (hP:Q.take u=P):jM pn s (s.set K (.cy false e sz l P [])):=by
 subst hP;refine jM.F8 hb λ{F g L} q=> ?_
 cases q with
 |nil hbf=>exact ⟨[],.refl _,by rw[List.take_nil];exact .nil hbf⟩
 | @cy _ _ _ _ _ _ svs L s9 hz hu hc q ho=>
  obtain ⟨L',hs,q'⟩:=q.take u hu;have hle:(Q.take u).length<=Q.length:=by rw[dZ];exact Nat.min_le_right _ _
  have e1:min (u*sz) (Q.length*sz)=(Q.take u).length*sz:=by
   rw[dZ];rcases Nat.le_total u Q.length with h|h
   ·rw[fE h,fE (kJ _ h)]
   ·rw[Nat.min_eq_right h,Nat.min_eq_right (kJ _ h)]
  rw[oB,e1] at q';refine ⟨_,.cons_cons _ hs,.cy s9 (λe=>by cases e) (λr hr=>hu r (qC hr)) ?_ q' λp hp=>by cases hp⟩
  cases hκ:(g K).c with
  |k m=>rw[hκ] at hc;exact ⟨jf hle hc.1,hc.2⟩
  |u e'=>rw[hκ] at hc;exact ⟨hc.1,jf (kJ _ hle) hc.2⟩
def cvQ:bA->bA->bA
 |w::ws,r::rs=>Jy w r::cvQ ws rs
 |_,rs=>rs
def aia:∀(ws xs:bf),(Jy ws xs).length=xs.length
 | [],_=>rfl
 |_::_,[]=>rfl
 |_::ws,_::xs=>bM Nat.succ (aia ws xs)
def LH:∀(W Q:bA),(cvQ W Q).length=Q.length
 | [],_=>rfl
 |_::_,[]=>rfl
 |_::W,_::Q=>bM Nat.succ (LH W Q)
def alx {sz:Nat}:∀{W Q:bA},(∀r∈Q,r.length=sz)->∀r∈cvQ W Q,r.length=sz
 | [],_,hu,r,hr=>hu r hr
 |_::_,[],_,r,hr=>by cases hr
 |w::W,q::Q,hu,r,hr=>by
  rcases cH.1 (show r∈Jy w q::cvQ W Q from hr) with rfl|hr
  ·rw[aia];exact hu q (by simp)
  ·exact alx (λr hr=>hu r (fM _ hr)) r hr
def arj:∀{W Q:bA} {vs:aY},dz F g vs Q.flatten->dz F g vs (cvQ W Q).flatten
 | [],_,_,q=>q
 |_::_,[],_,q=>q
 |w::W,r::Q,vs,q=>by
  rw[qB] at q;have q1:=q.take r.length;have q2:=q.drop r.length;rw[Yy] at q1;rw[Yx] at q2;have:=(ES (ws:=w) q1).append (arj (W:=W) q2);rw[DH] at this;exact this
def eH.brw {e sz:Nat} {W:bA} (ha:rh l=true) (q:eH F g K (.cy z e sz l Q o) L):∃L',L'.Sublist L/\eH F g K (.cy z e sz [] (cvQ W Q) o) L':=by
 cases q with
 |nil hb=>exact ⟨[],.refl _,by cases W<;>exact .nil hb⟩
 |cy hb hz hu hc q ho=>exact ⟨_,.cons_cons _ (Of _),.cy hb (λh e0=>hz h (vX.1 (by rw[<-LH W Q,e0];rfl))) (alx hu) (by rw[LH];exact hc) (by rw[LH];exact .uG (alx hu) (arj (q.rh ha rfl).dat)) ho⟩
inductive Gp where
 |fX (K m n:Nat)
 |jl (K K':Nat)
 |born (ts:bq) (cs:List (Nat×Nat)) (K:Nat) (z:Bool) (e sz:Nat)
 |shr (K u:Nat) (P:bA)
 |opn (K K2 j f e2 s2 n:Nat) (rows Q':bA)
 |cls (K K2 j f n:Nat) (Q':bA)
 |cld (K j f:Nat) (y:AV) (Q':bA)
 |vis (t:Nat) (y:AV)
 |bis (K:Nat) (b:Bx)
 |zJ (t:Nat) (w:AV)
 |pZ (K:Nat) (w:Bx)
 |brw (K:Nat) (W:bA)
def shX (l:dW) (f:Nat):Option (Bool×dW):=
 match (l.drop f).headD .d with
 | .o x l2=>some (x,l2)
 |_=>none
def Z6 {p:Bool×dW} (h:shX l f=some p):(l.drop f).headD .d= .o p.1 p.2:=by
 unfold shX at h;split at h
 ·rename_i e;cases h;exact e
 ·cases h
def GC (pn:Nat->Bool) (s:LS) (gp:Gp) (ob:Prop->cB):Option (List cB×LS):=
 match gp with
 | .fX K m n=>az (lk K s.bs) λb=>some (abH s K n b ob,s.abI K m n b)
 | .jl K K'=>aP (Lz s K'&&(!pn K'&&(lk K' s.bs).isNone)) (some ([],s.jl K K')) none
 | .born ts cs K z e sz=>aP (Lz s K && !pn K) (some ([],s.born ts cs K z e sz)) none
 | .shr K u P=>az (lk K s.bs) λb=>(match b with
  | .cy _ e sz l Q _=>some ([ob (Q.take u=P)],s.set K (.cy false e sz l P []))
  |_=>none)
 | .opn K K2 j f e2 s2 n rows Q'=>az (lk K s.bs) λb=>(match b with
  | .cy z e sz l Q o=>az (shX l f) λx=>aP (Lz s K2&&(!pn K2&&(lk K2 s.bs).isNone)) (some ([ob (avA Q j f x.1 e2 s2 n rows Q')],⟨s.ts,(K2,.cy false e2 s2 (nSh x.2) rows [])::(K,.cy z e sz l Q' ((Nat.add (Nat.mul j sz) f,.ms K2 s2 0 n)::o))::kh K s.bs⟩)) none
  |_=>none)
 | .cls K K2 j f n Q'=>bU (lk K s.bs) (lk K2 s.bs) λb b2=>(match b,b2 with
  | .cy z e sz l Q ((p,.ms k2 s2 0 n0)::o),.cy _ e2 xa l2' rows []=>az (shX l f) λx=>aP ((Nat.beq k2 K2&&Nat.beq s2 xa)&&(Z7 l2' x.2 rows&&(Nat.ble (Nat.succ f) sz && !Nat.beq K K2)))
    (some ([ob (rows.length=n/\VK Q j f (wc x.1 e2 xa n rows) Q'),eqO n0 n,eqO p (Nat.add (Nat.mul j sz) f)],⟨(s.nN K2).ts,(K,.cy z e sz l Q' (o.map λp=>(p.1,nI K2 p.2)))::kh K (kh K2 (s.nN K2).bs)⟩)) none
  |_,_=>none)
 | .cld K j f y Q'=>az (lk K s.bs) λb=>(match b with
  | .cy z e sz l Q ((p,x)::o)=>az (alC ((l.drop f).headD .d) y x) λy'=>aP (Nat.ble (Nat.succ f) sz) (some ([ob (VK Q j f y' Q'),eqO p (Nat.add (Nat.mul j sz) f)],s.set K (.cy z e sz l Q' o))) none
  |_=>none)
 | .vis t y=>az (lk t s.ts) λx=>some ([ob (x=y)],⟨(t,y)::kh t s.ts,s.bs⟩)
 | .bis K b=>az (lk K s.bs) λb0=>some ([ob (b0=b)],⟨s.ts,(K,b)::kh K s.bs⟩)
 | .zJ t w=>az (lk t s.ts) λx=>some ([],⟨(t,cv w x)::kh t s.ts,s.bs⟩)
 | .pZ K w=>az (lk K s.bs) λb=>some ([],s.set K (cvX w b))
 | .brw K W=>az (lk K s.bs) λb=>(match b with
  | .cy z e sz l Q o=>aP (rh l) (some ([],s.set K (.cy z e sz [] (cvQ W Q) o))) none
  |_=>none)
def jM.lks (h1:∀t,lk t s'.ts=lk t s.ts) (h2:∀k,lk k s'.bs=lk k s.bs):jM pn s s':=.mk λr=>⟨_,_,_,_,.refl _,λ_ _=>rfl,r.sub (λt x h=>(h1 t).symm.trans h) λk b h=>(h2 k).symm.trans h⟩
def vn {t:Nat} {x:J} {l:List (Nat×J)}:lk k ((t,x)::kh t l)=lk k ((t,x)::l):=by
 rw[dy,dy,vm];split
 ·rfl
 ·rfl
def Rel.gcls (r:Rel F g Y c s T H) {K2:Nat} {ob:Prop->cB} (gO:∀P,(ob P).need=P) {q:List cB×LS} (h:GC pn s (.cls K K2 j f n Q') ob=some q) (ho:iA q.1):∃φ' c',(∀i k,c' i=some k->c i=some k\/(k=K/\c i=some K2))/\Rel F g φ' c' q.2 T H:=by
 obtain ⟨b,b2,hb,EI,h⟩:=bp h;split at h
 ·rename_i z e sz l Q p k2 s2 n0 o z2 e2 xa l2' rows;obtain ⟨x,hx,h⟩:=aq h;obtain ⟨h1,h⟩:=aV h;cases h;simp only[bF] at h1;obtain ⟨⟨k1,k3⟩,k4,k5,k6⟩:=h1;obtain rfl:=(beq_iff _ _).1 k1;obtain rfl:=(beq_iff _ _).1 k3;obtain ⟨hp,hn,hpp,_⟩:=ho;rw[gO] at hp;have hn:n0=n:=hn;subst hn;obtain ⟨φ',c',a1,a2⟩:=r.cls hb EI hpp hp.1 hp.2 (Z6 hx) k4 ((bV _ _).1 k5) (λe=>by rw[(beq_iff _ _).2 e] at k6;cases k6)
  exact ⟨φ',c',a1,a2.sub (λ_ _ h=>h) λk b h=>vn.symm.trans h⟩
 ·cases h
def auu {gp:Gp} {ob:Prop->cB} (gO:∀P,(ob P).need=P) {q:List cB×LS} (h:GC pn s gp ob=some q) (ho:iA q.1):jM pn s q.2:=by
 cases gp with
 |fX K m n=>
  obtain ⟨b,hb,h⟩:=aq h;cases h;exact .mk λr=>by
   obtain ⟨F',c',hF,_,r'⟩:=r.fX (m:=m) gO hb ho;exact ⟨F',_,_,c',hF,λ_ _=>rfl,r'⟩
 |jl K K'=>
  obtain ⟨h1,h⟩:=aV h;cases h;simp only[bF] at h1;exact jM.jl (BC h1.1) (by simpa using h1.2.1) (by simpa using h1.2.2)
 |born ts cs K z e sz=>
  obtain ⟨h1,h⟩:=aV h;cases h;rw[bF] at h1;exact jM.born (BC h1.1) (by simpa using h1.2)
 |shr K u P=>
  obtain ⟨b,hb,h⟩:=aq h;split at h
  ·cases h;have hp:=ho.1;rw[gO] at hp;exact jM.shr hb hp
  ·cases h
 |opn K K2 j f e2 s2 n rows Q'=>
  obtain ⟨b,hb,h⟩:=aq h;split at h
  ·rename_i z e sz l Q o;obtain ⟨x,hx,h⟩:=aq h;obtain ⟨h1,h⟩:=aV h;cases h;simp only[bF] at h1;have hp:=ho.1;rw[gO] at hp;refine (jM.opn hb hp (Z6 hx) (BC h1.1) (by simpa using h1.2.1) (by simpa using h1.2.2)).trans (jM.lks (λ_=>rfl) λk=> ?_)
   show lk k ((K2,_)::(K,_)::kh K s.bs)=lk k ((K2,_)::(K,_)::s.bs);rw[dy,dy (k:=K2),vn];rfl
  ·cases h
 |cls K K2 j f n Q'=>exact .mk λr=>
  let ⟨φ',c',_,r'⟩:=r.gcls gO h ho;⟨_,_,φ',c',.refl _,λ_ _=>rfl,r'⟩
 |cld K j f y Q'=>
  obtain ⟨b,hb,h⟩:=aq h;split at h
  ·rename_i z e sz l Q p x o;obtain ⟨y',hy,h⟩:=aq h;obtain ⟨h1,h⟩:=aV h;cases h;obtain ⟨hp,hpp,_⟩:=ho;rw[gO] at hp;exact jM.F8 hb λq=>eH.cld hpp hp hy ((bV _ _).1 h1) q
  ·cases h
 |vis t y=>
  obtain ⟨x,hx,h⟩:=aq h;cases h;have hp:=ho.1;rw[gO] at hp;subst hp;refine jM.lks (λk=> ?_) λ_=>rfl
  show lk k ((t,x)::kh t s.ts)=_;rw[vn,dy];split
  ·rename_i e;rw[e,hx]
  ·rfl
 |bis K b=>
  obtain ⟨x,hx,h⟩:=aq h;cases h;have hp:=ho.1;rw[gO] at hp;subst hp;refine jM.lks (λ_=>rfl) λk=> ?_
  show lk k ((K,x)::kh K s.bs)=_;rw[vn,dy];split
  ·rename_i e;rw[e,hx]
  ·rfl
 |zJ t w=>
  obtain ⟨x,hx,h⟩:=aq h;cases h;refine .mk λ{F g Y c T H} r=>⟨F,g,Y,c,.refl _,λ_ _=>rfl,{r with tm:=λk y hy hn=> ?_}⟩
  rw[show ({ts:=(t,cv w x)::kh t s.ts,bs:=s.bs}:LS).ts=(t,cv w x)::kh t s.ts from rfl,vn,dy] at hy;split at hy
  ·rename_i e;cases hy;obtain ⟨v,v1,v2⟩:=r.tm t x hx λe=>hn (by rw[e];exact NO w)
   exact ⟨v,e ▸ v1,CK v2⟩
  ·exact r.tm k y hy hn
 |pZ K w=>
  obtain ⟨b,hb,h⟩:=aq h;cases h;exact jM.F8 hb λq=>⟨_,.refl _,abY q⟩
 |brw K W=>
  obtain ⟨b,hb,h⟩:=aq h;split at h
  ·obtain ⟨ha,h⟩:=aV h;cases h;exact jM.F8 hb λq=>q.brw ha
  ·cases h
end
end Go.bZ
namespace Go.bZ
open Go.RowKit
variable {f nx nx' K k j i:Nat} {v:SV} {H' F1:Hf} {o:SO} {bs gb:cL} {c1 c':Nat->bP} {gc:Gb} {φ':Nat->Ow}
section
variable {F F':Hf} {g g':Gb} {Y:Nat->Ow} {c:Nat->bP} {s s':LS} {T:Tf} {H:Hf} {E:Env} {pn:Nat->Bool}
def mF (k:Nat):Bool:=Nat.ble 1152921504606846976 k
def evK (k:Nat):Bool:=Nat.beq (Nat.mod (Nat.div k 4294967296) 2) 0
def pnL (ks:bq) (k:Nat):Bool:=mF k||(evK k&&lO k ks)
def uH (bs:cL):bq:=bs.map (·.1)
def noT:Tf:=λ_=>none
structure km (ro:Bool) (E:Env) (f:Nat) (bs:cL) (xs:bf) (y:AV) (gb:cL):Prop where
 go:∀{F:Hf} {g:Gb} {Y:Nat->Ow} {c:Nat->bP} {H:Hf} {nx:Nat} {aa:aY},Rel F g Y c ⟨[],bs⟩ noT H->(∀x,nx<=x->H x=none)->dz F g aa xs->∃F' g' φ' c' v H' nx',oA E false (.fn (.func f) [] []) aa H nx v H' nx'/\nx<=nx'/\(∀x,nx'<=x->H' x=none)/\
  nq F F'/\(∀k,pnL (uH bs) k=true->g' k=g k)/\VA F' g' v y/\Rel F' g' φ' c' ⟨[],gb⟩ noT H'/\(∀x,x<nx->H' x≠none->H x≠none)/\(ro=true->∀x,H x≠none->H' x=H x/\c' x=c x)
abbrev gj (E:Env) (f:Nat) (bs:cL) (xs:bf) (y:AV) (gb:cL):Prop:=km false E f bs xs y gb
def aoN {fi aa ca:aY} (h:oA E false (.fn (.func f) [] []) (fi++aa++ca) H nx v H' nx'):oA E false (.fn (.func f) fi ca) aa H nx v H' nx':=λm g w u us hE hr eQ hu jG=>by
 cases hu with
 | @fn _ first eG _ _ h1 h2=>
 have h0:VR g (.func (.func f) #[] #[]) (.fn (.func f) [] []):=.fn .nil .nil;obtain ⟨d,hd,hc⟩:=h m g w _ (first.toList++us++eG.toList) hE hr eQ h0 ((h1.append jG).append h2)
 have hd:Result.ok ({target:=.fn (.func f) #[],args:= #[]++(first.toList++us++eG.toList).toArray}:Deferred) w=Result.ok d w:=hd
 injection hd with e
 subst e;have key:invoke (.fn (.func f) #[]) (#[]++(first.toList++us++eG.toList).toArray)=invoke (.fn (.func f) eG) (first++us.toArray):=by
  show callFunc f (#[]++(first.toList++us++eG.toList).toArray++ #[])=callFunc f (first++us.toArray++eG)
  congr 1;apply uC;simp
 refine ⟨{target:=.fn (.func f) eG,args:=first++us.toArray},rfl,?_⟩
 show (∃k aa,Sem.run E.P (invoke (.fn (.func f) eG) (first++us.toArray)) w=_/\_)\/(∃l k tmps aa bo,Sem.run E.P (invoke (.fn (.func f) eG) (first++us.toArray)) w=_/\_)\/∃r w',Sem.run E.P (invoke (.fn (.func f) eG) (first++us.toArray)) w=_/\_
 rw[<-key];exact hc
abbrev gH:=List (Nat×Nat)
def iP (al:gH):gH:=al.map λq=>(q.2,q.1)
def rm (al:gH) (K:Nat):Nat:=(lk K al).getD K
def NF (l:gH) (K:Nat):Bool:=(lk K l).isSome
def Ai (al:gH):Bool:=al.all λq=>Nat.beq (rm al q.1) q.2&&Nat.beq (rm (iP al) q.2) q.1
def idP (al:gH) (k:Nat):Bool:=mF k&&(!NF al k && !NF (iP al) k)
def Eo {J:Type} {t:Nat} {x:J}:∀{l:List (Nat×J)},(t,x)∈l->∃y,lk t l=some y
 |(k,y)::l,h=>by
  rw[dy];split
  ·exact ⟨_,rfl⟩
  ·rename_i e;rcases cH.1 h with h|h
   ·exact absurd (bM Prod.fst h) e
   ·exact Eo h
def IQ {J:Type} {t:Nat} {x:J} (b:List (Nat×J)):∀{a:List (Nat×J)},lk t a=some x->lk t (a++b)=some x
 |(k,y)::a,h=>by
  rw[yy];rw[dy] at h ⊢;split
  ·rename_i e;rw[aH e] at h;exact h
  ·rename_i e;rw[aM e] at h;exact IQ b h
def tz {l:gH} (h:lk K l=some k):rm l K=k:=by unfold rm;rw[h];rfl
def By {al:gH} (hg:Ai al=true) (h:(K,k)∈al):lk K al=some k/\lk k (iP al)=some K:=by
 have:=kK.1 ((iT.1 hg) (K,k) h);obtain ⟨j,hj⟩:=Eo h;obtain ⟨j',I7⟩:=Eo (l:=iP al) (cP.2 ⟨(K,k),h,rfl⟩);have e1:=(beq_iff _ _).1 this.1;have e2:=(beq_iff _ _).1 this.2;rw[tz hj] at e1;rw[tz I7] at e2;exact ⟨(show j=k from e1) ▸ hj,(show j'=K from e2) ▸ I7⟩
def tw {al:gH} (hg:Ai al=true):lk k (iP al)=some K↔lk K al=some k:=by
 constructor
 ·intro h;obtain ⟨q,hq,e⟩:=cP.1 (nW h);cases e;exact (By hg hq).1
 ·exact λh=>(By hg (nW h)).2
def ahC {l:gH} (h:(!NF l k)=true):lk k l=none:=by
 unfold NF at h;cases hl:lk k l with
 |none=>rfl
 |some j=>rw[hl] at h;cases h
def abm {al:gH} (h:idP al k=true):mF k=true/\lk k al=none/\lk k (iP al)=none:=by
 have h:=kK.1 (show (mF k&&(!NF al k && !NF (iP al) k))=true from h);have h2:=kK.1 h.2;exact ⟨h.1,ahC h2.1,ahC h2.2⟩
def EM {l:gH} (h:lk k l=none):rm l k=k:=by unfold rm;rw[h];rfl
def inK (ps al:gH) (k:Nat):Bool:=NF ps k||idP al k
def blP (al:gH) (k:Nat):Bool:=match lk k al with|some k'=>mF k'|none=>false
def inP (ps al:gH) (k:Nat):Bool:=inK ps al k||blP al k
def Cs (al:gH):gH:=al.filter λq=> !mF q.2
def apA {al:gH} (hg:Ai al=true):lk j (Cs al)=some k↔lk j al=some k/\mF k=false:=by
 have fwd:∀{k},lk j (Cs al)=some k->lk j al=some k/\mF k=false:=λ{k} h=>by
  obtain ⟨h1,h2⟩:=lr.1 (nW h);exact ⟨(By hg h1).1,by simpa using h2⟩
 refine ⟨fwd,λ⟨h1,h2⟩=> ?_⟩
 obtain ⟨y,hy⟩:=Eo (l:=Cs al) (lr.2 ⟨nW h1,by simp[h2]⟩)
 have:=(fwd hy).1;rw[h1] at this;cases this;exact hy
def MO {al:gH} (hg:Ai al=true) (h:lk j (Cs al)=none) (hk:lk j al=some k):mF k=true:=by
 cases hb:mF k with
 |true=>rfl
 |false=>rw[(apA hg).2 ⟨hk,hb⟩] at h;cases h
def Pd (ps al:gH) (sb:cL):cL->Option cL
 | []=>some []
 |p::l=>bU (az (lk p.1 (iP ps)) λK=>lk K sb) (Pd ps al sb l) λb r=>aP (b.keys.all (inP ps al)) (some ((p.1,cvX p.2 (b.jl (rm al)))::r)) none
def aau {ps al:gH} {sb:cL} {k:Nat} {b':Bx}:∀{l r:cL},Pd ps al sb l=some r->lk k r=some b'->∃K b w,lk k (iP ps)=some K/\lk K sb=some b/\b.keys.all (inP ps al)=true/\b'=cvX w (b.jl (rm al))
 | [],r,h,hk=>by cases h;cases hk
 |p::l,r,h,hk=>by
  obtain ⟨b,r',h1,h2,h⟩:=bp h;obtain ⟨K,hK,hb⟩:=aq h1;obtain ⟨h3,h⟩:=aV h;cases h;rw[dy] at hk;split at hk
  ·rename_i e;cases hk;exact ⟨K,b,p.2,e ▸ hK,hb,h3,rfl⟩
  ·exact aau h2 hk
open Classical in
def qx (F:Hf) (c:Nat->bP) (ps:gH) (H:Hf):Hf:=λi=>if F i≠none\/∃K,c i=some K/\lk K ps≠none then H i else none
def Nt {ps:gH} (h:qx F c ps H i=some o):H i=some o:=by
 unfold qx at h;split at h
 ·exact h
 ·cases h
def aJs {ps rs:gH} (hg:Ai (ps++rs)=true):lk k (iP ps)=some K->lk K ps=some k/\lk K (ps++rs)=some k/\rm (iP (ps++rs)) k=K:=λh=>by
 obtain ⟨q,hq,e⟩:=cP.1 (nW h);cases e;obtain ⟨a,b⟩:=By hg (gB _ hq);obtain ⟨j,hj⟩:=Eo hq;have:=IQ rs hj;rw[a] at this;cases this;exact ⟨hj,a,tz b⟩
def axB {ps rs:gH} (hg:Ai (ps++rs)=true) (h:inP ps (ps++rs) j=true):g (rm (iP (ps++rs)) (rm (ps++rs) j))=g j:=by
 rcases (pC _ _).mp h with h|h
 rcases (pC _ _).mp h with h|h
 ·obtain ⟨k,hk⟩:=Oe.1 (show (lk j ps).isSome=true from h);obtain ⟨a,b⟩:=By hg (gB _ (nW hk));rw[tz a,tz b]
 ·obtain ⟨_,a,b⟩:=abm h;rw[EM a,EM b]
 ·unfold blP at h;split at h
  ·rename_i k hk;rw[tz hk,tz ((tw hg).2 hk)]
  ·cases h
def Rel.enter (r:Rel F g Y c s T H) {ps rs:gH} {bsw:cL} (hg:Ai (ps++rs)=true) (hp:Pd ps (ps++rs) s.bs bsw=some bs):
  Rel F (λk=>g (rm (iP (ps++rs)) k)) (λk=>Y (rm (iP (ps++rs)) k)) (λi=>(c i).bind λK=>lk K ps) ⟨[],bs⟩ noT (qx F c ps H):=by
 refine ⟨λt x hx=>(by cases hx),λk b' hk=> ?_,λi o hi=>⟨?_,?_⟩,λi hi=> ?_⟩
 ·obtain ⟨K,b,w,h1,h2,h3,rfl⟩:=aau hp hk;obtain ⟨a1,a2,a3⟩:=aJs hg h1;obtain ⟨q1,q2,q3⟩:=r.bx K b h2;rw[a3];refine ⟨abY (q1.mv (.refl F) (bM g a3) λj hj=>axB hg (iT.1 h3 j hj)),q2,λp hp=> ?_⟩
  obtain ⟨p1,p2⟩:=q3 p hp;refine ⟨?_,by rw[p2];exact a1⟩
  show (if F p.1≠none\/∃K,c p.1=some K/\lk K ps≠none then H p.1 else none)=_
  rw[aH (.inr ⟨K,p2,by rw[a1];simp⟩)]
  exact p1
 ·show (if F i≠none\/∃K,c i=some K/\lk K ps≠none then H i else none)=_
  rw[aH (.inl (by rw[hi];simp))]
  exact (r.fr i o hi).1
 ·rw[(r.fr i o hi).2];rfl
 ·have hi:(if F i≠none\/∃K,c i=some K/\lk K ps≠none then H i else none)=none:=hi
  cases hc:c i with
  |none=>rfl
  |some K=>
   split at hi
   ·rw[r.cn i hi] at hc;cases hc
   ·rename_i h;show lk K ps=none;exact nu λhn=>h (.inr ⟨K,hc,hn⟩)
def akk (al:gH):cL->Option cL
 | []=>some []
 |p::l=>bU (lk p.1 (iP al)) (akk al l) λK r=>aP (!mF p.1&&p.2.keys.all (inK (iP al) al)) (some ((K,p.2.jl (rm (iP al)))::r)) none
def ahA {al:gH} {K:Nat} {b':Bx}:∀{l r:cL},akk al l=some r->lk K r=some b'->∃k b,(k,b)∈l/\lk k (iP al)=some K/\(mF k=false/\b.keys.all (inK (iP al) al)=true)/\b'=b.jl (rm (iP al))
 | [],r,h,hk=>by cases h;cases hk
 |p::l,r,h,hk=>by
  obtain ⟨K',r',h1,h2,h⟩:=bp h;obtain ⟨h3,h⟩:=aV h;cases h;rw[dy] at hk;split at hk
  ·rename_i e;cases hk;exact ⟨p.1,p.2,by simp,e ▸ h1,by simpa[bF] using h3,rfl⟩
  ·obtain ⟨k,b,m1,m2,m3,m4⟩:=ahA h2 hk;exact ⟨k,b,fM _ m1,m2,m3,m4⟩
def abW (l:cL):Bool:=match l with| []=>true|p::l=>(lk p.1 l).isNone&&abW l
def ahX {k:Nat} {b:Bx}:∀{l:cL},abW l=true->(k,b)∈l->lk k l=some b
 |p::l,h,hm=>by
  have h:=kK.1 (show ((lk p.1 l).isNone&&abW l)=true from h);rw[show p::l=(p.1,p.2)::l from rfl,dy];rcases cH.1 hm with e|hm
  ·rw[<-e,aH rfl]
  ·split
   ·rename_i e;obtain ⟨y,hy⟩:=Eo hm;rw[e] at hy;rw[hy] at h;cases h.1
   ·exact ahX h.2 hm
def GQ (al:gH) (l:cL):cL:=
 match al with
 | []=>l
 |q::al=>kh q.1 (GQ al l)
def aaR {k:Nat} {b:Bx}:∀{al:gH} {l:cL},lk k (GQ al l)=some b->lk k l=some b/\lk k al=none
 | [],_,h=>⟨h,rfl⟩
 |q::al,l,h=>by
  have h:lk k (kh q.1 (GQ al l))=some b:=h;rw[vm] at h;split at h
  ·cases h
  ·rename_i e;obtain ⟨a,b⟩:=aaR h;exact ⟨a,by rw[show q::al=(q.1,q.2)::al from rfl,dy,aM e];exact b⟩
def LS.wD (s:LS):bq->LS
 | []=>s
 |K::l=>(s.nN K).wD l
def Rel.wD:∀{l:bq} {s:LS},Rel F g Y c s T H->Rel F g Y c (s.wD l) T H
 | [],_,r=>r
 |K::l,s,r=>show Rel F g Y c ((s.nN K).wD l) T H from Rel.wD (r.nN K)
def Rel.leave (r:Rel F g Y c s T H) (eV:∀x,nx<=x->H x=none) {F2:Hf} (sZ:∀i k,c1 i=some k->c i=some k) (hF1:nq F F1) (CD:∀i o,F1 i=some o->H i=some o/\c1 i=none) {ps rs:gH} {out:cL} (hg:Ai (ps++rs)=true) (hnb:(ps.all λq=> !mF q.2)=true) (hgc:gc=λk=>g (rm (iP (ps++rs)) k)) (hF':nq F1 F') (r':Rel F' g' φ' c' ⟨[],gb⟩ noT H') (hold:∀x,x<nx->H' x≠none->qx F1 c1 ps H x≠none) (hbd':∀x,nx'<=x->H' x=none) (eQ:nx<=nx') (hA:nq F F2) (hB:∀i o,F2 i=some o->F' i=some o/\(F1 i≠none->F i≠none)) (hbx:∀k b L,lk k gb=some b->eH F' g' k b L->eH F2 g' k b L) (ho:akk (ps++rs) gb=some out) (hdup:abW gb=true) (uv:∀k,mF k=true->g' k=gc k) (akP:∀K k,lk K (ps++rs)=some k->g' k=gc k\/(∀t x,lk t s.ts=some x->K∉jF x)/\∀j b,lk j s.bs=some b->K∉b.keys):
  ∃g2 φ2 c2 H2,(∀K,lk K (ps++rs)=none->g2 K=g K)/\(∀K k,lk K (ps++rs)=some k->g2 K=g' k)/\Rel F2 g2 φ2 c2 ⟨s.ts,out++GQ (Cs (ps++rs)) s.bs⟩ T H2/\(∀x,nx'<=x->H2 x=none)/\
   (∀x,H x≠none->(∀K,c x=some K->lk K ps=none)->H2 x=H x/\c2 x=c x)/\(∀x,x<nx->H2 x≠none->H x≠none)/\(∀x,H' x≠qx F1 c1 ps H x->H2 x=H' x)/\(∀x,H' x=qx F1 c1 ps H x->H2 x=H x)/\∀x,H x≠none->(qx F1 c1 ps H x≠none->H' x=qx F1 c1 ps H x/\c' x=(c1 x).bind λK=>lk K ps)->H2 x=H x/\c2 x=c x:=by
 classical
 generalize HM:ps++rs=al at*;let H0:=qx F1 c1 ps H;let H2:Hf:=λx=>if H' x≠H0 x then H' x else H x
 let dom:Nat->Prop:=λi=>nx<=i\/∃K,c1 i=some K/\lk K ps≠none
 let c2:Nat->bP:=λi=>if dom i then (c' i).bind λk=>lk k (iP al) else c i
 let g2:Gb:=λj=>(lk j al).elim (g j) λk=>g' k
 let φ2:Nat->Ow:=λj=>(lk j (Cs al)).elim (Y j) λk=>φ' k
 have avC:∀{i o},H0 i=some o->H i=some o:=Nt;have up:∀{i o},H' i=some o->H2 i=some o:=λ{i o} hi=>by
  show (if H' i≠H0 i then H' i else H i)=_
  split
  ·exact hi
  ·rename_i h;have h:H' i=H0 i:=nu h;exact avC (h ▸ hi)
 have H0F:∀{i},H0 i≠none->¬dom i->F1 i≠none:=λ{i} h hd hf=>by
  refine h ?_;show (if F1 i≠none\/∃K,c1 i=some K/\lk K ps≠none then H i else none)=none
  rw[aM];rintro (h1|h1)
  ·exact h1 hf
  ·exact hd (.inr h1)
 have avH:∀{i},F1 i≠none->∃o,F1 i=some o/\H' i=some o/\H0 i=some o/\c' i=none:=λ{i} h=>by
  obtain ⟨o,ho⟩:=su.1 h;obtain ⟨a,b⟩:=r'.fr i o (hF' i o ho);refine ⟨o,ho,a,?_,b⟩;show (if F1 i≠none\/∃K,c1 i=some K/\lk K ps≠none then H i else none)=_
  rw[aH (.inl h)];exact (CD i o ho).1
 have same:∀{x},H x≠none->¬dom x->H2 x=H x/\c2 x=c x:=λ{x} hx hd=>by
  refine ⟨?_,aM hd⟩;show (if H' x≠H0 x then H' x else H x)=_
  split
  ·rename_i cY;exfalso;by_cases h0:H0 x=none
   ·exact hold x (xA λh=>hd (.inl h)) (λe=>cY (e.trans h0.symm)) h0
   ·obtain ⟨o,_,a,b,_⟩:=avH (H0F h0 hd);exact cY (a.trans b.symm)
  ·rfl
 have lt:∀{x},H x≠none->x<nx:=λ{x} hx=>xA λh=>hx (eV x h)
 have g2n:∀{j},lk j al=none->g2 j=g j:=λ{j} h=>by show (lk j al).elim _ _=_;rw[h];rfl
 have g2s:∀{j k},lk j al=some k->g2 j=g' k:=λ{j k} h=>by show (lk j al).elim _ _=_;rw[h];rfl
 have gcK:∀{K k},lk K al=some k->gc k=g K:=λ{K k} h=>by rw[hgc];show g (rm (iP al) k)=_;rw[tz ((tw hg).2 h)]
 have keep:∀{j},((∃t x,lk t s.ts=some x/\j∈jF x)\/∃i b,lk i s.bs=some b/\j∈b.keys)->g2 j=g j:=λ{j} hj=>by
  cases h:lk j al with
  |none=>exact g2n h
  |some k=>
   rw[g2s h];rcases akP j k h with e|⟨e1,e2⟩
   ·rw[e,gcK h]
   ·rcases hj with ⟨t,x,h1,h2⟩|⟨i,b,h1,h2⟩
    ·exact absurd h2 (e1 t x h1)
    ·exact absurd h2 (e2 i b h1)
 refine ⟨g2,φ2,c2,H2,λK=>g2n,λK k=>g2s,⟨λt x hx hu=> ?_,λj b hj=> ?_,λi o hi=> ?_,λi hi=> ?_⟩,λx hx=> ?_,λx hx hW=>same hx ?_,λx hx h2=> ?_,λx h=>aH h,λx h=>aM (λhn=>hn h),λx hx hl=> ?_⟩
 ·obtain ⟨v,v1,v2⟩:=r.tm t x hx hu;exact ⟨v,v1,v2.same hA λk hk=>keep (.inl ⟨t,x,hx,hk⟩)⟩
 ·have hj:lk j (out++GQ (Cs al) s.bs)=some b:=hj;cases aby:lk j out with
  |some b1=>
   rw[IQ _ aby] at hj;cases hj;obtain ⟨k,b0,m1,m2,m3,rfl⟩:=ahA ho aby;have o6:=ahX hdup m1;have hja:=(tw hg).1 m2;obtain ⟨q1,q2,q3⟩:=r'.bx k b0 o6;rw[show φ2 j=φ' k from by show (lk j (Cs al)).elim _ _=_;rw[(apA hg).2 ⟨hja,m3.1⟩];rfl]
   refine ⟨(hbx k b0 _ o6 q1).mv (.refl F2) (g2s hja) λi hi=> ?_,q2,λp hp=> ?_⟩
   ·rcases (pC _ _).mp (iT.1 m3.2 i hi) with h|h
    ·obtain ⟨K',hK'⟩:=Oe.1 (show (lk i (iP al)).isSome=true from h);rw[tz hK'];exact g2s ((tw hg).1 hK')
    ·obtain ⟨h1,h2,h3⟩:=abm h;rw[EM h3,g2n h2,uv i h1,hgc];show g i=g (rm (iP al) i);rw[EM h3]
   ·obtain ⟨p1,p2⟩:=q3 p hp;refine ⟨up p1,?_⟩;have hd:dom p.1:=nu λhd=>by
     have h0:=hold p.1 (xA λh=>hd (.inl h)) (by rw[p1];simp)
     obtain ⟨_,_,_,_,h⟩:=avH (H0F h0 hd);rw[h] at p2;cases p2
    show (if dom p.1 then _ else _)=_
    rw[aH hd,p2];exact m2
  |none=>
   have hj:lk j (GQ (Cs al) s.bs)=some b:=by
    have key:∀{a:cL} {d},lk j a=none->lk j (a++d)=lk j d:=λ{a d}=>by
     induction a with
     |nil=>exact λ_=>rfl
     |cons p a ih=>
      intro h;rw[show p::a=(p.1,p.2)::a from rfl,dy] at h;rw[show (p::a)++d=(p.1,p.2)::(a++d) from rfl,dy];split at h
      ·cases h
      ·rename_i e;rw[aM e];exact ih h
    rw[<-key aby];exact hj
   obtain ⟨h1,h2⟩:=aaR hj;obtain ⟨q1,q2,q3⟩:=r.bx j b h1;rw[show φ2 j=Y j from by show (lk j (Cs al)).elim _ _=_;rw[h2];rfl]
   have hgj:g2 j=g j:=by
    cases hk:lk j al with
    |none=>exact g2n hk
    |some k=>rw[g2s hk,uv k (MO hg h2 hk),gcK hk]
   refine ⟨q1.same hA hgj λk hk=>keep (.inr ⟨j,b,h1,hk⟩),q2,λp hp=> ?_⟩
   obtain ⟨p1,p2⟩:=q3 p hp;have hd:¬dom p.1:=by
    rintro (h|⟨K,h3,h4⟩)
    ·rw[eV _ h] at p1;cases p1
    ·rw[sZ _ _ h3] at p2;cases p2;refine h4 ?_;cases hp:lk j ps with
     |none=>rfl
     |some k=>
      have hk:lk j al=some k:=by rw[<-HM];exact IQ _ hp
      have hb:=MO hg h2 hk;have:=(iT.1 hnb) _ (nW hp);rw[show mF (j,k).2=true from hb] at this;cases this
   obtain ⟨e1,e2⟩:=same (by rw[p1];simp) hd
   exact ⟨e1.trans p1,e2.trans p2⟩
 ·obtain ⟨h1,h2⟩:=hB i o hi;obtain ⟨h3,h4⟩:=r'.fr i o h1;refine ⟨up h3,?_⟩;show (if dom i then _ else _)=_
  split
  ·rw[h4];rfl
  ·rename_i hd;have h0:=hold i (xA λh=>hd (.inl h)) (by rw[h3];simp)
   obtain ⟨o',EC⟩:=su.1 (h2 (H0F h0 hd));exact (r.fr i o' EC).2
 ·show (if dom i then _ else _)=_
  have hi:(if H' i≠H0 i then H' i else H i)=none:=hi
  split
  ·have:H' i=none:=by
    split at hi
    ·exact hi
    ·rename_i h;have h:H' i=H0 i:=nu h;rw[h];cases h0:H0 i with
     |none=>rfl
     |some o=>rw[avC h0] at hi;cases hi
   rw[r'.cn i this];rfl
  ·rename_i hd;split at hi
   ·rename_i h;exfalso;have h0:H0 i≠none:=λe=>h (hi.trans e.symm)
    obtain ⟨o,_,a,_,_⟩:=avH (H0F h0 hd);rw[hi] at a;cases a
   ·exact r.cn i hi
 ·show (if H' x≠H0 x then H' x else H x)=none
  rw[hbd' x hx,eV x (jf eQ hx)];split<;>rfl
 ·rintro (h|⟨K,h3,h4⟩)
  ·exact hx (eV x h)
  ·exact h4 (hW K (sZ _ _ h3))
 ·have h2:(if H' x≠H0 x then H' x else H x)≠none:=h2
  split at h2
  ·intro hn;have h0:=hold x hx h2;obtain ⟨o,ho⟩:=su.1 h0;rw[avC ho] at hn;cases hn
  ·exact h2
 ·by_cases hd:dom x
  ·rcases hd with h|⟨K,h3,h4⟩
   ·exact absurd (eV x h) hx
   ·obtain ⟨k,hk⟩:=su.1 h4;have hh:H0 x=H x:=aH (.inr ⟨K,h3,h4⟩);obtain ⟨e1,e2⟩:=hl (show H0 x≠none by rw[hh];exact hx)
    refine ⟨?_,?_⟩
    ·show (if H' x≠H0 x then H' x else H x)=_
     rw[aM (λhn=>hn e1)]
    ·show (if dom x then _ else _)=_
     rw[aH (.inr ⟨K,h3,h4⟩),e2,h3,sZ _ _ h3];show (lk K ps).bind (λk=>lk k (iP al))=some K
     rw[hk];exact (tw hg).2 (by rw[<-HM];exact IQ _ hk)
  ·exact same hx hd
end
end Go.bZ
namespace Go.bZ
variable {all:dd} {o:Oper} {b:Bx} {K i new nx' k f:Nat} {x:Operand} {l W ks:bq} {H0:Hf} {fv:SV} {aa:aY} {L:Ow} {J:Type} {y:AV} {bs:cL} {xs:bf} {ro:Bool}
section
variable {F F':Hf} {g g':Gb} {Y:Nat->Ow} {c:Nat->bP} {s s' s1:LS} {T:Tf} {H:Hf} {E:Env} {pn:Nat->Bool} {nt:Nat}
structure WS where
 F:Hf
 g:Gb
 Y:Nat->Ow
 c:Nat->bP
 m:MS
structure In (s:LS) (w:WS):Prop where
 r:Rel w.F w.g w.Y w.c s w.m.T w.m.H
 bd:∀x,w.m.nx<=x->w.m.H x=none
def sQ:Nat:=576460756598390784
structure Ext (pn:Nat->Bool) (w w':WS):Prop where
 F:nq w.F w'.F
 g:∀k,pn k=true->w'.g k=w.g k
 nx:w.m.nx<=w'.m.nx
 old:∀x,x<w.m.nx->w'.m.H x≠none->w.m.H x≠none
 ro:pn sQ=true->∀x,w.m.H x≠none->w'.m.H x=w.m.H x/\w'.c x=w.c x
def Ext.refl (w:WS):Ext pn w w:=⟨.refl _,λ_ _=>rfl,dg _,λ_ _ h=>h,λ_ _ _=>⟨rfl,rfl⟩⟩
def Ext.trans {w w1 w2:WS} (a:Ext pn w w1) (b:Ext pn w1 w2):Ext pn w w2:=⟨a.F.trans b.F,λk h=>(b.g k h).trans (a.g k h),jf a.nx b.nx,λx hx h=>a.old x hx (b.old x (my hx a.nx) h),λh x hx=>have ⟨a1,a2⟩:=a.ro h x hx;have ⟨b1,b2⟩:=b.ro h x (a1 ▸ hx);⟨b1.trans a1,b2.trans a2⟩⟩
def Ks (all:dd) (o:Oper) (ts:fy):Option Bool:=
 match o.guard with
 |none=>some true
 |some p=>(match II all p.1 with
  |none=>some false
  |some t=>(match lk t ts with
   |some (.lit (.bool b))=>some (b==p.2)
   |some (.cS [])=>some false
   |_=>none))
def M7 (r:Rel F g Y c s T H) {b:Bool} (h:Ks all o s.ts=some b):gq all o T=some b:=by
 unfold Ks at h;unfold gq;split at h
 ·rename_i e;rw[e];exact h
 ·rename_i p e;rw[e];show vB all T p.1 p.2=some b;unfold vB;split at h
  ·rename_i e;rw[e];exact h
  ·rename_i t e;rw[e];show az (T t) (ajl p.2)=some b;split at h
   ·rename_i hl;obtain ⟨v,v1,v2⟩:=r.tm t _ hl (by simp)
    cases v2;rw[v1];exact h
   ·rename_i hl;obtain ⟨v,v1,v2⟩:=r.tm t _ hl (by simp)
    cases v2 with|cS q=>cases q;rw[v1];exact h
   ·cases h
def rdL (s:LS) (x:Operand):Option bq:=
 match dR s.ts x with
 | .lit v=>(match lP (some v) with| []=>some []|_=>none)
 | .sl .. =>some []
 | .ju _=>some []
 | .agg _=>some []
 | .cS _=>some []
 | .fn .. =>some []
 | .el K _ _ _=>az (lk K s.bs) λ_=>some [K]
 | .ms K _ _ _=>az (lk K s.bs) λ_=>some [K]
 | .mp K=>(match lk K s.bs with|some (.map _)=>some [K]|_=>none)
 | .it K=>(match lk K s.bs with|some (.iter _ _)=>some [K]|_=>none)
 | .undef=>none
def F9 (s:LS):List Operand->Option bq
 | []=>some []
 |x::l=>bU (rdL s x) (F9 s l) λa b=>some (a++b)
def akn (s:LS) (op:Op):Option bq:=
 match op with
 | .load _ x=>F9 s [x]
 | .store _ x y=>F9 s [x,y]
 | .lookup _ x k _=>F9 s [x,k]
 | .mapUpdate _ m k x=>F9 s [m,k,x]
 | .insert _ _ _ _=>none
 | .next it _=>F9 s [it]
 | .range _ x=>F9 s [x]
 | .call c=>F9 s c.args.toList
 |_=>some []
def Rel.head (r:Rel F g Y c s T H) (hb:lk K s.bs=some b) (s9:(g K).b=true):c (g K).n=some K:=by
 obtain ⟨q,_,q3⟩:=r.bx K b hb;generalize Y K=L at q q3;cases q with
 |flat=>exact (q3 _ jo).2
 |nil h=>rw[h] at s9;cases s9
 |cy=>exact (q3 _ jo).2
 |map=>exact (q3 _ jo).2
 |iter=>exact (q3 _ jo).2
def aEB (r:Rel F g Y c s T H) (h:rdL s x=some l):∀i∈lP (cD T x),F i≠none\/∃K∈l,c i=some K:=λi hi=>by
 have key:∀{y},dR s.ts x=y->y≠ .undef->∃v,VA F g v y/\i∈lP (some v):=λhy hu=>by
  obtain ⟨v,v1,v2⟩:=r.val hy hu;rw[v1] at hi;exact ⟨v,v2,hi⟩
 have one:∀{j k:Nat},i∈ [j]->c j=some k->F i≠none\/∃K∈ [k],c i=some K:=λh e=>.inr ⟨_,jo,by rw[ez.1 h];exact e⟩
 unfold rdL at h;split at h
 ·rename_i v hv;obtain ⟨w,w1,w2⟩:=key hv (by simp)
  cases w1;split at h
  ·rename_i e;rw[e] at w2;cases w2
  ·cases h
 ·rename_i hv;obtain ⟨w,w1,w2⟩:=key hv (by simp)
  cases w1 with
  |nil=>cases w2
  |sle=>cases w2
  |sl hn hF=>exact .inl (by rw[ez.1 w2];obtain ⟨o,ho⟩:=Wo hF;rw[ho];simp)
 ·rename_i hv;obtain ⟨w,w1,w2⟩:=key hv (by simp)
  cases w1 with
  |ju hF=>exact .inl (by rw[ez.1 w2];obtain ⟨o,ho⟩:=Wo hF;rw[ho];simp)
 ·rename_i hv;obtain ⟨w,w1,w2⟩:=key hv (by simp)
  cases w1;cases w2
 ·rename_i hv;obtain ⟨w,w1,w2⟩:=key hv (by simp)
  cases w1;cases w2
 ·rename_i hv;obtain ⟨w,w1,w2⟩:=key hv (by simp)
  cases w1;cases w2
 ·rename_i hv;obtain ⟨b,hb,h⟩:=aq h;cases h;obtain ⟨w,w1,w2⟩:=key hv (by simp)
  cases w1 with|el _ _ _ _ s9=>exact one w2 (r.head hb s9)
 ·rename_i hv;obtain ⟨b,hb,h⟩:=aq h;cases h;obtain ⟨w,w1,w2⟩:=key hv (by simp)
  cases w1 with
  |rl=>cases w2
  |xb=>cases w2
  |ms _ _ _ s9=>exact one w2 (r.head hb s9)
 ·rename_i hv;split at h
  ·rename_i hb;cases h;obtain ⟨w,w1,w2⟩:=key hv (by simp)
   cases w1;obtain ⟨q,_,q3⟩:=r.bx _ _ hb;generalize Y _=L at q q3;cases q with|map=>exact one w2 (q3 _ jo).2
  ·cases h
 ·rename_i hv;split at h
  ·rename_i hb;cases h;obtain ⟨w,w1,w2⟩:=key hv (by simp)
   cases w1;obtain ⟨q,_,q3⟩:=r.bx _ _ hb;generalize Y _=L at q q3;cases q with|iter=>exact one w2 (q3 _ jo).2
  ·cases h
 ·cases h
def UK (r:Rel F g Y c s T H):∀{xs:List Operand} {l:bq},F9 s xs=some l->∀i∈oX T xs,F i≠none\/∃K∈l,c i=some K
 | [],_,_,i,hi=>by cases hi
 |x::xs,l,h,i,hi=>by
  obtain ⟨a,b,h1,h2,h⟩:=bp h;cases h;rcases eO.1 hi with hi|hi
  ·exact (aEB r h1 i hi).imp_right λ⟨K,m,e⟩=>⟨K,gB _ m,e⟩
  ·exact (UK r h2 i hi).imp_right λ⟨K,m,e⟩=>⟨K,iq _ m,e⟩
def abl {T:Tf}:∀{xs:List Operand},∀i∈Gw T xs,i∈oX T xs
 |x::xs,i,hi=>by
  rcases eO.1 (show i∈idM (cD T x)++Gw T xs from hi) with hi|hi
  ·refine gB _ ?_;generalize cD T x=v at hi;unfold idM at hi;split at hi
   ·exact hi
   ·cases hi
  ·exact iq _ (abl i hi)
def aBB (r:Rel F g Y c s T H) {op:Op} (h:akn s op=some l):∀i∈py op T,F i≠none\/∃K∈l,c i=some K:=by
 cases op<;>first
  |exact UK r h
  |exact λi hi=>nomatch (show i∈ [] from hi)
  |(cases (show none=some l from h);done)
  |(
   rename_i c
   intro i hi
   refine UK r h i ?_
   have hi:i∈aP (uI c) (Gw T c.args.toList) (oX T c.args.toList):=hi
   rw[bG] at hi
   split at hi
   ·exact abl i hi
   ·exact hi)
structure Ev where
 i:Nat
 nw:Nat
 r:Sr1
 W:bq
 Rd:Option bq
 cl:Bool
structure Step (E:Env) (nt:Nat) (pn:Nat->Bool) (ops:dE) (e:Ev) (w w':WS):Prop where
 st:∃o,ops[e.i]? =some o/\wT E nt ops e.i o w.m e.r w'.m
 F:nq w.F w'.F
 g:∀k,pn k=true->w'.g k=w.g k
 nx:w.m.nx<=w'.m.nx
 need:∀l,e.Rd=some l->∀x,e.r.need x->w.F x≠none\/∃K∈l,w.c x=some K
 D:∀x,e.r.D x=true->x=e.nw\/(e.cl=true/\w.m.nx<=x)\/∃K∈e.W,w.c x=some K
 fr:∀x,w.m.H x≠none->(∀K∈e.W,w.c x≠some K)->w'.m.H x=w.m.H x/\w'.c x=w.c x
 CM:e.cl=false->(∀x k,w.c x=some k->w'.c x=some k\/w'.m.H x=none)/\(w'.m.H e.nw≠none->∃K∈e.W,w'.c e.nw=some K)
 born:∀x,w.m.H x=none->w'.m.H x≠none->x=e.nw\/w.m.nx<=x
 frp:∀x,e.r.frp x->x=e.nw\/(e.cl=true/\w.m.nx<=x)
 newp:∀x,e.r.newp x->(e.cl=false/\x=e.nw)\/(e.cl=true/\w.m.nx<=x/\x<w'.m.nx)
def Step.op {ops:dE} {op:Op} {x:AV} {w:WS} (hi:ops[i]? =some o) (he:o.op=op) (hk:Ok E pn op s s1 x W) (hw:Ks ops.toList o s.ts=some true) (hd:kZ nt o.dst=true) (h:In s w) (hn:w.m.H new=none) (eQ:w.m.nx<=nx') (l6:new<nx'):
  ∃r w',Step E nt pn ops ⟨i,new,r,W,akn s op,false⟩ w w'/\In (s1.put o.dst x) w'/\w'.m.nx=nx':=by
 subst he;obtain ⟨v,us,g',φ',c',h1,h2,h3,h4,h5,h6,h7,h8⟩:=hk.go h.r hn;have live:∀{x},gx w.m.H us x≠none->w.m.H x=none->x=new:=λ{x} cY h0=>by
  by_cases hm:x∈us.map (·.1)
  ·obtain ⟨u,hu,rfl⟩:=cP.1 hm;rcases h6 u hu with e|⟨K,_,e⟩
   ·exact e
   ·rw[h.r.cn _ h0] at e;cases e
  ·rw[mh hm] at cY;exact absurd h0 cY
 refine ⟨_,⟨w.F,g',φ',c',_⟩,⟨⟨o,hi,wT.op hi (M7 h.r hw) hd h1 hn eQ⟩,.refl _,h4,eQ,λl hl x hx=>aBB h.r hl x hx,λx hx=> ?_,h5,λ_=>⟨h7,h8⟩,λx h0 cY=>.inl (live cY h0),λx hx=>.inl hx,λx hx=>.inl ⟨rfl,hx.1⟩⟩,⟨h3.put o.dst h2,λx hx=> ?_⟩,rfl⟩
 ·have hx:decide (x∈us.map (·.1)\/x=new)=true:=hx
  rcases ru hx with hx|hx
  ·obtain ⟨u,hu,rfl⟩:=cP.1 hx;exact (h6 u hu).imp_right λ⟨K,m,e⟩=>.inr ⟨K,m,e⟩
  ·exact .inl hx
 ·exact nu λcY=>by
   have:=live cY (h.bd x (jf eQ hx));have hx:nx'<=x:=hx;omega
end
section
variable {F F':Hf} {g g':Gb} {Y:Nat->Ow} {c:Nat->bP} {s s' s1:LS} {T:Tf} {H:Hf} {E:Env} {pn:Nat->Bool} {nt:Nat}
def Step.skip {ops:dE} {w:WS} (hi:ops[i]? =some o) (hw:Ks ops.toList o s.ts=some false) (hd:kZ nt o.dst=true) (h:In s w) (hn:w.m.H new=none) (eQ:w.m.nx<=nx'):
  ∃r w',Step E nt pn ops ⟨i,new,r,[],some [],false⟩ w w'/\In (s.put o.dst (.cS [])) w'/\w'.m.nx=nx':=by
 have st:=wT.skip (E:=E) (nt:=nt) (ops:=ops) (i:=i) (new:=new) hi (M7 h.r hw) hd hn;refine ⟨_,⟨w.F,w.g,w.Y,w.c,⟨jg w.m.T o.dst (.cS []),w.m.H,nx'⟩⟩,⟨⟨o,hi,⟨st.st,st.T,st.H,eQ⟩⟩,.refl _,λ_ _=>rfl,eQ,λl _ x hx=>(by cases hx),λx hx=>.inl (ru hx),λx _ _=>⟨rfl,rfl⟩,λ_=>⟨λ_ _ h=>.inl h,λh=>absurd hn h⟩,λx h0 cY=>absurd h0 cY,λx hx=>.inl hx,λx hx=>by cases hx⟩,⟨h.r.put o.dst λ_=>.cS .nil,λx hx=>h.bd x (jf eQ hx)⟩,rfl⟩
open Classical in
def wT.aKy {m:MS} {ops:dE} {c:Call} {H' H2:Hf} {v:SV} (hi:ops[i]? =some o) (hw:gq ops.toList o m.T=some true) (hd:kZ nt o.dst=true) (eP:o.op= .call c) (hc:sI m.T c.callee=some fv) (has:fT m.T c.args.toList=some aa) (hs:oA E false fv aa H0 m.nx v H' nx') (hle:∀x y,H0 x=some y->m.H x=some y) (hb:∀x,m.nx<=x->m.H x=none) (hn:m.nx<=nx') (e1:∀x,H' x≠H0 x->H2 x=H' x) (e2:∀x,H' x=H0 x->H2 x=m.H x):
  wT E nt ops i o m ⟨v,λx=>decide (H' x≠H0 x),H',λx=>H0 x≠none,λx=>m.nx<=x,λx=>m.nx<=x/\x<nx'⟩ ⟨jg m.T o.dst v,H2,nx'⟩:=by
 have h0:∀x,m.nx<=x->H0 x=none:=λx hx=>by
  cases h:H0 x with
  |none=>rfl
  |some y=>have:=hle x y h;rw[hb x hx] at this;cases this
 refine ⟨λro=> ?_,rfl,?_,hn⟩
 ·have key:=VY (E:=E) (ro:=ro) (nt:=nt) (D:=λx=>decide (H' x≠H0 x)) hi hw hd eP hc has hs (λx hx _=>by simpa using hx) λx hx hl=>(show H' x=H0 x by simpa using hx).trans (h0 x hl)
  exact λm' g f T1 a w K Q hE dY hr hT Lw l6 hk=>key m' g f T1 a w K Q hE dY hr hT (λx hx=>by
   obtain ⟨y,hy⟩:=su.1 hx;rw[Lw x hx,hle x y hy,hy]) l6 hk
 ·funext x;show H2 x=kP _ H' m.H x;unfold kP;split
  ·rename_i h;exact e1 x (by simpa using h)
  ·rename_i h;exact e2 x (by simpa using h)
mutual
def Ej:AV->Bool
 | .agg cs=>tn cs
 | .cS cs=>tn cs
 | .fn _ a b=>tn a&&tn b
 | .sl .. =>false
 | .ju _=>false
 |_=>true
def tn:bf->Bool
 | []=>true
 |x::l=>Ej x&&tn l
end
mutual
def Pk:∀{x:AV} {v:SV},Ej x=true->VA F g v x->VA F' g v x
 | .agg cs,_,h,.agg q=>.agg (AG h q)
 | .cS cs,_,h,.cS q=>.cS (AG h q)
 | .fn f a b,_,h,.fn _ q1 q2=>have h:=kK.1 (show (tn a&&tn b)=true from h); .fn _ (AG h.1 q1) (AG h.2 q2)
 | .sl ..,_,h,_=>by cases (show false=true from h)
 | .ju _,_,h,_=>by cases (show false=true from h)
 | .lit _,_,_,.lit v=>.lit v
 | .el ..,_,_,.el K s j f hb=>.el K s j f hb
 | .ms ..,_,_,.rl s hb=>.rl s hb
 | .ms ..,_,_,.ms s lo n hb=>.ms s lo n hb
 | .ms ..,_,_,.xb s lo hl=>.xb s lo hl
 | .mp _,_,_,.mp K=>.mp K
 | .it _,_,_,.it K=>.it K
 | .undef,v,_,_=>.undef v
def AG:∀{x:bf} {v:aY},tn x=true->dz F g v x->dz F' g v x
 |_,_,_,.nil=>.nil
 |x::l,_,h,.cons q t=>have h:=kK.1 (show (Ej x&&tn l)=true from h); .cons (Pk h.1 q) (AG h.2 t)
end
def avB (Q:bA):Prop:=∀r∈Q,tn r=true
def kb.Ej:∀{l vs xs L},tn xs=true->kb F l vs xs L->kb F' l vs xs L
 |_,_,_,_,_,.nil=>.nil
 |l,_,x::xs,_,h,.cons q t=>by
  have h:=kK.1 (show (bZ.Ej x&&tn xs)=true from h);refine .cons ?_ (t.Ej h.2);generalize l.headD .d=sh at q;cases q with
  |d q=>exact .d (Pk h.1 q)
  |any=>exact .any _
  |nil=>exact .nil
  |sl=>cases (show false=true from h.1)
def TR.Ej:∀{l vs Q L},avB Q->TR F l vs Q L->TR F' l vs Q L
 |_,_,_,_,_,.nil=>.nil
 |_,_,_,_,h,.cons q t=>.cons (q.Ej (h _ (by simp))) (t.Ej λr hr=>h r (fM _ hr))
def nodX (ob:Prop->cB) (b:Bx):Option (List cB):=
 match b with
 | .flat _ cs=>aP (tn cs) (some []) none
 | .cy _ _ _ _ Q o=>aP (tn (o.map (·.2))) (some [ob (avB Q)]) none
 | .iter _ _=>some []
 | .map _=>none
def atr (ob:Prop->cB):cL->Option (List cB)
 | []=>some []
 |p::l=>bU (nodX ob p.2) (atr ob l) λa r=>some (a++r)
def aaJ:∀{l:bf} {x:AV},tn l=true->x∈l->Ej x=true
 |y::l,x,h,hx=>by
  have h:=kK.1 (show (Ej y&&tn l)=true from h);rcases cH.1 hx with rfl|hx
  ·exact h.1
  ·exact aaJ h.2 hx
def aBD {ob:Prop->cB} (gO:∀P,(ob P).need=P) {r:List cB} (h:nodX ob b=some r) (ho:iA r) (q:eH F g k b L):eH F' g k b L:=by
 cases q with
 |flat q=>exact .flat (AG (aV h).1 q)
 |nil hb=>exact .nil hb
 |cy hb hz hu hc q hoA=>
  obtain ⟨h2,h⟩:=aV h;cases h;have h3:=ho.1;rw[gO] at h3;refine .cy hb hz hu hc (q.Ej h3) λp hp=> ?_
  obtain ⟨v,v1,v2⟩:=hoA p hp;exact ⟨v,v1,Pk (aaJ h2 (cP.2 ⟨p,hp,rfl⟩)) v2⟩
 |map=>cases h
 |iter=>exact .iter
def nO:∀{a b:List cB},iA (a++b)->iA a/\iA b
 | [],_,h=>⟨trivial,h⟩
 |_::_,_,h=>⟨⟨h.1,(nO h.2).1⟩,(nO h.2).2⟩
def ahD {ob:Prop->cB} (gO:∀P,(ob P).need=P) {k:Nat} {b:Bx} {L:Ow}:∀{l:cL} {r:List cB},atr ob l=some r->iA r->(k,b)∈l->eH F g k b L->eH F' g k b L
 |p::l,r,h,ho,hm,q=>by
  obtain ⟨a,r',h1,h2,h⟩:=bp h;cases h;obtain ⟨o1,o2⟩:=nO ho;rcases cH.1 hm with e|hm
  ·subst e;exact aBD gO h1 o1 q
  ·exact ahD gO h2 o2 hm q
structure GI where
 {P:Prop}
 h:P
 gp:Gp
def En {P:Prop} (h:P) (need:Prop):cB:=⟨need,P,h⟩
inductive It (E:Env) where
 |op {P:Prop} (h:P) (pl:Pl)
 |gh (g:GI)
 |ord (l:bq)
 |call {ro:Bool} {f:Nat} {bs gb:cL} {xs:bf} {y:AV} (h:km ro E f bs xs y gb) (ps rs:gH)
 |Qa {f:Nat} {bs gb:cL} {xs:bf} {y:AV} {P:Prop} (h:gj E f bs xs y gb) (gs:List GI) (hd:P) (ps rs:gH) (fz:List GI)
def Gp.key:Gp->Nat
 | .fX K _ _=>K
 | .cls _ K2 _ _ _ _=>K2
 |_=>0
def Xj (q:GI) (s:LS):Option (List cB×LS):=
 match q.gp with
 | .fX _ _ _=>GC (λ_=>false) s q.gp (En q.h)
 | .cld _ _ _ _ _=>GC (λ_=>false) s q.gp (En q.h)
 |_=>none
def aku (q q2:GI) (s:LS):Option (List cB×LS):=
 match q.gp,q2.gp with
 | .cls K _ _ _ _ _,.fX K' m n=>aP (Nat.beq K' K) (az (GC (λ_=>false) s q.gp (En q.h)) λp=>az (lk K p.2.bs) λb=>some (p.1++abH p.2 K n b (En q2.h),p.2.abI K m n b)) none
 |_,_=>none
def aJC (q:GI):Bool:=match q.gp with| .cls _ _ _ _ _ _=>true|_=>false
def Px:List GI->LS->Option (List cB×LS)
 | [],s=>some ([],s)
 | [q],s=>Xj q s
 |q::q2::l,s=>aP (aJC q) (az (aku q q2 s) λp=>az (Px l p.2) λp'=>some (p.1++p'.1,p'.2)) (az (Xj q s) λp=>az (Px (q2::l) p.2) λp'=>some (p.1++p'.1,p'.2))
def yu (F:Hf) (g:Gb) (c:Nat->bP) (T:Tf) (H:Hf) (ks:bq) (s:LS):Prop:=∃F1 φ1 c1,nq F F1/\((∀i k,c1 i=some k->c i=some k)/\∀i,F1 i≠none->F i≠none\/∃K∈ks,c i=some K)/\Rel F1 g φ1 c1 s T H
def yu.mono {IU:bq} (h:yu F g c T H ks s) (hk:∀K∈ks,K∈IU):yu F g c T H IU s:=
 let ⟨F1,φ1,c1,a1,a2,a3⟩:=h
 ⟨F1,φ1,c1,a1,⟨a2.1,λi h=>(a2.2 i h).imp_right λ⟨K,m,e⟩=>⟨K,hk K m,e⟩⟩,a3⟩
def aaS {q:GI} {s:LS} {p:List cB×LS} (h:Xj q s=some p) (ho:iA p.1) {F:Hf} {g:Gb} {Y:Nat->Ow} {c:Nat->bP} {T:Tf} {H:Hf} (r:Rel F g Y c s T H):yu F g c T H [q.gp.key] p.2:=by
 unfold Xj at h;split at h
 ·rename_i K m n e;rw[e] at h;obtain ⟨b,hb,h⟩:=aq h;cases h;obtain ⟨F',c',a1,a2,a3⟩:=r.fX (m:=m) (n:=n) (ob:=En q.h) (λ_=>rfl) hb ho
  exact ⟨F',Y,c',a1,⟨a2.1,λi h=>(a2.2.1 i h).imp_right λh=>⟨_,jo,by rw[e];exact h⟩⟩,a3⟩
 ·rename_i K j f y Q' e;rw[e] at h;obtain ⟨b,hb,h⟩:=aq h;split at h
  ·obtain ⟨y',hy,h⟩:=aq h;obtain ⟨hf,h⟩:=aV h;cases h;obtain ⟨φ',c',a1,a2⟩:=r.F8 hb λq'=>eH.cld ho.2.1 ho.1 hy ((bV _ _).1 hf) q'
   exact ⟨F,φ',c',.refl _,⟨a1,λ_ h=>.inl h⟩,a2⟩
  ·cases h
 ·cases h
def atx {q q2:GI} {s:LS} {p:List cB×LS} (h:aku q q2 s=some p) (ho:iA p.1) {F:Hf} {g:Gb} {Y:Nat->Ow} {c:Nat->bP} {T:Tf} {H:Hf} (r:Rel F g Y c s T H):yu F g c T H [q.gp.key,q2.gp.key] p.2:=by
 unfold aku at h;split at h
 ·rename_i K K2 j f n1 Q' K' m n e e2;obtain ⟨hK,h⟩:=aV h;obtain rfl:=(beq_iff _ _).1 hK;obtain ⟨p1,h1,h⟩:=aq h;obtain ⟨b,hb,h⟩:=aq h;cases h;obtain ⟨o1,o2⟩:=nO ho;rw[e] at h1;obtain ⟨φ1,c1,a1,a2⟩:=r.gcls (λ_=>rfl) h1 o1
  obtain ⟨F',c',b1,b2,b3⟩:=a2.fX (m:=m) (n:=n) (ob:=En q2.h) (λ_=>rfl) hb o2
  rw[e,e2];refine ⟨F',φ1,c',b1,⟨λi k hi=> ?_,λi hi=> ?_⟩,b3⟩
  ·rcases a1 i k (b2.1 i k hi) with h'|⟨h',_⟩
   ·exact h'
   ·exact absurd (h' ▸ hi) (b2.2.2.2 i)
  ·rcases b2.2.1 i hi with h|h
   ·exact .inl h
   ·rcases a1 i _ h with h|⟨_,h⟩
    ·exact .inr ⟨_,fM _ jo,h⟩
    ·exact .inr ⟨_,jo,h⟩
 ·cases h
def yu.then {IU:bq} {s':LS} (h:yu F g c T H ks s) (k:∀{F1 φ1 c1},Rel F1 g φ1 c1 s T H->yu F1 g c1 T H IU s'):yu F g c T H (ks++IU) s':=by
 obtain ⟨F1,φ1,c1,a1,a2,a3⟩:=h;obtain ⟨F2,φ2,c2,b1,b2,b3⟩:=k a3;refine ⟨F2,φ2,c2,a1.trans b1,⟨λi k h=>a2.1 i k (b2.1 i k h),λi h=> ?_⟩,b3⟩
 rcases b2.2 i h with h|⟨K,m,e⟩
 ·exact (a2.2 i h).imp_right λ⟨K,m,e⟩=>⟨K,gB _ m,e⟩
 ·exact .inr ⟨K,iq _ m,a2.1 i K e⟩
def Ns:∀{l:List GI} {s:LS} {p:List cB×LS},Px l s=some p->iA p.1->∀{F:Hf} {g:Gb} {Y:Nat->Ow} {c:Nat->bP} {T:Tf} {H:Hf},Rel F g Y c s T H->yu F g c T H (l.map λq=>q.gp.key) p.2
 | [],s,p,h,_,F,g,Y,c,T,H,r=>by cases h;exact ⟨F,Y,c,.refl _,⟨λ_ _ h=>h,λ_ h=>.inl h⟩,r⟩
 | [q],s,p,h,ho,F,g,Y,c,T,H,r=>aaS h ho r
 |q::q2::l,s,p,h,ho,F,g,Y,c,T,H,r=>by
  unfold Px at h;rw[bG] at h;split at h
  ·obtain ⟨p1,h1,h⟩:=aq h;obtain ⟨p2,h2,h⟩:=aq h;cases h;obtain ⟨o1,o2⟩:=nO ho;exact (atx h1 o1 r).then λr1=>Ns h2 o2 r1
  ·obtain ⟨p1,h1,h⟩:=aq h;obtain ⟨p2,h2,h⟩:=aq h;cases h;obtain ⟨o1,o2⟩:=nO ho;exact (aaS h1 o1 r).then λr1=>Ns (l:=q2::l) h2 o2 r1
end
section
variable {F F':Hf} {g g':Gb} {Y:Nat->Ow} {c:Nat->bP} {s s' s1:LS} {T:Tf} {H:Hf} {E:Env} {pn:Nat->Bool} {nt:Nat}
def LA (K:Nat):cL->Bool
 | []=>true
 |p::l=> !lO K p.2.keys&&LA K l
def PS {K:Nat}:∀{bs:cL},LA K bs=true->∀k b,lk k bs=some b->K∉b.keys
 |(k',b')::l,hf,k,b,hx=>by
  have hf:=kK.1 (show (!lO K b'.keys&&LA K l)=true from hf);rw[dy] at hx;split at hx
  ·cases hx;exact Gm hf.1
  ·exact PS hf.2 k b hx
def unP (bs:cL) (ps:gH):bq:=(ps.filter λq=> !pnL (uH bs) q.2).map (·.1)
def pinP (pn:Nat->Bool) (bs:cL) (s:LS) (al:gH):Bool:=al.all λq=>pnL (uH bs) q.2||(!pn q.1&&(Ly q.1 s.ts&&LA q.1 s.bs))
def nodG (gs:List GI) (y:AV) (gb:cL) (ob:Prop->cB):Option (List cB):=
 match gs with
 | []=>some []
 |_=>aP (Ej y) (atr ob gb) none
def Xx (E:Env) (pn:Nat->Bool) (s:LS) (op:Op) {ro:Bool} {f:Nat} {bs gb:cL} {xs:bf} {y:AV} (h:km ro E f bs xs y gb) (gs:List GI) (ob:Prop->cB) (ps rs:gH):Option o7:=
 match op with
 | .call c=>(match c.callee with
  | .value o=>az (Px gs s) λq=>(match dR q.2.ts o with
   | .fn f' fi ca=>rP (Pd ps (ps++rs) q.2.bs bs) (akk (ps++rs) gb) (nodG gs y gb ob) λb out nd=>
    aP ((Nat.beq f' f&&(sD (tV q.2.ts c.args.toList)&&((Ai (ps++rs)&&ps.all λq=> !mF q.2)&&abW gb)))&&(((ku (fi++tV q.2.ts c.args.toList++ca)).all (inP ps (ps++rs))&&(jF y).all (inK (iP (ps++rs)) (ps++rs)))&&pinP pn bs (s.wD (unP bs ps)) (ps++rs)))
     (some ⟨⟨km ro E f b (Jy xs (sR (rm (ps++rs)) (fi++tV q.2.ts c.args.toList++ca))) y gb,_,h⟩::(q.1++nd),⟨(s.wD (unP bs ps)).ts,out++GQ (Cs (ps++rs)) (s.wD (unP bs ps)).bs⟩,Di (rm (iP (ps++rs))) y,aP ro [] ((Cs (ps++rs)).map (·.1))⟩) none
   |_=>none)
  |_=>none)
 |_=>none
def afZ {O γ δ:Type} {x:Option J} {y:Option O} {z:Option γ} {f:J->O->γ->Option δ} {d:δ} (h:rP x y z f=some d):∃a b c,x=some a/\y=some b/\z=some c/\f a b c=some d:=by
 cases x<;>cases y<;>cases z<;>first|(cases h;done)|exact ⟨_,_,_,rfl,rfl,rfl,h⟩
def Pc {ps al:gH} {sb:cL}:∀{l r:cL},Pd ps al sb l=some r->uH r=uH l
 | [],r,h=>by cases h;rfl
 |p::l,r,h=>by
  obtain ⟨b,r',h1,h2,h⟩:=bp h;obtain ⟨_,h⟩:=aV h;cases h;exact bM (p.1:: ·) (Pc h2)
def Step.call {ops:dE} {op:Op} {w:WS} {gb:cL} {hC:km ro E f bs xs y gb} {gs:List GI} {ob:Prop->cB} {ps rs:gH} {r:o7} (gO:∀P,(ob P).need=P) (hi:ops[i]? =some o) (he:o.op=op) (hk:Xx E pn s op hC gs ob ps rs=some r) (ho:iA r.Eh) (hw:Ks ops.toList o s.ts=some true) (hd:kZ nt o.dst=true) (h:In s w) (nw:Nat):
  ∃r1 w',Step E nt pn ops ⟨i,nw,r1,r.W,some (ps.map (·.1)++gs.map λq=>q.gp.key),true⟩ w w'/\In (r.s.put o.dst r.x) w':=by
 subst he;unfold Xx at hk;split at hk
 ·rename_i cl eP;split at hk
  ·rename_i x hcal;obtain ⟨q,hq,hk⟩:=aq hk;split at hk
   ·rename_i f' fi ca hx;obtain ⟨b,out,nd,hb,aby,xe,hk⟩:=afZ hk;obtain ⟨hc,hk⟩:=aV hk;cases hk;simp only[bF] at hc;obtain ⟨⟨k1,k2,⟨k3,k3b⟩,k4⟩,⟨k5,k6⟩,k7⟩:=hc;obtain rfl:=(beq_iff _ _).1 k1;obtain ⟨o1,o2⟩:=ho;obtain ⟨o2,o3⟩:=nO o2;have hC':km ro E f' b (Jy xs (sR (rm (ps++rs)) (fi++tV q.2.ts cl.args.toList++ca))) y gb:=o1;obtain ⟨F1,φ1,c1,a1,⟨a2,a3⟩,r1⟩:=Ns hq o2 h.r;obtain ⟨fv,v1,v2⟩:=r1.val hx (by simp)
    obtain ⟨aa,w1,w2⟩:=r1.fT k2;cases v2 with
    | @fn _ _ fis cas _ _ q1 q2=>
    have hg:=k3;let gc:Gb:=λk=>w.g (rm (iP (ps++rs)) k)
    have rc:=r1.enter hg hb;have qz:dz F1 gc (fis++aa++cas) (Jy xs (sR (rm (ps++rs)) (fi++tV q.2.ts cl.args.toList++ca))):=ES (((q1.append w2).append q2).map (.refl F1) λj hj=>axB hg (iT.1 k5 j hj))
    have eV:∀x,w.m.nx<=x->qx F1 c1 ps w.m.H x=none:=λx hx=>by
     cases e:qx F1 c1 ps w.m.H x with
     |none=>rfl
     |some o=>have:=Nt e;rw[h.bd x hx] at this;cases this
    obtain ⟨F',g',φ',c',v,H',nx',e1,e2,e3,e4,e5,e6,e7,e8,e9⟩:=hC'.go rc eV qz;rw[Pc hb] at e5;have akP:∀K k,lk K (ps++rs)=some k->(g' k=gc k)\/(pn K=false/\(∀t x,lk t (s.wD (unP bs ps)).ts=some x->K∉jF x)/\∀j b,lk j (s.wD (unP bs ps)).bs=some b->K∉b.keys):=λK k hK=>by
     rcases (pC _ _).mp ((iT.1 k7) (K,k) (nW hK)) with hp|hp
     ·exact .inl (e5 k hp)
     ·simp only[bF] at hp;exact .inr ⟨by simpa using hp.1,NI hp.2.1,PS hp.2.2⟩
    have uv:∀k,mF k=true->g' k=gc k:=λk hk=>e5 k (by unfold pnL;rw[hk];rfl)
    have fin:∃F2,nq w.F F2/\(∀i o,F2 i=some o->F' i=some o/\(F1 i≠none->w.F i≠none))/\(∀k b L,lk k gb=some b->eH F' g' k b L->eH F2 g' k b L)/\VA F2 g' v y:=by
     cases gs with
     |nil=>
      cases hq;refine ⟨F',a1.trans e4,λi o hi=>⟨hi,λcY=> ?_⟩,λ_ _ _ _ q=>q,e6⟩
      rcases a3 i cY with h|⟨_,m,_⟩
      ·exact h
      ·cases m
     |cons gi gs=>
      obtain ⟨n1,n2⟩:=aV xe;exact ⟨w.F,.refl _,λi o hi=>⟨e4 i o (a1 i o hi),λ_=>by rw[hi];simp⟩,λk b L mQ q=>ahD gO n2 o3 (nW mQ) q,Pk n1 e6⟩
    obtain ⟨F2,f1,f2,f3,f4⟩:=fin;obtain ⟨g2,φ2,c2,H2,m1,m2,m3,m4,m5,m6,m7,m8,m9⟩:=(h.r.wD (l:=unP bs ps)).leave h.bd a2 a1 r1.fr hg k3b rfl e4 e7 e8 e3 e2 f1 f2 f3 aby k4 uv λK k hK=>(akP K k hK).imp_right λh=>h.2
    have g2f:∀k∈jF y,g2 (rm (iP (ps++rs)) k)=g' k:=λk hk=>by
     rcases (pC _ _).mp (iT.1 k6 k hk) with hh|hh
     ·obtain ⟨K',hK'⟩:=Oe.1 (show (lk k (iP (ps++rs))).isSome=true from hh);rw[tz hK'];exact m2 K' k ((tw hg).1 hK')
     ·obtain ⟨h1,h2,h3⟩:=abm hh;rw[EM h3,m1 k h2,uv k h1];show w.g k=w.g (rm (iP (ps++rs)) k);rw[EM h3]
    have hs:=aoN (fi:=fis) (aa:=aa) (ca:=cas) e1;have stp:=wT.aKy (E:=E) (nt:=nt) (ops:=ops) (i:=i) hi (M7 h.r hw) hd eP (show sI w.m.T cl.callee=some (.fn (.func f') fis cas) by rw[hcal];exact v1) w1 hs (λ_ _=>Nt) h.bd e2 m7 m8
    have lent:∀x,qx F1 c1 ps w.m.H x≠none->F1 x≠none\/∃K,c1 x=some K/\lk K ps≠none:=λx hx=>nu λhn=>hx (aM hn)
    have psal:∀K,lk K ps≠none->K∈ps.map (·.1):=λK hK=>by
     obtain ⟨k,hk⟩:=su.1 hK;exact cP.2 ⟨_,nW hk,rfl⟩
    have psnb:∀K,lk K ps≠none->K∈(Cs (ps++rs)).map (·.1):=λK hK=>by
     obtain ⟨k,hk⟩:=su.1 hK;exact cP.2 ⟨_,lr.2 ⟨gB _ (nW hk),(iT.1 k3b) _ (nW hk)⟩,rfl⟩
    refine ⟨_,⟨F2,g2,φ2,c2,_⟩,⟨⟨o,hi,stp⟩,f1,λk hk=> ?_,e2,λl hl x hx=> ?_,λx hx=> ?_,λx hx hW=> ?_,λhh=>(by cases hh),λx h0 cY=>.inr ?_,λx hx=>.inr ⟨rfl,hx⟩,λx hx=>.inr ⟨rfl,hx⟩⟩,⟨m3.put o.dst λ_=>f4.map (.refl F2) g2f,m4⟩⟩
    ·cases hK:lk k (ps++rs) with
     |none=>exact m1 k hK
     |some k'=>
      rcases akP k k' hK with e|⟨e,_⟩
      ·show g2 k=w.g k;rw[m2 k k' hK,e];show w.g (rm (iP (ps++rs)) k')=w.g k;rw[tz ((tw hg).2 hK)]
      ·rw[e] at hk;cases hk
    ·cases hl;rcases lent x hx with hx|⟨K,h1,h2⟩
     ·exact (a3 x hx).imp_right λ⟨K,m,e⟩=>⟨K,iq _ m,e⟩
     ·exact .inr ⟨K,gB _ (psal K h2),a2 x K h1⟩
    ·have iO:H' x≠qx F1 c1 ps w.m.H x:=by simpa using hx
     by_cases cV:w.m.nx<=x
     ·exact .inr (.inl ⟨rfl,cV⟩)
     ·by_cases h0:qx F1 c1 ps w.m.H x=none
      ·exact absurd h0 (e8 x (by omega) λe=>iO (e.trans h0.symm))
      ·rcases lent x h0 with hf|⟨K,h1,h2⟩
       ·exfalso;obtain ⟨z,hz⟩:=su.1 hf;refine iO ((e7.fr x z (e4 x z hz)).1.trans ?_);show _=qx F1 c1 ps w.m.H x;unfold qx;rw[aH (.inl hf)];exact (r1.fr x z hz).1.symm
       ·cases ro with
        |true=>exact absurd (e9 rfl x h0).1 iO
        |false=>
         refine .inr (.inr ⟨K,?_,a2 x K h1⟩);exact psnb K h2
    ·cases ro with
     |true=>exact m9 x hx λhl=>e9 rfl x hl
     |false=>
      have hW:∀K∈(Cs (ps++rs)).map (·.1),w.c x≠some K:=hW
      refine m5 x hx λK hK=> ?_
      cases hK':lk K ps with
      |none=>rfl
      |some k=>exact absurd hK (hW K (psnb K (by rw[hK'];simp)))
    ·exact Nat.le_of_not_lt λcV=>m6 x cV cY h0
   ·cases hk
  ·cases hk
 ·cases hk
end
section
variable {s s' s1:LS} {E:Env} {pn:Nat->Bool} {nt:Nat}
def awm {J:Type} (l:List (Nat×J)):List (Nat×J):=
 match l with
 | []=> []
 |p::l=>p::kh p.1 l
def atq {J:Type} (l:List (Nat×J)):List (Nat×J):=List.rec [] (λp _ ih=>p::kh p.1 ih) l
def atw (k:Nat) (l:List (Nat×J)):lk k (awm l)=lk k l:=by
 cases l with
 |nil=>rfl
 |cons p l=>exact vn
def ahL {J:Type} (k:Nat):∀l:List (Nat×J),lk k (atq l)=lk k l
 | []=>rfl
 |p::l=>by
  show lk k ((p.1,p.2)::kh p.1 (atq l))=lk k ((p.1,p.2)::l);rw[vn,dy,dy,ahL k l]
def LS.tidy (s:LS):LS:=⟨awm s.ts,atq s.bs⟩
def In.tidy {w:WS} (h:In s w):In s.tidy w:=⟨h.r.sub (λt x h=>(atw t _).symm.trans h) λk b h=>(ahL k _).symm.trans h,h.bd⟩
def In.UF {w:WS} (h:In s w) (k:jM pn s s') (ij:pn sQ=true->s'=s):∃w',In s' w'/\Ext pn w w'/\w'.m=w.m:=by
 cases hp:pn sQ with
 |true=>rw[ij hp];exact ⟨w,h,.refl w,rfl⟩
 |false=>
  obtain ⟨F',g',φ',c',h1,h2,r⟩:=k.go h.r;exact ⟨⟨F',g',φ',c',w.m⟩,⟨r,h.bd⟩,⟨h1,h2,dg _,λ_ _ h=>h,λh=>by rw[hp] at h;cases h⟩,rfl⟩
abbrev Sc (E:Env):=List (Nat×It E)
def Bz (pn:Nat->Bool):Sc E->LS->List cB->LS×List cB×Sc E
 | [],s,o=>(s,o,[])
 |p::l,s,o=>
  match p with
  |(0,.gh q)=>(match aP (pn sQ) none (GC pn s q.gp (En q.h)) with
   |some r=>Bz pn l r.2 (r.1++o)
   |none=>(s,o,p::l))
  |_=>(s,o,p::l)
def Jl:∀(sc:Sc E) (s:LS) (o:List cB),iA (Bz pn sc s o).2.1->iA o/\jM pn s (Bz pn sc s o).1/\(pn sQ=true->(Bz pn sc s o).1=s)
 | [],s,o,ho=>⟨ho,.refl,λ_=>rfl⟩
 |p::l,s,o,ho=>by
  unfold Bz at ho ⊢;split at ho
  ·rename_i q;cases hq:aP (pn sQ) none (GC pn s q.gp (En q.h)) with
   |some r=>
    rw[hq] at ho;simp only[hq];have hp:pn sQ=false:=by
     cases hp:pn sQ with
     |false=>rfl
     |true=>rw[hp] at hq;cases hq
    rw[hp] at hq;obtain ⟨h1,h2,_⟩:=Jl l r.2 (r.1++o) ho;obtain ⟨h3,h4⟩:=nO h1;exact ⟨h4,(auu (λ_=>rfl) hq h3).trans h2,λh=>by rw[hp] at h;cases h⟩
   |none=>rw[hq] at ho;simp only[hq];exact ⟨ho,.refl,by simp⟩
  ·simp_all;exact .refl
structure Rx where
 r:o7
 Rd:Option bq
 cl:Bool
 pg:List GI
def aas (E:Env) (pn:Nat->Bool) (s:LS) (o:Oper):Option Rx:=az (Oz E pn s o.dst o.op) λr=>some ⟨r,akn s o.op,false,[]⟩
def axA (E:Env) (pn:Nat->Bool) (s:LS) (o:Oper) (it:It E):Option Rx:=
 match it with
 | .op h pl=>az (awn E pn s o.dst o.op pl (En h)) λr=>some ⟨r,akn s o.op,false,[]⟩
 | .call h ps rs=>az (Xx E pn s o.op h [] (En trivial) ps rs) λr=>some ⟨r,some (ps.map (·.1)++ []),true,[]⟩
 | .Qa h gs hd ps rs fz=>az (Xx E pn s o.op h gs (En hd) ps rs) λr=>some ⟨r,some (ps.map (·.1)++gs.map λq=>q.gp.key),true,fz⟩
 |_=>none
def opX (E:Env) (pn:Nat->Bool) (s:LS) (o:Oper) (sc:Sc E):Option (Rx×Sc E):=
 match sc with
 | []=>az (aas E pn s o) λr=>some (r,[])
 |(0,it)::l=>az (axA E pn s o it) λr=>some (r,l)
 |(k+1,it)::l=>az (aas E pn s o) λr=>some (r,(k,it)::l)
def Xd (W:bq):List GI->LS->Option (List cB×LS)
 | [],s=>some ([],s)
 |q::l,s=>(match q.gp with
  | .fX K m n=>aP (lO K W) (az (lk K s.bs) λb=>az (Xd W l (s.abI K m n b)) λp=>some (abH s K n b (En q.h)++p.1,p.2)) none
  |_=>none)
def aki (cl:Bool) (W:bq) (pg:List GI) (s:LS):Option (List cB×LS):=
 match pg with
 | []=>some ([],s)
 |q::l=>aP cl (Xd W (q::l) s) none
def aar {ops:dE} {e:Ev} {w:WS} (eA:e.cl=true):∀{l:List GI} {s:LS} {w':WS} {p:List cB×LS},Xd e.W l s=some p->iA p.1->Step E nt pn ops e w w'->In s w'->∃H5,Step E nt pn ops e w H5/\In p.2 H5/\H5.m=w'.m
 | [],s,w',p,h,_,st,il=>by cases h;exact ⟨w',st,il,rfl⟩
 |q::l,s,w',p,h,ho,st,il=>by
  unfold Xd at h;split at h
  ·rename_i K m n hq;obtain ⟨hK,h⟩:=aV h;obtain ⟨b,hb,h⟩:=aq h;obtain ⟨p1,h1,h⟩:=aq h;cases h;obtain ⟨o1,o2⟩:=nO ho;obtain ⟨F',c',a1,a2,a3⟩:=il.r.fX (m:=m) (n:=n) (ob:=En q.h) (λ_=>rfl) hb o1
   have Cf:Step E nt pn ops e w ⟨F',w'.g,w'.Y,c',w'.m⟩:=⟨st.st,st.F.trans a1,st.g,st.nx,st.need,st.D,λx hx hW=>⟨(st.fr x hx hW).1,(a2.2.2.1 x (by rw[(st.fr x hx hW).2];exact hW K ((qd _ _).1 hK))).trans (st.fr x hx hW).2⟩,λh=>(by rw[eA] at h;cases h),st.born,st.frp,st.newp⟩
   exact aar (l:=l) (p:=p1) (w':=⟨F',w'.g,w'.Y,c',w'.m⟩) eA h1 o2 Cf ⟨a3,il.bd⟩
  ·cases h
def ati {ops:dE} {e:Ev} {w w':WS} {l:List GI} {p:List cB×LS} (h:aki e.cl e.W l s=some p) (ho:iA p.1) (st:Step E nt pn ops e w w') (il:In s w'):∃H5,Step E nt pn ops e w H5/\In p.2 H5/\H5.m=w'.m:=by
 unfold aki at h;split at h
 ·cases h;exact ⟨w',st,il,rfl⟩
 ·obtain ⟨eA,h⟩:=aV h;exact aar eA h ho st il
def anZ (E:Env) (nt:Nat) (pn:Nat->Bool) (all:dd) (s:LS) (o:Oper) (sc:Sc E):Option (Rx×Sc E):=
 aP (kZ nt o.dst) (az (Ks all o s.ts) λb=>aP b (az (opX E pn s o sc) λq=>az (aki q.1.cl q.1.r.W q.1.pg (q.1.r.s.put o.dst q.1.r.x).tidy) λp=>some (⟨⟨p.1++q.1.r.Eh,p.2,q.1.r.x,q.1.r.W⟩,q.1.Rd,q.1.cl,[]⟩,q.2)) (some (⟨⟨[],(s.put o.dst (.cS [])).tidy,.undef,[]⟩,some [],false,[]⟩,sc))) none
def anY {ops:dE} {sc:Sc E} {q:Rx×Sc E} {w:WS} (hi:ops[i]? =some o) (h:anZ E nt pn ops.toList s o sc=some q) (ho:iA q.1.r.Eh) (il:In s w) (hn:w.m.H new=none) (eQ:w.m.nx<=nx') (l6:new<nx') (hc:q.1.cl=true->nx'=w.m.nx+1\/nx'=w.m.nx):
  ∃r w',Step E nt pn ops ⟨i,new,r,q.1.r.W,q.1.Rd,q.1.cl⟩ w w'/\In q.1.r.s w'/\(q.1.cl=false->w'.m.nx=nx'):=by
 obtain ⟨hd,h⟩:=aV h;obtain ⟨b,hw,h⟩:=aq h;rw[bG] at h;split at h
 ·rename_i hb;subst hb;obtain ⟨p,hp,h⟩:=aq h;obtain ⟨z,hz,h⟩:=aq h;cases h;obtain ⟨oz,ho⟩:=nO ho;have plain:∀{r:Rx},aas E pn s o=some r->iA r.r.Eh->∃r1 w',Step E nt pn ops ⟨i,new,r1,r.r.W,r.Rd,r.cl⟩ w w'/\In (r.r.s.put o.dst r.r.x).tidy w'/\(r.cl=false->w'.m.nx=nx'):=λ{r} hr ho=>by
   obtain ⟨r0,h1,h2⟩:=aq hr;cases h2;obtain ⟨r1,w',a,b,c⟩:=Step.op hi rfl (Nb h1 ho) hw hd il hn eQ l6;exact ⟨r1,w',a,b.tidy,λ_=>c⟩
  have main:∃r1 w',Step E nt pn ops ⟨i,new,r1,p.1.r.W,p.1.Rd,p.1.cl⟩ w w'/\In (p.1.r.s.put o.dst p.1.r.x).tidy w'/\(p.1.cl=false->w'.m.nx=nx'):=by
   unfold opX at hp;split at hp
   ·obtain ⟨r,h1,h2⟩:=aq hp;cases h2;exact plain h1 ho
   ·obtain ⟨r,h1,h2⟩:=aq hp;cases h2;unfold axA at h1;split at h1
    ·obtain ⟨r0,h3,h2⟩:=aq h1;cases h2;obtain ⟨r1,w',a,b,c⟩:=Step.op hi rfl (asF (λ_=>rfl) h3 ho) hw hd il hn eQ l6
     exact ⟨r1,w',a,b.tidy,λ_=>c⟩
    ·obtain ⟨r0,h3,h2⟩:=aq h1;cases h2;obtain ⟨r1,w',a,b⟩:=Step.call (λ_=>rfl) hi rfl h3 ho hw hd il new
     exact ⟨r1,w',a,b.tidy,λh=>by cases h⟩
    ·obtain ⟨r0,h3,h2⟩:=aq h1;cases h2;obtain ⟨r1,w',a,b⟩:=Step.call (λ_=>rfl) hi rfl h3 ho hw hd il new
     exact ⟨r1,w',a,b.tidy,λh=>by cases h⟩
    ·cases h1
   ·obtain ⟨r,h1,h2⟩:=aq hp;cases h2;exact plain h1 ho
  obtain ⟨r1,w',m1,m2,m3⟩:=main;obtain ⟨w2,n1,n2,n3⟩:=ati hz oz m1 m2;exact ⟨r1,w2,n1,n2,λh=>by rw[n3];exact m3 h⟩
 ·rename_i hb;have hb:b=false:=by simpa using hb
  subst hb;cases h;obtain ⟨r1,w',a,b,c⟩:=Step.skip (E:=E) (nt:=nt) (pn:=pn) hi hw hd il hn eQ;exact ⟨r1,w',a,b.tidy,λ_=>c⟩
def ajy (E:Env) (nt:Nat) (pn:Nat->Bool) (all:dd) (s:LS) (o:Oper) (sc:Sc E):Option (Rx×Sc E):=
 az (anZ E nt pn all s o sc) λq=>aP (pn sQ) (aP q.1.r.W.isEmpty (some q) none) (some q)
def YR {ops:dE} {sc:Sc E} {q:Rx×Sc E} {w:WS} (hi:ops[i]? =some o) (h:ajy E nt pn ops.toList s o sc=some q) (ho:iA q.1.r.Eh) (il:In s w) (hn:w.m.H new=none) (eQ:w.m.nx<=nx') (l6:new<nx') (hc:q.1.cl=true->nx'=w.m.nx+1\/nx'=w.m.nx):
  ∃r w',Step E nt pn ops ⟨i,new,r,q.1.r.W,q.1.Rd,q.1.cl⟩ w w'/\In q.1.r.s w'/\(q.1.cl=false->w'.m.nx=nx')/\(pn sQ=true->∀x,w.m.H x≠none->w'.m.H x=w.m.H x/\w'.c x=w.c x):=by
 obtain ⟨q',h1,h⟩:=aq h;obtain ⟨rfl,hW⟩:q'=q/\(pn sQ=true->q'.1.r.W= []):=by
  rw[bG] at h;split at h
  ·obtain ⟨h2,h⟩:=aV h;cases h;exact ⟨rfl,λ_=>by simpa using h2⟩
  ·rename_i hp;cases h;exact ⟨rfl,λh=>absurd h hp⟩
 obtain ⟨r,w',a,b,c⟩:=anY hi h1 ho il hn eQ l6 hc;exact ⟨r,w',a,b,c,λhp x hx=>a.fr x hx λK hK=>by
  have hK:K∈q'.1.r.W:=hK;rw[hW hp] at hK;cases hK⟩
def aac (E:Env) (nt:Nat) (pn:Nat->Bool) (all:dd):dd->LS->Sc E->List cB->Option (LS×List cB×Sc E)
 | [],s,sc,ob=>some (s,ob,sc)
 |o::l,s,sc,ob=>(λq:LS×List cB×Sc E=>az (ajy E nt pn all q.1 o q.2.2) λr=>aac E nt pn all l r.1.r.s r.2 (r.1.r.Eh++q.2.1)) (Bz pn sc s ob)
def V2 {ops:dE}:∀{l:dd} {i:Nat} {s:LS} {sc:Sc E} {ob:List cB} {r:LS×List cB×Sc E},ops.toList.drop i=l->i<=ops.size->aac E nt pn ops.toList l s sc ob=some r->iA r.2.1->iA ob/\∀w,In s w->∃w',JN E nt ops i w.m w'.m/\In r.1 w'/\Ext pn w w'
 | [],i,s,sc,ob,r,hl,hle,h,ho=>by
  cases h;refine ⟨ho,λw hw=>⟨w,?_,hw,.refl w⟩⟩
  have:ops.size=i:=by
   have:=bM List.length hl;rw[iE,Ay,Kr] at this;omega
  subst this;exact .nil
 |o::l,i,s,sc,ob,r,hl,hle,h,ho=>by
  obtain ⟨q,h1,h⟩:=aq h;have cV:i<ops.size:=by
   have:=bM List.length hl;rw[iE,kq,Kr] at this;omega
  have hi:ops[i]? =some o:=by
   rw[<-lx,<-List.head?_drop,hl];rfl
  have xg:ops.toList.drop (i+1)=l:=by rw[<-tU,hl];rfl
  obtain ⟨h2,h3⟩:=V2 xg cV h ho;obtain ⟨h4,h5⟩:=nO h2;obtain ⟨h6,h7,h9⟩:=Jl sc s ob h5;refine ⟨h6,λw hw=> ?_⟩
  obtain ⟨w1,k1,k2,k3⟩:=hw.UF h7 h9;obtain ⟨r1,w2,st,k4,k5,k9⟩:=YR (new:=w1.m.nx) (nx':=w1.m.nx+1) hi h1 h4 k1 (k1.bd _ (dg _)) (xz _) (Nat.lt_succ_self _) λ_=>.inl rfl
  obtain ⟨w3,k6,k7,k8⟩:=h3 w2 k4;obtain ⟨o',sX,st1⟩:=st.st;rw[hi] at sX;cases sX;refine ⟨w3,?_,k7,k2.trans (.trans ⟨st.F,st.g,st.nx,λx hx cY=> ?_,k9⟩ k8)⟩
  ·rw[<-k3];refine JN.cons hi st1 (λx hx=> ?_) (λx hx=> ?_) k6
   ·rcases st.frp x hx with rfl|⟨_,h⟩
    ·exact dg _
    ·exact h
   ·rcases st.newp x hx with ⟨hc,rfl⟩|⟨_,h⟩
    ·exact ⟨dg _,by rw[k5 hc];exact Nat.lt_succ_self _⟩
    ·exact h
  ·exact nu λh0=>by
    have h0:w1.m.H x=none:=nu h0;rcases st.born x h0 cY with rfl|h
    ·exact absurd hx (Nat.lt_irrefl _)
    ·exact absurd hx (Nat.not_lt.2 h)
end
end Go.bZ
namespace Go.bZ
open Go.RowKit
variable {a l:bq} {i nt:Nat} {ro:bP} {U:Nat->HT} {need:Nat->Nat->Prop} {s0:DS} {Q:Exit->Act->World->Prop}
section
variable {E:Env} {g:Gh} {f:Hf} {w:World}
def aoa (us:Nat->HT) (p:Nat->Bool) {b:bq} (nd:(a++i::b).Nodup) (hp:p i=true) (s:DS):eR us (a++i::b) (λj=>p j&&decide (j∈a++ [i])) s=(eR us a p s).app (us i):=by
 obtain ⟨_,n2,n3⟩:=DI.1 nd;have n2:=pt.1 n2;unfold eR;rw[Kq,mz];have h1:a.filter (λj=>p j&&decide (j∈a++ [i]))=a.filter p:=xy λx hx=>by simp[hx]
 have h2:b.filter (λj=>p j&&decide (j∈a++ [i]))= []:=sr.2 λx hx=>by
  have e1:x∉a:=λh=>n3 x h x (fM _ hx) rfl
  have e2:x≠i:=λe=>n2.1 (e ▸ hx)
  simp[e1,e2]
 rw[h1,h2];simp[hp]
def auY {ops:dE} {frp newp:Nat->Nat->Prop} (nd:l.Nodup) (hl:∀j,j∈l↔j<ops.size) (Br:E.P.follows .mixedOrders=true) (Gz:∀a i b,l=a++i::b->∃o,ops[i]? =some o/\(U i).dst=o.dst/\ve E ro nt ops i o (eR U a (λ_=>true) s0).T (need i) (eR U a (λ_=>true) s0).F (frp i) (newp i) (U i).v (U i).D (U i).H) (hd:∀a i b,l=a++i::b->(∀k∈direct ops i,k∈a)/\∀k∈a,k∈mm ops ops.size i\/Ind ops U need k i) (hfp:∀i k,i∈l->k∈l->i≠k->∀x,frp i x->newp k x->i∈mm ops ops.size k) {a:Act} {id m:Nat} (hE:dV E g) (dY:FR g nt s0.T a.tmps) (hr:HR g s0.F w) (l6:∀i,i∈l->∀x,frp i x->g.Z x=none) (hq:∀g' a' w',FR g' nt (eR U l (λ_=>true) s0).T a'.tmps->HR g' (eR U l (λ_=>true) s0).F w'->Fr g s0.F w g' (eR U l (λ_=>true) s0).F w'->a'.defers=a.defers->
   (∀x,(∀i,i∈l->¬newp i x)->g'.Z x=g.Z x)->Q .normal a' w'):(Code.region id ops true).wpIn (ot ro) m E.P Q a w:=by
 let n:=ops.size;have key:∀(fuel:Nat) (bu:Array Bool) (a1:Act) (w1:World) (g1:Gh),bu.size=n->(∀j,bu.getD j false=true->∀i∈direct ops j,bu.getD i false=true)->
   (l.filter (λj=> !bu.getD j false)).length=fuel->dV E g1->FR g1 nt (eR U l (λj=>bu.getD j false) s0).T a1.tmps->HR g1 (eR U l (λj=>bu.getD j false) s0).F w1->
   Fr g s0.F w g1 (eR U l (λj=>bu.getD j false) s0).F w1->a1.defers=a.defers->(∀x,g1.Z x≠g.Z x->∃k,k∈l/\bu.getD k false=true/\newp k x)->wpAnyIn (ot ro) m E.P .any ops Q fuel bu a1 w1:=by
  intro fuel;induction fuel with
  |zero=>
   intro bu a1 w1 g1 mD eA Bv hE1 Bu xd CD hdf Ds;have gS:∀j,j∈l->bu.getD j false=true:=λj hj=>by simpa using sr.1 (sq Bv) j hj
   have nG:eR U l (λj=>bu.getD j false) s0=eR U l (λ_=>true) s0:=by
    unfold eR;rw[xy λx hx=>gS x hx]
   rw[nG] at Bu xd CD;refine ⟨?_,hq g1 a1 w1 Bu xd CD hdf (λx hx=> ?_)⟩
   ·rw[SH];intro i hi;obtain ⟨h1,h2,_⟩:=tX.1 hi;have:=gS i ((hl i).2 h1);simp only[ma] at this h2;rw[nS (by rw[mD];exact h1)] at this h2
    simp at this h2;rw[this] at h2;simp at h2
   ·by_cases he:g1.Z x=g.Z x
    ·exact he
    ·obtain ⟨k,k1,_,k3⟩:=Ds x he;exact absurd k3 (hx k k1)
  |succ fuel ih=>
   intro bu a1 w1 g1 mD eA Bv hE1 Bu xd CD hdf Ds;have hun:∀j,j<n->bu.getD j true=bu.getD j false:=by
    intro j hj;simp only[ma];rw[nS (by rw[mD];exact hj)];rfl
   refine ⟨λhr=> ?_,λi hi=> ?_⟩
   ·exfalso;have first:∀b c:bq,b++c=l->(∀j∈b,bu.getD j false=true)->(∃a i d,l=a++i::d/\bu.getD i false=false/\∀j∈a,bu.getD j false=true)\/∀j∈c,bu.getD j false=true:=by
     intro b c;induction c generalizing b with
     |nil=>exact λ_ _=>.inr λj hj=>by cases hj
     |cons i c ihc=>
      intro he hb;cases hi:bu.getD i false with
      |false=>exact .inl ⟨b,i,c,he.symm,hi,hb⟩
      |true=>
       rcases ihc (b++ [i]) (by simpa using he) (λj hj=>by
        rcases eO.1 hj with h|h
        ·exact hb j h
        ·rw[ez.1 h];exact hi) with h|h
       ·exact .inl h
       ·exact .inr λj hj=>by
         rcases cH.1 hj with rfl|hj
         ·exact hi
         ·exact h j hj
    rcases first [] l rfl (λj hj=>by cases hj) with ⟨b,i,d,he,h1,h2⟩|h
    ·have il:i<n:=(hl i).1 (by rw[he];simp)
     have:i∈Region.ready .any ops bu:=tX.2 ⟨il,by rw[hun i il];exact h1,λj hj=>h2 j ((hd b i d he).1 j hj)⟩
     rw[hr] at this;simp at this
    ·rw[sr.2 λx hx=>by simp[h x hx]] at Bv
     simp at Bv
   ·obtain ⟨sW,uM,hi3⟩:=tX.1 hi;rw[hun i sW] at uM;obtain ⟨b,d,he⟩:=tT ((hl i).2 sW);obtain ⟨oi,hoi,aum,hs⟩:=Gz b i d he;have nd':=nd;rw[he] at nd';obtain ⟨n1,n2,n3⟩:=DI.1 nd';have n2:=pt.1 n2;have atu:∀j,j∈l->j∈b\/j=i\/j∈d:=λj hj=>by
     rw[he] at hj;simpa using hj
    have ib:i∉b:=λh=>n3 i h i (by simp) rfl
    have Jc:∀j,j∈b->bu.getD j false=false->Ind ops U need j i:=by
     intro j hj xg;rcases (hd b i d he).2 j hj with hc|hc
     ·have:=G3 (S:=λj=>bu.getD j false=true) eA n i hi3 j hc
      rw[xg] at this;simp at this
     ·exact hc
    have Ah:∀j,j∈d->bu.getD j false=true->Ind ops U need i j:=by
     intro j hj xg;obtain ⟨d1,d2,HL⟩:=tT hj;rcases (hd (b++i::d1) j d2 (by rw[he,HL];simp)).2 i (by simp) with hc|hc
     ·have:=uh (S:=λj=>bu.getD j false=true) eA n j xg i hc
      rw[uM] at this;simp at this
     ·exact hc
    have hdb:∀j,j∈d->j∉b/\j≠i:=λj hj=>⟨λh=>n3 j h j (fM _ hj) rfl,λe=>n2.1 (e ▸ hj)⟩
    have abw:eR U b (λ_=>true) s0=eR U l (λj=>decide (j∈b)) s0:=by
     unfold eR;rw[he,Kq,mz];have h1:b.filter (λj=>decide (j∈b))=b:=vA.2 λx hx=>by simpa using hx
     have h2:d.filter (λj=>decide (j∈b))= []:=sr.2 λx hx=>by simpa using (hdb x hx).1
     rw[h1,h2,vA.2 (λ_ _=>rfl)]
     simp[ib]
    have hT:∀t∈oi.looksAt ops,(eR U l (λj=>bu.getD j false) s0).T t=(eR U b (λ_=>true) s0).T t:=by
     intro t htr;rw[abw];refine FY U t _ _ _ _ _ rfl (λj hj mL=> ?_)
     rcases atu j hj with hb|rfl|hb
     ·cases vR:bu.getD j false with
      |true=>simp[hb]
      |false=>exact absurd htr ((Jc j hb vR).s1 t mL _ hoi)
     ·simp[uM,ib]
     ·cases vR:bu.getD j false with
      |false=>simp[(hdb j hb).1]
      |true=>exact absurd htr ((Ah j hb vR).s2 t mL _ hoi)
    have hB:∀x,need i x->(eR U l (λj=>bu.getD j false) s0).F x=(eR U b (λ_=>true) s0).F x:=by
     intro x hx;rw[abw];refine FZ U x _ _ _ _ _ rfl (λj hj mL=> ?_)
     rcases atu j hj with hb|rfl|hb
     ·cases vR:bu.getD j false with
      |true=>simp[hb]
      |false=>
       have:=(Jc j hb vR).n1 x hx;rw[mL] at this;simp at this
     ·simp[uM,ib]
     ·cases vR:bu.getD j false with
      |false=>simp[(hdb j hb).1]
      |true=>
       have:=(Ah j hb vR).n2 x hx;rw[mL] at this;simp at this
    have iN:∀j,(bu.setIfInBounds i true).getD j false=if j=i then true else bu.getD j false:=λj=>abG bu i j (by rw[mD];exact sW) false
    have EA:(bu.setIfInBounds i true).getD i false=true:=by rw[iN];simp
    have bi:∀j,j∈l->j∉b++ [i]->j∈d:=λj hj hn=>by
     rcases atu j hj with h|h|h
     ·exact absurd (gB _ h) hn
     ·exact absurd (by simp[h]) hn
     ·exact h
    have hup:eR U l (λj=>(bu.setIfInBounds i true).getD j false&&decide (j∈b++ [i])) s0=(eR U b (λj=>(bu.setIfInBounds i true).getD j false) s0).app (U i):=by
     have:=aoa U (λj=>(bu.setIfInBounds i true).getD j false) (a:=b) (b:=d) (i:=i) nd' EA s0
     rw[<-he] at this;exact this
    have PK:(eR U l (λj=>bu.getD j false) s0).app (U i)=eR U l (λj=>(bu.setIfInBounds i true).getD j false) s0:=by
     refine DS.ext' (λt=> ?_) (λx=> ?_)
     ·show (if (U i).dst=some t then some (U i).v else _)=_
      by_cases hdt:(U i).dst=some t
      ·have e:=FY U t (λj=>(bu.setIfInBounds i true).getD j false) (λj=>(bu.setIfInBounds i true).getD j false&&decide (j∈b++ [i])) l s0 s0 rfl (λj hj mL=>by
        by_cases hm:j∈b++ [i]
        ·simp[hm]
        ·cases vR:(bu.setIfInBounds i true).getD j false with
         |false=>simp
         |true=>
          have hjd:=bi j hj hm;rw[iN,aM (hdb j hjd).2] at vR;exact absurd mL ((Ah j hjd vR).s3 t hdt))
       rw[e,hup,aH hdt];show _=if (U i).dst=some t then some (U i).v else _
       rw[aH hdt]
      ·rw[aM hdt];refine FY U t _ _ _ _ _ rfl (λj hj mL=> ?_)
       rw[iN];split
       ·rename_i he;subst he;exact absurd mL hdt
       ·rfl
     ·show (if (U i).D x=true then (U i).H x else _)=_
      by_cases hdx:(U i).D x=true
      ·have e:=FZ U x (λj=>(bu.setIfInBounds i true).getD j false) (λj=>(bu.setIfInBounds i true).getD j false&&decide (j∈b++ [i])) l s0 s0 rfl (λj hj mL=>by
        by_cases hm:j∈b++ [i]
        ·simp[hm]
        ·cases vR:(bu.setIfInBounds i true).getD j false with
         |false=>simp
         |true=>
          have hjd:=bi j hj hm;rw[iN,aM (hdb j hjd).2] at vR;have:=(Ah j hjd vR).d x hdx;rw[mL] at this;simp at this)
       rw[e,hup,aH hdx];show _=if (U i).D x=true then (U i).H x else _
       rw[aH hdx]
      ·rw[aM hdx];refine FZ U x _ _ _ _ _ rfl (λj hj mL=> ?_)
       rw[iN];split
       ·rename_i he;subst he;exact absurd mL hdx
       ·rfl
    have aup:∀j,(bu.setIfInBounds i true).getD j false=true->∀k∈direct ops j,(bu.setIfInBounds i true).getD k false=true:=by
     intro j hj k hk;rw[iN] at hj ⊢;split
     ·rfl
     ·split at hj
      ·rename_i he;subst he;exact hi3 k hk
      ·exact eA j hj k hk
    have akX:(l.filter (λj=> !(bu.setIfInBounds i true).getD j false)).length=fuel:=by
     have h1:l.filter (λj=> !(bu.setIfInBounds i true).getD j false)=(l.filter (λj=> !bu.getD j false)).erase i:=by
      have xe:(l.filter (λj=> !bu.getD j false)).Nodup:=List.Pairwise.filter _ nd
      rw[xe.erase_eq_filter,List.filter_filter];refine xy λx hx=> ?_
      rw[iN];by_cases hxi:x=i<;>simp[hxi]
     rw[h1,agh (lr.2 ⟨(hl i).2 sW,by rw[uM];rfl⟩),Bv]
     rfl
    have Jb:∀x,frp i x->g1.Z x=none:=by
     intro x hx;by_cases he:g1.Z x=g.Z x
     ·rw[he];exact l6 i ((hl i).2 sW) x hx
     ·obtain ⟨k,k1,k2,k3⟩:=Ds x he;have cY:i≠k:=λe=>by subst e;rw[uM] at k2;simp at k2
      have:=uh (S:=λj=>bu.getD j false=true) eA n k k2 i (hfp i k ((hl i).2 sW) k1 cY x hx k3)
      rw[uM] at this;simp at this
    refine hs m g1 _ _ a1 w1 (wpAnyIn (ot ro) m E.P .any ops Q fuel (bu.setIfInBounds i true)) Q hE1 Bu xd hT hB Jb (λr w' g' q1 q2 q3 q4=> ?_)
    rw[<-aum] at q1 ⊢;have e1:jg (eR U l (λj=>bu.getD j false) s0).T (U i).dst (U i).v=(eR U l (λj=>(bu.setIfInBounds i true).getD j false) s0).T:=by rw[<-PK];rfl
    have e2:kP (U i).D (U i).H (eR U l (λj=>bu.getD j false) s0).F=(eR U l (λj=>(bu.setIfInBounds i true).getD j false) s0).F:=by rw[<-PK];rfl
    rw[e1] at q1;rw[e2] at q2 q3;refine ih (bu.setIfInBounds i true) _ w' g' (by simpa using mD) aup akX (hE1.mono q3.le) q1 q2 (CD.trans q3) (by rw[put_defers];exact hdf) (λx hx=> ?_)
    by_cases hn:newp i x
    ·exact ⟨i,(hl i).2 sW,EA,hn⟩
    rw[q4 x hn] at hx;obtain ⟨k,k1,k2,k3⟩:=Ds x hx;refine ⟨k,k1,?_,k3⟩;rw[iN];split
    ·rfl
    ·exact k2
 have hlen:l.length=ops.size:=by
  have:l.Perm (List.range ops.size):=(List.perm_ext_iff_of_nodup nd List.nodup_range).2 λj=>by rw[hl,SF]
  rw[this.length_eq,List.length_range]
 refine wpIn_region_any (F:=ot ro) Br (key ops.size _ a _ g (by simp[n]) ?_ ?_ hE ?_ ?_ ?_ rfl (λx hx=>absurd rfl hx))
 ·intro j hj;simp[ma,xx] at hj;split at hj<;>simp at hj
 ·have:l.filter (λj=> !(Array.replicate ops.size false).getD j false)=l:=vA.2 λx hx=>by
   simp[ma,xx];split<;>simp
  rw[this,hlen]
 all_goals
  have hs0:eR U l (λj=>(Array.replicate ops.size false).getD j false) s0=s0:=by
   unfold eR;have:l.filter (λj=>(Array.replicate ops.size false).getD j false)= []:=sr.2 λx hx=>by
    simp[ma,xx];split<;>simp
   rw[this];rfl
  rw[hs0]
 ·exact dY
 ·exact hr.EG rfl
 ·exact Fr.EG rfl rfl rfl rfl
end
end Go.bZ
end
