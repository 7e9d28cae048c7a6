/- Texts that belong together. The first: The runner: operations that need a proof at their place (items). -/
import Derived.Test.YtmealahmjddpcaaGreatDoorP6
import Derived.Below
import Derived.Carry
import Derived.OpenShut
import Derived.JoinedCond
import Derived.KernelRfl
set_option linter.all false
noncomputable section
namespace Go.Sim
section
variable {F F':Hf} {g g':Gb} {B:Bs} {φ:Nat→List Nat} {s s' s1:LS} {tm:Tf} {h:Hs} {hp:Hf} {E:Env} {nt:Nat} {all l:List Oper}
def obI (a b:Int):Ob:=(.int .i64 a,.int .i64 b)
def obN (a b:Nat):Ob:=(.ms 0 0 0 a,.ms 0 0 0 b)
def obR (a b:List (List AV)):Ob:=(.slice 0 0 a,.slice 0 0 b)
def obS (a b:ByteArray):Ob:=(.str a,.str b)
def obM (a b:List (AV×AV)):List Ob:= [(.agg (a.map (·.1)),.agg (b.map (·.1))),(.agg (a.map (·.2)),.agg (b.map (·.2)))]
theorem kA {a b:Int} (h:(obI a b).1=(obI a b).2):a=b:=by unfold obI at h;simpa using h
theorem gm {a b:Nat} (h:(obN a b).1=(obN a b).2):a=b:=by unfold obN at h;simpa using h
theorem gk {a b:List (List AV)} (h:(obR a b).1=(obR a b).2):a=b:=by unfold obR at h;simpa using h
theorem vp {a b:ByteArray} (h:(obS a b).1=(obS a b).2):a=b:=by unfold obS at h;simpa using h
theorem y6:∀{a b:List (AV×AV)},a.map (·.1)=b.map (·.1)→a.map (·.2)=b.map (·.2)→a=b
 | [],[],_,_=>rfl
 | [],_::_,h,_=>by cases h
 |_::_,[],h,_=>by cases h
 |(x,y)::a,(x',y')::b,h1,h2=>by
  rw[List.map_cons,List.map_cons,List.cons.injEq] at h1 h2;obtain ⟨h3,h4⟩:=h1;obtain ⟨h5,h6⟩:=h2;have h3:x=x':=h3;have h5:y=y':=h5;rw[h3,h5,y6 h4 h6]
theorem W1 {a b:List (AV×AV)} {l:List Ob} (h:cA (obM a b++l)):a=b∧cA l:=by
 obtain ⟨h1,h2,h3⟩:=h;have h1:AV.agg (a.map (·.1))=AV.agg (b.map (·.1)):=h1
 have h2:AV.agg (a.map (·.2))=AV.agg (b.map (·.2)):=h2
 exact ⟨y6 (by simpa using h1) (by simpa using h2),h3⟩
inductive Sr:List (List AV)→Type
 |dat {R:List (List AV)}:Sr R
 |box {Q R:List (List AV)} {lo n:Nat} (h:(Q.drop lo).take n=R) (hn:lo+n≤Q.length):Sr R
def PT (s:LS) (sz:Nat) (y:AV) {R:List (List AV)} (sr:Sr R):Option (List Ob):=
 match sr with
 | .dat=>(match y with
  | .aY=>some [obR [] R]
  |y=>ah (nu y) fun q=>sel (Nat.beq q.2.1 sz) (some [obR q.2.2 R]) none)
 | @Sr.box Q _ lo n _ _=>(match y with
  | .ms K sz' lo' n'=>(match lk K s.bs with
   |some (.rows _ _ YG Q')=>sel (Nat.beq sz' sz&&Nat.beq YG sz) (some [obR Q' Q,obN lo' lo,obN n' n]) none
   |_=>none)
  |_=>none)
theorem Da {sz:Nat} {y:AV} {R:List (List AV)} {sr:Sr R} {obs:List Ob} (h:PT s sz y sr=some obs) (ho:cA obs):q9 s sz y R:=by
 unfold PT at h;cases sr with
 |dat=>
  dsimp only at h;split at h
  ·cases h;have:=gk ho.1;subst this;exact aeF
  ·obtain ⟨⟨e,sz',R'⟩,h1,h⟩:=ae h;obtain ⟨h2,h⟩:=aq h;cases h;have e1:R'=R:=gk ho.1;have e2:sz'=sz:=(beq_iff _ _).1 h2;subst e1;subst e2;exact YK h1
 | @box Q _ lo n hR hn=>
  dsimp only at h;split at h
  ·rename_i K sz' lo' n';split at h
   ·rename_i z e YG Q' hb;obtain ⟨h2,h⟩:=aq h;cases h;obtain ⟨o1,o2,o3,_⟩:=ho;have e1:=gk o1;have e2:=gm o2;have e3:=gm o3;rw[Bool.and_eq_true] at h2;have e4:sz'=sz:=(beq_iff _ _).1 h2.1;have e5:YG=sz:=(beq_iff _ _).1 h2.2;subst e1;subst e2;subst e3;subst e4;subst e5;exact aeG hb hR hn
   ·cases h
  ·cases h
def QI (E:Env) (s:LS) (rows:List (List AV)) (n:Int) (R:List AV) (op:Op):Option Res:=
 match op with
 | .indexAddr t a ix=>aH (elemOf E t) (nu (aP s.ts a)) fun ie q=>(match aP s.ts ix with
  | .int _ n'=>sel (Nat.beq ie.size q.2.1) (some (s,.imm R,none,[obR q.2.2 rows,obI n' n])) none
  |_=>none)
 |_=>none
theorem ZF {rows:List (List AV)} {n:Int} {R:List AV} {op:Op} {r:Res} (hR:jJ rows n=some R) (h:QI E s rows n R op=some r):fu E B op s r:=by
 unfold QI at h;split at h
 ·obtain ⟨ie,⟨e,sz,cH⟩,h1,h2,h⟩:=ay h;split at h
  ·rename_i hix;obtain ⟨h3,h⟩:=aq h;cases h;intro ho;obtain ⟨o1,o2,_⟩:=ho;have e1:cH=rows:=gk o1;have e2:=kA o2;subst e1;subst e2;exact Zc h1 ((beq_iff _ _).1 h3) rfl h2 hix hR
  ·cases h
 ·cases h
def QJ (E:Env) (s:LS) (n k:Nat) (m:Int) (op:Op):Option Res:=
 match op with
 | .indexAddr t a ix=>ah (elemOf E t) fun ie=>(match aP s.ts a,aP s.ts ix with
  | .ms K sz lo n',.int _ m'=>sel (Nat.beq ie.size sz) (some (s,.el K sz (Nat.add lo k) 0,none,[obN n' n,obI m' m])) none
  |_,_=>none)
 |_=>none
theorem ZG {n k:Nat} {m:Int} {op:Op} {r:Res} (hm:m=(k:Int)) (hk:k<n) (h:QJ E s n k m op=some r):fu E B op s r:=by
 unfold QJ at h;split at h
 ·obtain ⟨ie,h1,h⟩:=ae h;split at h
  ·rename_i ha hix;obtain ⟨h3,h⟩:=aq h;cases h;intro ho;obtain ⟨o1,o2,_⟩:=ho;have e1:=gm o1;have e2:=kA o2;subst e1;subst e2;exact NB h1 ((beq_iff _ _).1 h3) ha hix hm hk
  ·cases h
 ·cases h
def QF (E:Env) (s:LS) (Q:List (List AV)) (j:Nat) (R:List AV) (op:Op):Option Res:=
 match op with
 | .load t a=>ah (E.ty.get t) fun i=>(match aP s.ts a with
  | .el K sz j' f=>(match lk K s.bs with
   |some (.rows _ _ sz' Q')=>sel (Nat.beq sz sz'&&Nat.ble (Nat.add f i.size) sz) (ah (gz i ((R.drop f).take i.size) 0) fun x=>sel (ct x).isEmpty (some (s,x,none,[obR Q' Q,obN j' j])) none) none
   |some (.hole _ sz' Q' _ _)=>sel (Nat.beq sz sz'&&Nat.ble (Nat.add f i.size) sz) (ah (gz i ((R.drop f).take i.size) 0) fun x=>sel (ct x).isEmpty (some (s,x,none,[obR Q' Q,obN j' j])) none) none
   |_=>none)
  |_=>none)
 |_=>none
theorem ZA {Q:List (List AV)} {j:Nat} {R:List AV} {op:Op} {r:Res} (hj:Q[j]? =some R) (h:QF E s Q j R op=some r):fu E B op s r:=by
 unfold QF at h;split at h
 ·obtain ⟨i,h1,h⟩:=ae h;split at h
  ·rename_i K sz j' f ha;split at h
   ·rename_i z e sz' Q' hb;obtain ⟨h2,h⟩:=aq h;obtain ⟨x,h3,h⟩:=ae h;obtain ⟨h4,h⟩:=aq h;cases h;intro ho;obtain ⟨o1,o2,_⟩:=ho;have e1:Q'=Q:=gk o1;have e2:=gm o2;rw[Bool.and_eq_true] at h2;have e3:sz=sz':=(beq_iff _ _).1 h2.1;subst e1;subst e2;subst e3;exact Qf h1 ha hb hj h2.2 h3 h4
   ·rename_i e sz' Q' i0 x0 hb;obtain ⟨h2,h⟩:=aq h;obtain ⟨x,h3,h⟩:=ae h;obtain ⟨h4,h⟩:=aq h;cases h;intro ho;obtain ⟨o1,o2,_⟩:=ho;have e1:Q'=Q:=gk o1;have e2:=gm o2;rw[Bool.and_eq_true] at h2;have e3:sz=sz':=(beq_iff _ _).1 h2.1;subst e1;subst e2;subst e3;exact Ny h1 ha hb hj h2.2 h3 h4
   ·cases h
  ·cases h
 ·cases h
def QE (E:Env) (s:LS) (Q:List (List AV)) (j:Nat) (f:Nat) (xs:List AV) (Q':List (List AV)) (op:Op):Option Res:=
 match op with
 | .store t a c=>aH (E.ty.get t) (kE (aP s.ts c)) fun i xs'=>(match aP s.ts a with
  | .el K sz j' f'=>(match lk K s.bs with
   |some (.rows z e sz' Q0)=>sel (Nat.beq sz sz'&&(Nat.beq f' f&&((cL xs').isEmpty&&(Nat.beq xs'.length i.size&&Nat.ble (Nat.add f xs'.length) sz)))) (some (s.set K (.rows z e sz Q'),.tup [],some (K,false),[obR Q0 Q,obN j' j,(.agg xs',.agg xs)])) none
   |_=>none)
  |_=>none)
 |_=>none
theorem Zz {Q:List (List AV)} {j:Nat} {R:List AV} {f:Nat} {xs:List AV} {Q':List (List AV)} {op:Op} {r:Res} (hj:Q[j]? =some R) (hQ':Q.set j (cx R f xs)=Q') (h:QE E s Q j f xs Q' op=some r):fu E B op s r:=by
 subst hQ';unfold QE at h;split at h
 ·obtain ⟨i,xs',h1,hx,h⟩:=ay h;split at h
  ·rename_i K sz j' f' ha;split at h
   ·rename_i z e sz' Q0 hb;obtain ⟨h2,h⟩:=aq h;cases h;intro ho;obtain ⟨o1,o2,o3,_⟩:=ho;have e1:Q0=Q:=gk o1;have e2:=gm o2;have e4:xs'=xs:=by have o3:AV.agg xs'= .agg xs:=o3;simpa using o3
    simp only[Bool.and_eq_true] at h2;obtain ⟨k1,k2,k3,k4⟩:=h2;have e3:sz=sz':=(beq_iff _ _).1 k1;have e5:f'=f:=(beq_iff _ _).1 k2;subst e1;subst e2;subst e3;subst e4;subst e5;exact Nv h1 ha rfl hx k3 hb hj (by rw[Bool.and_eq_true];exact k4)
   ·cases h
  ·cases h
 ·cases h
def QK (E:Env) (s:LS) (Q:List (List AV)) (j f:Nat) (Q':List (List AV)) (op:Op):Option Res:=
 match op with
 | .store t a c=>ah (E.ty.get t) fun i=>(match aP s.ts a,kE (aP s.ts c) with
  | .el K sz j' f',some [x]=>(match lk K s.bs with
   |some (.rows z e sz' Q0)=>sel (Nat.beq sz sz'&&(Nat.beq f' f&&(Nat.beq 1 i.size&&Nat.ble (Nat.add f 1) sz))) (some (s.set K (.hole e sz Q' (Nat.add (Nat.mul j sz) f) x),.tup [],some (K,false),[obR Q0 Q,obN j' j])) none
   |_=>none)
  |_,_=>none)
 |_=>none
theorem ZH {Q:List (List AV)} {j:Nat} {R:List AV} {f:Nat} {Q':List (List AV)} {op:Op} {r:Res} (hj:Q[j]? =some R) (hQ':Q.set j (cx R f [.undef])=Q') (h:QK E s Q j f Q' op=some r):fu E B op s r:=by
 subst hQ';unfold QK at h;split at h
 ·obtain ⟨i,h1,h⟩:=ae h;split at h
  ·rename_i K sz j' f' x ha hx;split at h
   ·rename_i z e sz' Q0 hb;obtain ⟨h2,h⟩:=aq h;cases h;intro ho;obtain ⟨o1,o2,_⟩:=ho;have e1:Q0=Q:=gk o1;have e2:=gm o2;simp only[Bool.and_eq_true] at h2;obtain ⟨k1,k2,k3,k4⟩:=h2;have e3:sz=sz':=(beq_iff _ _).1 k1;have e5:f'=f:=(beq_iff _ _).1 k2;subst e1;subst e2;subst e3;subst e5;exact J9 h1 ha rfl hx hb hj (by rw[Bool.and_eq_true];exact ⟨k3,k4⟩)
   ·cases h
  ·cases h
 ·cases h
def QO (E:Env) (s:LS) (b:ByteArray) (n:Int) (c:UInt8) (op:Op):Option Res:=
 match op with
 | .index t a ix=>ah (E.ty.get t) fun i=>(match aP s.ts a,aP s.ts ix with
  | .str b',.int _ n'=>sel (nk i.desc) (some (s,.int .u8 (c.toNat:Int),none,[obS b' b,obI n' n])) none
  |_,_=>none)
 |_=>none
theorem ZL {b:ByteArray} {n:Int} {c:UInt8} {op:Op} {r:Res} (hc:jJ b.data.toList n=some c) (h:QO E s b n c op=some r):fu E B op s r:=by
 unfold QO at h;split at h
 ·obtain ⟨i,h1,h⟩:=ae h;split at h
  ·rename_i ha hix;obtain ⟨h3,h⟩:=aq h;cases h;intro ho;obtain ⟨o1,o2,_⟩:=ho;have e1:=vp o1;have e2:=kA o2;subst e1;subst e2;exact NA h1 h3 ha hix hc
  ·cases h
 ·cases h
def ZB (s:LS) (n:Int) (op:Op):Option Res:=
 match op with
 | .binOp op t a b t2=>(match aP s.ts a,aP s.ts b with
  | .int k m,.int k' n'=>sel (cc k k') (ah (divL op k m n) fun x=>some (s,x,none,[obI n' n])) none
  |_,_=>none)
 |_=>none
theorem aff {n:Int} {op:Op} {r:Res} (hn:n≠0) (h:ZB s n op=some r):fu E B op s r:=by
 unfold ZB at h;split at h
 ·split at h
  ·rename_i ha hb;obtain ⟨h3,h⟩:=aq h;obtain ⟨x,h4,h⟩:=ae h;cases h;intro ho;have e1:=kA ho.1;subst e1;exact agq ha hb h3 hn h4
  ·cases h
 ·cases h
def QP (s:LS) (x y:ByteArray) (op:Op):Option Res:=
 match op with
 | .binOp .add t a b t2=>(match aP s.ts a,aP s.ts b with
  | .str x',.str y'=>some (s,.str (x++y),none,[obS x' x,obS y' y])
  |_,_=>none)
 |_=>none
theorem ZM {x y:ByteArray} {op:Op} {r:Res} (hn:x.size+y.size≤1000000) (h:QP s x y op=some r):fu E B op s r:=by
 unfold QP at h;split at h
 ·split at h
  ·rename_i ha hb;cases h;intro ho;obtain ⟨o1,o2,_⟩:=ho;have e1:=vp o1;have e2:=vp o2;subst e1;subst e2;exact agr ha hb hn
  ·cases h
 ·cases h
def ZD (E:Env) (pks:List Nat) (s:LS) (n1 n2:Int) (l:Nat) (x:List AV) (Q':List (List AV)) (op:Op) (d:Option Nat):Option Res:=
 match op,d with
 | .makeSlice t a c,some K=>ah (jh E t) fun p=>(match aP s.ts a,aP s.ts c with
  | .int _ n1',.int _ n2'=>sel (dG p.2&&((cL (dU p.2.zero)).isEmpty&&jm pks s K)) (some (s.set K (.rows false p.1 p.2.size Q'),.ms K p.2.size 0 l,some (K,true),[obI n1' n1,obI n2' n2,(.agg (dU p.2.zero),.agg x)])) none
  |_,_=>none)
 |_,_=>none
def QM (E:Env) (s:LS) (rows:List (List AV)) (lo hi:Int) (R:List (List AV)) (op:Op):Option Res:=
 match op with
 | .slice t a o1 o2 none=>aH (jh E t) (nu (aP s.ts a)) fun p q=>aH (uc s.ts o1) (uc s.ts o2) fun b1 b2=>sel (Nat.beq q.1 p.1&&Nat.beq q.2.1 p.2.size) (some (s,.slice p.1 p.2.size R,none,[obR q.2.2 rows,obI (b1.getD 0) lo,obI (b2.getD (q.2.2.length:Nat)) hi])) none
 |_=>none
theorem ZJ {rows R:List (List AV)} {lo hi:Int} {l u:Nat} {op:Op} {r:Res} (h1:lo=(l:Int)) (h2:hi=(u:Int)) (hlu:l≤u) (hum:u≤rows.length) (hR:(rows.drop l).take (u-l)=R) (h:QM E s rows lo hi R op=some r):fu E B op s r:=by
 unfold QM at h;split at h
 ·obtain ⟨p,⟨e,sz,cH⟩,h3,h4,h⟩:=ay h;obtain ⟨b1,b2,h5,h6,h⟩:=ay h;obtain ⟨h7,h⟩:=aq h;cases h;intro ho;obtain ⟨o1,o2,o3,_⟩:=ho;have e1:cH=rows:=gk o1;have e2:=kA o2;have e3:=kA o3;rw[Bool.and_eq_true] at h7;have e4:e=p.1:=(beq_iff _ _).1 h7.1;have e5:sz=p.2.size:=(beq_iff _ _).1 h7.2;subst e1;subst e4;subst e5;exact ok_slice h3 rfl h4 h5 h6 (e2.trans h1) (e3.trans h2) hlu hum hR
 ·cases h
def Ks (E:Env) (s:LS) (Q:List (List AV)) (lo0 n:Nat) (lo hi:Int) (l u:Nat) (op:Op):Option Res:=
 match op with
 | .slice t a o1 o2 none=>ah (jh E t) fun p=>aH (uc s.ts o1) (uc s.ts o2) fun b1 b2=>(match aP s.ts a with
  | .ms K sz lo' n'=>(match lk K s.bs with
   |some (.rows _ e sz' Q')=>sel (Nat.beq e p.1&&(Nat.beq sz p.2.size&&Nat.beq sz' p.2.size)) (some (s,.ms K p.2.size (Nat.add lo0 l) (Nat.sub u l),none,[obR Q' Q,obN lo' lo0,obN n' n,obI (b1.getD 0) lo,obI (b2.getD (n:Nat)) hi])) none
   |_=>none)
  |_=>none)
 |_=>none
theorem Xs {Q:List (List AV)} {lo0 n:Nat} {lo hi:Int} {l u:Nat} {op:Op} {r:Res} (h1:lo=(l:Int)) (h2:hi=(u:Int)) (hlu:l≤u) (hum:u≤n) (hn:lo0+n≤Q.length) (h:Ks E s Q lo0 n lo hi l u op=some r):fu E B op s r:=by
 unfold Ks at h;split at h
 ·obtain ⟨p,h3,h⟩:=ae h;obtain ⟨b1,b2,h5,h6,h⟩:=ay h;split at h
  ·rename_i K sz lo' n' ha;split at h
   ·rename_i z e sz' Q' hb;obtain ⟨h7,h⟩:=aq h;cases h;intro ho;obtain ⟨o1,o2,o3,o4,o5,_⟩:=ho;have e1:=gk o1;have e2:=gm o2;have e3:=gm o3;have e4:=kA o4;have e5:=kA o5;rw[Bool.and_eq_true,Bool.and_eq_true] at h7;have e6:e=p.1:=(beq_iff _ _).1 h7.1;have e7:sz=p.2.size:=(beq_iff _ _).1 h7.2.1;have e8:sz'=p.2.size:=(beq_iff _ _).1 h7.2.2;subst e1;subst e2;subst e3;subst e6;subst e7;subst e8;exact Nw h3 ha hb h5 h6 (e4.trans h1) (e5.trans h2) hlu hum hn
   ·cases h
  ·cases h
 ·cases h
def PE (b:Builtin) (op:Op):Option ((Operand×Operand)×TypeId×TypeId):=
 match op with
 | .call c=>(match c.callee with
  | .builtin b'=>sel (decide (b'=b)) (match c.args.toList,c.argTypes.toList with
   | [a,y],[t1,t2]=>some ((a,y),t1,t2)
   |_,_=>none) none
  |_=>none)
 |_=>none
theorem Eo {b:Builtin} {op:Op} {q:(Operand×Operand)×TypeId×TypeId} (h:PE b op=some q):∃c,op= .call c∧c.callee= .builtin b∧c.args.toList= [q.1.1,q.1.2]∧c.argTypes.toList= [q.2.1,q.2.2]:=by
 unfold PE at h;split at h
 ·rename_i c;split at h
  ·rename_i b' hc;obtain ⟨h1,h2⟩:=aq h;clear h;have e:b'=b:=by simpa using h1
   split at h2
   ·rename_i ha ht;cases h2;exact ⟨c,rfl,by rw[hc,e],ha,ht⟩
   ·cases h2
  ·cases h
 ·cases h
def FD (E:Env) (pks:List Nat) (s:LS) (w:Bool) (Q P R Q':List (List AV)) (n n':Nat) (sr:Sr R) (op:Op) (d:Option Nat):Option Res:=
 ah (PE .append op) fun q=>aH (jh E q.2.1) (E.ty.get q.2.2) fun p i2=>ah (PT s p.2.size (aP s.ts q.1.2) sr) fun obs=>(match aP s.ts q.1.1 with
  | .ms K sz lo n0=>(match lk K s.bs with
   |some (.rows z e sz' Q0)=>sel (dG p.2&&(nI i2.desc&&(Nat.beq lo 0&&(Nat.beq sz p.2.size&&(Nat.beq sz' p.2.size&&(Nat.beq e p.1 && !cz K pks)))))) (some ((s.dT K).set K (.rows (w&&z) e sz Q'),.ms K sz 0 n',some (K,false),obR Q0 Q::obN n0 n::obs)) none
   |_=>none)
  | .aY=>ah d fun K=>(match lk K s.bs with
   |some (.rows true e sz' [])=>sel (dG p.2&&(nI i2.desc&&(Nat.beq sz' p.2.size&&(Nat.beq e p.1 && !cz K pks)))) (some ((s.dT K).set K (.rows true e sz' Q'),.ms K sz' 0 n',some (K,false),obR [] Q::obN 0 n::obs)) none
   |_=>none)
  |_=>none)
theorem Kt {pks:List Nat} {w:Bool} {Q P R Q':List (List AV)} {n n':Nat} {sr:Sr R} {op:Op} {d:Option Nat} {r:Res} (hB:BOK pks B) (hw:w=true→n=Q.length) (hP:Q.take n=P) (hn:n≤Q.length) (hn6:n≤1000000) (hR:R.length≤1000000) (hQ':P++R=Q') (hl:Q'.length=n') (h:FD E pks s w Q P R Q' n n' sr op d=some r):fu E B op s r:=by
 subst hl;subst hQ';unfold FD at h;obtain ⟨⟨⟨a,y⟩,t1,t2⟩,h1,h0⟩:=ae h;clear h;obtain ⟨c,rfl,hc1,hc2,hc3⟩:=Eo h1;have h:=h0;clear h0;obtain ⟨p,i2,h2,h3,h⟩:=ay h;obtain ⟨obs,h4,h⟩:=ae h;split at h
 ·rename_i K sz lo n0 ha;split at h
  ·rename_i z e sz' Q0 hb;obtain ⟨h5,h⟩:=aq h;cases h;intro ho;obtain ⟨o1,o2,o3⟩:=ho;have e1:=gk o1;have e2:=gm o2;simp only[Bool.and_eq_true] at h5;obtain ⟨k1,k2,k3,k4,k5,k6,k7⟩:=h5;have e3:lo=0:=(beq_iff _ _).1 k3;have e4:sz=p.2.size:=(beq_iff _ _).1 k4;have e5:sz'=p.2.size:=(beq_iff _ _).1 k5;have e6:e=p.1:=(beq_iff _ _).1 k6;subst e1;subst e2;subst e3;subst e4;subst e5;subst e6;refine W0 hc1 hc2 hc3 h2 k1 h3 k2 ha rfl (Da h4 o3) hP hn hn6 hR (fun hz=> ?_) hb (hB K (by simpa using k7))
   rw[Bool.and_eq_true] at hz;exact ⟨hz.2,hw hz.1⟩
  ·cases h
 ·rename_i ha;obtain ⟨K,hd,h⟩:=ae h;split at h
  ·rename_i e sz' hb;obtain ⟨h5,h⟩:=aq h;cases h;intro ho;obtain ⟨o1,o2,o3⟩:=ho;have e1:=gk o1;have e2:=gm o2;simp only[Bool.and_eq_true] at h5;obtain ⟨k1,k2,k5,k6,k7⟩:=h5;have e5:sz'=p.2.size:=(beq_iff _ _).1 k5;have e6:e=p.1:=(beq_iff _ _).1 k6;subst e1;subst e2;subst e5;subst e6;have hP':P= []:=by rw[←hP];rfl
   subst hP';exact Qh hc1 hc2 hc3 h2 k1 h3 k2 ha rfl (Da h4 o3) hR hb (hB K (by simpa using k7))
  ·cases h
 ·cases h
def QN (E:Env) (s:LS) (Q R Q':List (List AV)) (lo n m:Nat) (sr:Sr R) (op:Op):Option Res:=
 ah (PE .copy op) fun q=>ah (jh E q.2.1) fun p=>(match aP s.ts q.1.1 with
  | .ms K sz lo' n'=>(match lk K s.bs with
   |some (.rows z e sz' Q2)=>ah (PT s p.2.size (aP s.ts q.1.2) sr) fun obs=>sel (dG p.2&&(Nat.beq sz p.2.size&&Nat.beq sz' p.2.size)) (some (s.set K (.rows z e sz Q'),.int .i64 (m:Int),some (K,false),obR Q2 Q::obN lo' lo::obN n' n::obs)) none
   |_=>none)
  |_=>none)
theorem ZK {Q R Q':List (List AV)} {lo n m:Nat} {sr:Sr R} {op:Op} {r:Res} (hn:lo+n≤Q.length) (hm:m=min R.length n) (hQ':Q'=Q.take lo++R.take m++Q.drop (lo+m)) (hne:Q≠ []) (hn0:lo=0∨0<n) (h:QN E s Q R Q' lo n m sr op=some r):fu E B op s r:=by
 unfold QN at h;obtain ⟨⟨⟨a,y⟩,t1,t2⟩,h1,h0⟩:=ae h;clear h;obtain ⟨c,rfl,hc1,hc2,hc3⟩:=Eo h1;have h:=h0;clear h0;obtain ⟨p,h2,h⟩:=ae h;split at h
 ·rename_i K sz lo' n' ha;split at h
  ·rename_i z e sz' Q2 hb;obtain ⟨obs,h4,h⟩:=ae h;obtain ⟨h5,h⟩:=aq h;cases h;intro ho;obtain ⟨o1,o2,o3,o4⟩:=ho;have e1:=gk o1;have e2:=gm o2;have e3:=gm o3;simp only[Bool.and_eq_true] at h5;obtain ⟨k1,k2,k3⟩:=h5;have e4:sz=p.2.size:=(beq_iff _ _).1 k2;have e5:sz'=p.2.size:=(beq_iff _ _).1 k3;subst e1;subst e2;subst e3;subst e4;subst e5;exact aeU hc1 hc2 hc3 h2 k1 ha rfl (Da h4 o4) hn hm hQ' hb hne hn0
  ·cases h
 ·cases h
def QG (s:LS) (b:ByteArray) (pos:Nat) (op:Op):Option Res:=
 match op with
 | .next it true=>(match aP s.ts it with
  | .it K=>(match lk K s.bs with
   |some (.iter b' pos')=>some (s.set K (.iter b (Nat.add pos (Utf8.decode b pos).2)),.tup [.bool true,.int .i64 (pos:Int),.int .i32 (Utf8.decode b pos).1],some (K,false),[obS b' b,obN pos' pos])
   |_=>none)
  |_=>none)
 |_=>none
theorem ZC {b:ByteArray} {pos:Nat} {op:Op} {r:Res} (hlt:pos<b.size) (h:QG s b pos op=some r):fu E B op s r:=by
 unfold QG at h;split at h
 ·split at h
  ·rename_i ha;split at h
   ·rename_i hb;cases h;intro ho;obtain ⟨o1,o2,_⟩:=ho;have e1:=vp o1;have e2:=gm o2;subst e1;subst e2;exact aeQ ha hb hlt
   ·cases h
  ·cases h
 ·cases h
def QL (s:LS) (b:ByteArray) (pos:Nat) (op:Op):Option Res:=
 match op with
 | .next it true=>(match aP s.ts it with
  | .it K=>(match lk K s.bs with
   |some (.iter b' pos')=>some (s,.tup [.bool false],none,[obS b' b,obN pos' pos])
   |_=>none)
  |_=>none)
 |_=>none
theorem ZI {b:ByteArray} {pos:Nat} {op:Op} {r:Res} (hlt:¬pos<b.size) (h:QL s b pos op=some r):fu E B op s r:=by
 unfold QL at h;split at h
 ·split at h
  ·rename_i ha;split at h
   ·rename_i hb;cases h;intro ho;obtain ⟨o1,o2,_⟩:=ho;have e1:=vp o1;have e2:=gm o2;subst e1;subst e2;exact Qd ha hb hlt
   ·cases h
  ·cases h
 ·cases h
def QH (E:Env) (s:LS) (es:List (AV×AV)) (k x z:AV) (ok:Bool) (op:Op):Option Res:=
 match op with
 | .lookup t a c ok'=>ah (Kj E t) fun p=>(match aP s.ts a with
  | .mp K=>(match lk K s.bs with
   |some (.map es')=>sel (Kr k p.1.desc&&(ok==ok'&&(ct x).isEmpty)) (ah (gz p.2 (dU p.2.zero) 0) fun z'=>some (s,x,none,obM es' es++ [(aP s.ts c,k),(z',z)])) none
   |_=>none)
  |_=>none)
 |_=>none
theorem ZE {es:List (AV×AV)} {k x z:AV} {ok:Bool} {op:Op} {r:Res} (hf:∃f,g5 k es=some f∧vN ok (some z) f=some x) (h:QH E s es k x z ok op=some r):fu E B op s r:=by
 obtain ⟨f,hf,hx⟩:=hf;unfold QH at h;split at h
 ·obtain ⟨p,h1,h⟩:=ae h;split at h
  ·rename_i ha;split at h
   ·rename_i hb;obtain ⟨h2,h⟩:=aq h;obtain ⟨z',h3,h⟩:=ae h;cases h;intro ho;obtain ⟨e1,o2,o3,_⟩:=W1 ho;have o2:aP s.ts _=k:=o2;have o3:z'=z:=o3;simp only[Bool.and_eq_true,beq_iff_eq] at h2;obtain ⟨k1,k2,k3⟩:=h2;subst e1;subst o3;subst k2;exact WX h1 ha o2 k1 hb hf (by rw[h3];exact hx) k3
   ·cases h
  ·cases h
 ·cases h
def QD (E:Env) (s:LS) (es es':List (AV×AV)) (k x:AV) (op:Op):Option Res:=
 match op with
 | .mapUpdate t a c d=>ah (Kj E t) fun p=>(match aP s.ts a with
  | .mp K=>(match lk K s.bs with
   |some (.map es0)=>sel (Kr k p.1.desc) (ah (ndf (aP s.ts d)) fun x'=>sel (ct x).isEmpty (some (s.set K (.map es'),.tup [],some (K,false),obM es0 es++ [(aP s.ts c,k),(x',x)])) none) none
   |_=>none)
  |_=>none)
 |_=>none
theorem Zy {es es':List (AV×AV)} {k x:AV} {op:Op} {r:Res} (hf:∃f,g5 k es=some f∧CA es k x f=es') (h:QD E s es es' k x op=some r):fu E B op s r:=by
 obtain ⟨f,hf,hx⟩:=hf;subst hx;unfold QD at h;split at h
 ·obtain ⟨p,h1,h⟩:=ae h;split at h
  ·rename_i ha;split at h
   ·rename_i hb;obtain ⟨h2,h⟩:=aq h;obtain ⟨x',h3,h⟩:=ae h;obtain ⟨h5,h6⟩:=mB h3;obtain ⟨h4,h⟩:=aq h;cases h;intro ho;obtain ⟨e1,o2,o3,_⟩:=W1 ho;have o2:aP s.ts _=k:=o2;have o3:x'=x:=o3;subst e1;subst o3;exact WU (fun _ _ _=>rfl) h1 ha o2 h2 h5 (h5 ▸ h6) h4 hb hf
   ·cases h
  ·cases h
 ·cases h
end
section
variable {F F':Hf} {g g':Gb} {B:Bs} {φ:Nat→List Nat} {s s' s1:LS} {tm:Tf} {h:Hs} {hp:Hf} {E:Env} {nt:Nat} {all l:List Oper}
inductive P1 where
 |same|sl (e s:Nat)|sn (e s:Nat)|un
inductive PM where
 |one (m:P1)|agg (ms:List P1)
def P1.app (m:P1) (x:AV):AV:=
 match m with
 | .same=>x
 | .un=>.undef
 | .sl e s=>(match x with
  | .aY=>.slice e s []
  | .sln e' s' rows=>.slice e' s' rows
  |x=>x)
 | .sn e s=>(match x with
  | .aY=>.sln e s []
  |x=>x)
def apps:List P1→List AV→List AV
 |m::ms,x::xs=>m.app x::apps ms xs
 |_,xs=>xs
def PM.app (m:PM) (x:AV):AV:=
 match m with
 | .one m=>m.app x
 | .agg ms=>(match x with| .agg xs=>.agg (apps ms xs)|x=>x)
theorem P1.va (m:P1) {x:AV} {v:SV} (h:VA F g v x):VA F g v (m.app x):=by
 unfold P1.app;split
 ·exact h
 ·exact .undef v
 ·split
  ·cases h;exact .jB _ _
  ·cases h with
   |rp=>exact .jB _ _
   |sln hF hc hn hz hu hl h=>exact .slice hF hc hn hu hl h
  ·exact h
 ·split
  ·cases h;exact .rp _ _
  ·exact h
theorem xn:∀{ms:List P1} {xs:List AV} {vs:List SV},VAs F g vs xs→VAs F g vs (apps ms xs)
 | [],xs,_,h=>by cases xs<;>exact h
 |m::ms,[],_,h=>h
 |m::ms,x::xs,_,.cons h t=>.cons (m.va h) (xn t)
theorem LO:∀(ms:List P1) (xs:List AV),(apps ms xs).length=xs.length
 | [],xs=>by cases xs<;>rfl
 |m::ms,[]=>rfl
 |m::ms,x::xs=>by show (apps ms xs).length+1=_;rw[LO ms xs];rfl
theorem VAs.cutAt:∀{r R:List AV} {vs:List SV},VAs F g vs (r++R)→∃v1 v2,vs=v1++v2∧VAs F g v1 r∧VAs F g v2 R
 | [],R,vs,h=>⟨[],vs,rfl,.nil,h⟩
 |x::r,R,_,.cons h t=>by
  obtain ⟨v1,v2,e,a,b⟩:=VAs.cutAt (r:=r) t;exact ⟨_::v1,v2,by rw[e];rfl,.cons h a,b⟩
theorem ER {ms:List P1}:∀{Q:List (List AV)} {vs:List SV},VAs F g vs Q.flatten→VAs F g vs (Q.map (apps ms)).flatten
 | [],_,h=>h
 |r::Q,vs,h=>by
  obtain ⟨v1,v2,e,a,b⟩:=VAs.cutAt (r:=r) (R:=Q.flatten) h;subst e;exact (xn a).append (ER b)
theorem aeu {z:Bool} {e:TypeId} {sz:Nat} {Q:List (List AV)} (ms:List P1):WB (.rows z e sz Q) (.rows z e sz (Q.map (apps ms))):=fun F g h K fp q=>by
 cases q with
 |dg hb=>exact .dg hb
 |rows hb hh hz hu hc q=>
  refine .rows hb hh (fun e=> ?_) (fun r hr=> ?_) (by rw[List.length_map];exact hc) (by rw[List.length_map];exact ER q)
  ·intro hq;exact hz e (List.map_eq_nil_iff.1 hq)
  ·obtain ⟨r0,h0,e0⟩:=List.mem_map.1 hr;rw[←e0,LO];exact hu r0 h0
theorem aU.box {op:Op} {x:AV} {K:Nat} {b b':Bx} {l:Bool} (hy:aU E B op s (s.set K b) x (some (K,l))) (hw:WB b b'):aU E B op s (s.set K b') x (some (K,l)):=.mk fun {F g φ tm hh new} r h1 h2=>by
 have less:nV (s.set K b) (s.set K b'):=⟨fun t y hy=>.inr ⟨y,hy,WV.refl y⟩,fun k c hc=>by
  rw[show (s.set K b').bs=(K,b')::s.bs from rfl,bp] at hc;rw[show (s.set K b).bs=(K,b)::s.bs from rfl,bp];split at hc
  ·rename_i e;cases hc;rw[if_pos e];exact ⟨b,rfl,hw⟩
  ·rename_i e;rw[if_neg e];exact ⟨c,hc,WB.refl c⟩⟩
 obtain ⟨v,us,a1,a2,a3,a4,a5,a6⟩:=hy.go r h1 h2;refine ⟨v,us,a1,a2,fun h' hu=>(a3 h' hu).less less,a4,fun k c hc=> ?_,fun k hk=>wP (hk.elim .inl fun ⟨l,hl⟩=>.inr (by cases hl;rfl))⟩
 obtain ⟨c0,hc0,_⟩:=less.2 k c hc;exact a5 k c0 hc0
theorem afg {pks:List Nat} {n1 n2:Int} {l m:Nat} {x:List AV} {Q':List (List AV)} {op:Op} {d:Option Nat} {r:Res} (hB:BOK pks B) (h1:n1=(l:Int)) (h2:n2=(m:Int)) (hl:l≤m) (hm:m≤1000000) (ms:List P1) (hQ':(List.replicate l x).map (apps ms)=Q') (h:ZD E pks s n1 n2 l x Q' op d=some r):fu E B op s r:=by
 subst hQ';unfold ZD at h;split at h
 ·obtain ⟨p,h3,h⟩:=ae h;split at h
  ·rename_i ha hc;obtain ⟨h4,h⟩:=aq h;cases h;intro ho;obtain ⟨o1,o2,o3,_⟩:=ho;have e1:=kA o1;have e2:=kA o2;have e3:dU p.2.zero=x:=by have o3:AV.agg (dU p.2.zero)= .agg x:=o3;simpa using o3
   subst e1;subst e2;subst e3;rw[Bool.and_eq_true,Bool.and_eq_true] at h4;obtain ⟨f1,f2⟩:=lF hB h4.2.2;exact (Ka h3 h4.1 ha hc h1 h2 hl hm f1 f2 h4.2.1).box (aeu ms)
  ·cases h
 ·cases h
theorem PM.va (m:PM) {x:AV} {v:SV} (h:VA F g v x):VA F g v (m.app x):=by
 unfold PM.app;split
 ·exact P1.va _ h
 ·split
  ·cases h with|agg h=>exact .agg (xn h)
  ·exact h
theorem PM.wv (m:PM) (x:AV):WV x (m.app x):=.inr fun _ _ _ h=>m.va h
def F7:List PM→List AV→List AV
 |m::ms,x::xs=>m.app x::F7 ms xs
 |_,xs=>xs
theorem LU:∀{ms:List PM} {xs:List AV} {vs:List SV},VAs F g vs xs→VAs F g vs (F7 ms xs)
 | [],xs,_,h=>by cases xs<;>exact h
 |m::ms,[],_,h=>h
 |m::ms,x::xs,_,.cons h t=>.cons (m.va h) (LU t)
inductive PB where
 |same|flat (ms:List P1)|any|hol (m:P1)
def PB.app (m:PB) (b:Bx):Bx:=
 match m with
 | .same=>b
 | .flat ms=>(match b with| .flat e cs=>.flat e (apps ms cs)|b=>b)
 | .any=>(match b with| .rows _ e s Q=>.rows false e s Q|b=>b)
 | .hol m=>(match b with| .hole e s Q i x=>.hole e s Q i (m.app x)|b=>b)
theorem PB.wb (m:PB) (b:Bx):WB b (m.app b):=fun F g h K fp q=>by
 unfold PB.app;split
 ·exact q
 ·split
  ·cases q with|flat hh q=>exact .flat hh (xn q)
  ·exact q
 ·split
  ·cases q with
   |dg hb=>exact .dg hb
   |rows hb hh hz hu hc q=>exact .rows hb hh (fun e=>by cases e) hu hc q
  ·exact q
 ·split
  ·cases q with|hole hb hh hu hc q hi hv hx=>exact .hole hb hh hu hc q hi hv (P1.va _ hx)
  ·exact q
def bxA (b:Bx):AV:=
 match b with
 | .flat e cs=>.fn e [] cs
 | .rows true e s Q=>.sln e s Q
 | .rows false e s Q=>.slice e s Q
 | .map es=>.tup [.agg (es.map (·.1)),.agg (es.map (·.2))]
 | .iter b pos=>.ifc pos (.str b)
 | .hole e s Q i x=>.tup [.sln e s Q,.loc i 0,x]
theorem BF {a b:Bx} (h:bxA a=bxA b):a=b:=by
 unfold bxA at h;split at h<;>split at h<;>first|(cases h;done)|skip
 ·injection h with h1 h2 h3;subst h1;subst h3;rfl
 ·injection h with h1 h2 h3;subst h1;subst h2;subst h3;rfl
 ·injection h with h1 h2 h3;subst h1;subst h2;subst h3;rfl
 ·injection h with h1
  injection h1 with h1 h2
  injection h2 with h2 h3
  injection h1 with h1
  injection h2 with h2
  rw[y6 h1 h2]
 ·injection h with h1 h2;injection h2 with h2;subst h1;subst h2;rfl
 ·injection h with h1
  injection h1 with h1 h2
  injection h1 with h3 h4 h5
  injection h2 with h6 h7
  injection h6 with h6 _
  injection h7 with h7 _
  subst h3;subst h4;subst h5;subst h6;subst h7;rfl
inductive It (E:Env):Type
 |eqv {x y:AV} (h:x=y)
 |idx {rows:List (List AV)} {n:Int} {R:List AV} (h:jJ rows n=some R)
 |idb {n k:Nat} {m:Int} (h:m=(k:Int)) (hk:k<n)
 |row {Q:List (List AV)} {j:Nat} {R:List AV} (h:Q[j]? =some R)
 |hol {Q:List (List AV)} {j:Nat} {R:List AV} {f:Nat} {Q':List (List AV)} (h:Q[j]? =some R) (hQ:Q.set j (cx R f [.undef])=Q')
 |clo {Q:List (List AV)} {j:Nat} {R:List AV} {f:Nat} {x:AV} {Q':List (List AV)} (K:Nat) (h:Q[j]? =some R) (hQ:Q.set j (cx R f [x])=Q')
 |nz {n:Int} (h:n≠0)
 |cat {a b:ByteArray} (h:a.size+b.size≤1000000)
 |mk {n1 n2:Int} {l m:Nat} {x:List AV} {Q':List (List AV)} (h1:n1=(l:Int)) (h2:n2=(m:Int)) (hl:l≤m) (hm:m≤1000000) (ms:List P1) (hQ:(List.replicate l x).map (apps ms)=Q')
 |sto {Q:List (List AV)} {j:Nat} {R:List AV} {f:Nat} {xs:List AV} {Q':List (List AV)} (h:Q[j]? =some R) (hQ:Q.set j (cx R f xs)=Q')
 |nxt {b:ByteArray} {pos:Nat} (h:pos<b.size)
 |fin {b:ByteArray} {pos:Nat} (h:¬pos<b.size)
 |lkp {es:List (AV×AV)} {k x z:AV} (ok:Bool) (h:∃f,g5 k es=some f∧vN ok (some z) f=some x)
 |upd {es es':List (AV×AV)} {k x:AV} (h:∃f,g5 k es=some f∧CA es k x f=es')
 |nrm (m:PM)
 |laid {x y:Bx} (h:x=y)
 |cut {rows R:List (List AV)} {lo hi:Int} {l u:Nat} (h1:lo=(l:Int)) (h2:hi=(u:Int)) (hlu:l≤u) (hum:u≤rows.length) (hR:(rows.drop l).take (u-l)=R)
 |D6 {Q:List (List AV)} {lo0 n:Nat} {lo hi:Int} {l u:Nat} (h1:lo=(l:Int)) (h2:hi=(u:Int)) (hlu:l≤u) (hum:u≤n) (hn:lo0+n≤Q.length)
 |app {Q R Q':List (List AV)} {n n':Nat} (hn:n=Q.length) (hn6:Q.length≤1000000) (hR:R.length≤1000000) (hQ:Q++R=Q') (hl:Q'.length=n') (sr:Sr R)
 |aaH {Q P R Q':List (List AV)} {n n':Nat} (hP:Q.take n=P) (hn:n≤Q.length) (hn6:n≤1000000) (hR:R.length≤1000000) (hQ:P++R=Q') (hl:Q'.length=n') (sr:Sr R)
 |cpy {Q R Q':List (List AV)} {lo n m:Nat} (hn:lo+n≤Q.length) (hm:m=min R.length n) (hQ':Q'=Q.take lo++R.take m++Q.drop (lo+m)) (hne:Q≠ []) (hn0:lo=0∨0<n) (sr:Sr R)
 |chr {b:ByteArray} {n:Int} {c:UInt8} (h:jJ b.data.toList n=some c)
 |call {f:Nat} {bs bs':List (Nat×Bx)} {xs:List AV} {y:AV} (h:bW E f bs xs y bs') (ms:List PM) (ps rs:bz)
 |frz {Q:List (List AV)} {n:Nat} (K:Nat) (h:Q.length=n)
 |frf (K:Nat)
 |ren (K K':Nat)
 |shr {Q P:List (List AV)} {u:Nat} (K:Nat) (h:Q.take u=P)
 |born (ts:List Nat) (cs:bz) (K:Nat) (z:Bool) (e sz:Nat)
 |norm (ts:List (Nat×PM)) (bs:List (Nat×PB))
 |seq {x y:AV} (t:Nat) (h:x=y)
 |beq {x y:Bx} (K:Nat) (h:x=y)
theorem aU.weak {op:Op} {x:AV} {W:WK} (m:PM) (h:aU E B op s s1 x W):aU E B op s s1 (m.app x) W:=.mk fun {F g φ tm hh new} r h1 h2=>by
 obtain ⟨v,us,a,b,c⟩:=h.go r h1 h2;exact ⟨v,us,a,m.va b,c⟩
def PO (E:Env) (pks:List Nat) (s:LS) (op:Op) (d:Option Nat) (it:It E):Option Res:=
 match it with
 | @It.eqv _ x y _=>ah (ng E pks s op d) fun r=>some (r.1,y,r.2.2.1,(r.2.1,x)::r.2.2.2)
 | @It.idx _ rows n R _=>QI E s rows n R op
 | @It.idb _ n k m _ _=>QJ E s n k m op
 | @It.row _ Q j R _=>QF E s Q j R op
 | @It.hol _ Q j _ f Q' _ _=>QK E s Q j f Q' op
 | @It.nz _ n _=>ZB s n op
 | @It.cat _ a b _=>QP s a b op
 | @It.mk _ n1 n2 l _ x Q' _ _ _ _ _ _=>ZD E pks s n1 n2 l x Q' op d
 | @It.sto _ Q j _ f xs Q' _ _=>QE E s Q j f xs Q' op
 | @It.nxt _ b pos _=>QG s b pos op
 | @It.fin _ b pos _=>QL s b pos op
 | @It.lkp _ es k x z ok _=>QH E s es k x z ok op
 | @It.upd _ es es' k x _=>QD E s es es' k x op
 | @It.laid _ x y _=>ah d fun K=>sel (jm pks s K) (ah (vo E s K op) fun p=>some (s.set K y,p.2,some (K,true),[(bxA p.1,bxA x)])) none
 | .nrm m=>ah (ng E pks s op d) fun r=>some (r.1,m.app r.2.1,r.2.2.1,r.2.2.2)
 | @It.cut _ rows R lo hi _ _ _ _ _ _ _=>QM E s rows lo hi R op
 | @It.D6 _ Q lo0 n lo hi l u _ _ _ _ _=>Ks E s Q lo0 n lo hi l u op
 | @It.app _ Q R Q' n n' _ _ _ _ _ sr=>FD E pks s true Q Q R Q' n n' sr op d
 | @It.aaH _ Q P R Q' n n' _ _ _ _ _ _ sr=>FD E pks s false Q P R Q' n n' sr op d
 | @It.cpy _ Q R Q' lo n m _ _ _ _ _ sr=>QN E s Q R Q' lo n m sr op
 | @It.chr _ b n c _=>QO E s b n c op
 |_=>none
theorem HX {pks:List Nat} {op:Op} {d:Option Nat} {it:It E} {r:Res} (hB:BOK pks B) (h:PO E pks s op d it=some r):fu E B op s r:=by
 cases it with
 | @eqv x y h0=>
  obtain ⟨r',h1,h2⟩:=ae (show ah (ng E pks s op d) (fun r=>some (r.1,y,r.2.2.1,(r.2.1,x)::r.2.2.2))=some r from h)
  cases h2;intro ho;have key:=qt hB h1 ho.2;have e1:r'.2.1=x:=ho.1;show aU E B op s r'.1 y r'.2.2.1;rw[←h0,←e1];exact key
 |idx h0=>exact ZF h0 h
 |idb h0 hk=>exact ZG h0 hk h
 |row h0=>exact ZA h0 h
 |hol h0 hQ=>exact ZH h0 hQ h
 |nz h0=>exact aff h0 h
 |cat h0=>exact ZM h0 h
 |mk h1 h2 hl hm ms hQ=>exact afg hB h1 h2 hl hm ms hQ h
 |sto h0 hQ=>exact Zz h0 hQ h
 |nxt h0=>exact ZC h0 h
 |fin h0=>exact ZI h0 h
 |lkp ok h0=>exact ZE h0 h
 |upd h0=>exact Zy h0 h
 | @laid x y h0=>
  obtain ⟨K,hd,h⟩:=ae (show ah d (fun K=>sel (jm pks s K) (ah (vo E s K op) fun p=>some (s.set K y,p.2,some (K,true),[(bxA p.1,bxA x)])) none)=some r from h)
  obtain ⟨h1,h⟩:=aq h;obtain ⟨p,h2,h⟩:=ae h;cases h;intro ho;obtain ⟨a,b⟩:=lF hB h1;have e1:p.1=x:=BF ho.1;have key:=Ey a b h2;rw[e1,h0] at key;exact key
 |nrm m=>
  obtain ⟨r',h1,h2⟩:=ae (show ah (ng E pks s op d) (fun r=>some (r.1,m.app r.2.1,r.2.2.1,r.2.2.2))=some r from h)
  cases h2;exact fun ho=>(qt hB h1 ho).weak m
 |cut h1 h2 hlu hum hR=>exact ZJ h1 h2 hlu hum hR h
 |D6 h1 h2 hlu hum hn=>exact Xs h1 h2 hlu hum hn h
 |app hn hn6 hR hQ hl sr=>subst hn;exact Kt hB (fun _=>rfl) List.take_length (Nat.le_refl _) hn6 hR hQ hl h
 |aaH hP hn hn6 hR hQ hl sr=>exact Kt hB (fun e=>by cases e) hP hn hn6 hR hQ hl h
 |cpy hn hm hQ' hne hn0 sr=>exact ZK hn hm hQ' hne hn0 h
 |chr h0=>exact ZL h0 h
 |call|frz|frf|ren|shr|clo|born|norm|seq|beq=>cases h
end
section
variable {F F':Hf} {g g':Gb} {B:Bs} {φ:Nat→List Nat} {s s' s1:LS} {tm:Tf} {h:Hs} {hp:Hf} {E:Env} {nt:Nat} {all l:List Oper}
theorem Dy {α β:Type} (f:Nat→α→β) (t:Nat):∀l:List (Nat×α),lk t (l.map fun p=>(p.1,f p.1 p.2))=(lk t l).map (f t)
 | []=>rfl
 |(k,x)::l=>by
  rw[List.map_cons,bp,bp,Dy f t l];split
  ·rename_i e;subst e;rfl
  ·rfl
theorem Rel.abc (r:Rel B F g φ s tm h) {ft:Nat→AV→AV} {fb:Nat→Bx→Bx} (h0:∀t,ft t .undef= .undef) (h1:∀t v x,VA F g v x→VA F g v (ft t x)) (h2:∀k b fp,dw F g h.hp.get k b fp→dw F g h.hp.get k (fb k b) fp):
  Rel B F g φ ⟨s.ts.map fun p=>(p.1,ft p.1 p.2),s.bs.map fun p=>(p.1,fb p.1 p.2)⟩ tm h:=by
 have back:∀{k b},lk k (s.bs.map fun p=>(p.1,fb p.1 p.2))=some b→∃b0,lk k s.bs=some b0∧fb k b0=b:=fun {k b} hb=>by
  rw[Dy] at hb;obtain ⟨b0,c1,c2⟩:=Option.map_eq_some_iff.1 hb;exact ⟨b0,c1,c2⟩
 refine {r with tm:=fun t y hy hn=> ?_,bx:=fun k b hb=> ?_,dj:=fun k k' b b' hb hb'=> ?_,nf:=fun k b hb=> ?_,iY:=fun k b hb=> ?_}
 ·have hy:lk t (s.ts.map fun p=>(p.1,ft p.1 p.2))=some y:=hy
  rw[Dy] at hy;obtain ⟨x,hx,e⟩:=Option.map_eq_some_iff.1 hy;by_cases hu:x= .undef
  ·subst hu;rw[h0] at e;exact absurd e.symm hn
  ·obtain ⟨v,v1,v2⟩:=r.tm t x hx hu;subst e;exact ⟨v,v1,h1 t v x v2⟩
 ·obtain ⟨b0,c1,c2⟩:=back hb;subst c2;exact h2 k b0 _ (r.bx k b0 c1)
 ·obtain ⟨b0,c1,_⟩:=back hb;obtain ⟨b1,d1,_⟩:=back hb';exact r.dj k k' b0 b1 c1 d1
 ·obtain ⟨b0,c1,_⟩:=back hb;exact r.nf k b0 c1
 ·obtain ⟨b0,c1,_⟩:=back hb;exact r.iY k b0 c1
def kg (K K' k:Nat):Nat:=sel (Nat.beq k K) K' k
theorem Dh (K K' k:Nat):kg K K' k=if k=K then K' else k:=by
 unfold kg;rw[aB];by_cases h:k=K
 ·rw[if_pos h,if_pos ((beq_iff _ _).2 h)]
 ·rw[if_neg h,if_neg (fun e=>h ((beq_iff _ _).1 e))]
def LS.ren (s:LS) (K K':Nat):LS:=⟨s.ts.map fun p=>(p.1,kh (kg K K') p.2),s.bs.map fun p=>(kg K K' p.1,p.2.ren (kg K K'))⟩
theorem sg {K K' k:Nat} {b':Bx}:∀{l:List (Nat×Bx)},lk K' l=none→lk k (l.map fun p=>(kg K K' p.1,p.2.ren (kg K K')))=some b'→∃k0 b0,lk k0 l=some b0∧kg K K' k0=k∧k0≠K'∧b'=b0.ren (kg K K')
 | [],_,h=>by cases h
 |(j,x)::l,hn,h=>by
  rw[bp] at hn;rw[List.map_cons,bp] at h;split at hn
  ·cases hn
  ·rename_i hj;split at h
   ·rename_i e;cases h;exact ⟨j,x,by rw[bp,if_pos rfl],e.symm,fun c=>hj c.symm,rfl⟩
   ·rename_i e;obtain ⟨k0,b0,a1,a2,a3,a4⟩:=sg hn h;refine ⟨k0,b0,?_,a2,a3,a4⟩;rw[bp,if_neg (fun c=>e (by rw[←a2,c])),a1]
theorem dN.ren {K K':Nat} (hk:s.free K') (hp:B.pk K=false) (hp':B.pk K'=false) (hn:lk K' s.bs=none):dN B s (s.ren K K'):=.mk fun {F g φ tm h} r=>by
 let g2:Gb:=⟨fun k=>if k=K' then g.ρ K else g.ρ k,fun k=>if k=K' then g.κ K else g.κ k,fun k=>if k=K' then g.β K else g.β k⟩
 let φ2:Nat→List Nat:=fun k=>if k=K' then φ K else φ k
 have one:∀k,k≠K'→g2.ρ (kg K K' k)=g.ρ k∧g2.κ (kg K K' k)=g.κ k∧g2.β (kg K K' k)=g.β k:=fun k hk'=>by
  rw[Dh];by_cases e:k=K
  ·subst e;rw[if_pos rfl];exact ⟨if_pos rfl,if_pos rfl,if_pos rfl⟩
  ·rw[if_neg e];exact ⟨if_neg hk',if_neg hk',if_neg hk'⟩
 have gr:∀ks:List Nat,K'∉ks→jT g g2 (kg K K') ks:=fun ks hks k hm=>one k (fun e=>hks (e ▸ hm))
 have ph:∀k,k≠K'→φ2 (kg K K' k)=φ k:=fun k hk'=>by
  rw[Dh];by_cases e:k=K
  ·subst e;rw[if_pos rfl];exact if_pos rfl
  ·rw[if_neg e];exact if_neg hk'
 refine ⟨F,g2,φ2,{r with tm:=fun t y hy hne=> ?_,bx:=fun k b hb=> ?_,dj:=fun k k' b b' hb hb' hne=> ?_,nf:=fun k b hb=> ?_,iY:=fun k b hb i hi=> ?_,pin:=fun k hk'=> ?_}⟩
 ·rw[show (s.ren K K').ts=s.ts.map fun p=>(p.1,kh (kg K K') p.2) from rfl,ij] at hy
  obtain ⟨x,hx,e⟩:=Option.map_eq_some_iff.1 hy;by_cases hu:x= .undef
  ·subst hu;exact absurd e.symm hne
  ·obtain ⟨v,v1,v2⟩:=r.tm t x hx hu;subst e;exact ⟨v,v1,v2.ren (gr _ (hk.1 t x hx))⟩
 ·obtain ⟨k0,b0,a1,a2,a3,a4⟩:=sg hn hb;subst a4;have:=(r.bx k0 b0 a1).ren (g':=g2) (f:=kg K K') (gr [k0] (by simpa using fun e=>a3 e.symm)) (gr _ (hk.2 k0 b0 a3 a1))
  rw[←ph k0 a3,a2] at this;exact this
 ·obtain ⟨k0,b0,a1,a2,a3,a4⟩:=sg hn hb;obtain ⟨k1,b1,c1,c2,c3,c4⟩:=sg hn hb';rw[←a2,←c2,ph k0 a3,ph k1 c3];exact r.dj k0 k1 b0 b1 a1 c1 (fun e=>hne (by rw[←a2,←c2,e]))
 ·obtain ⟨k0,b0,a1,a2,a3,a4⟩:=sg hn hb;rw[←a2,ph k0 a3];exact r.nf k0 b0 a1
 ·obtain ⟨k0,b0,a1,a2,a3,a4⟩:=sg hn hb;rw[←a2,ph k0 a3] at hi;rcases r.iY k0 b0 a1 i hi with c|c
  ·left;have hkK:k0≠K:=fun e=>by have:=c.1;rw[e,hp] at this;cases this
   rw[←a2,Dh,if_neg hkK];exact c
  ·exact .inr c
 ·have hne:k≠K':=fun e=>by rw[e,hp'] at hk';cases hk'
  intro j hj;have ej:j=k:=by simpa using hj
  subst ej;obtain ⟨a1,a2,a3⟩:=r.pin j hk' j (by simp)
  exact ⟨(if_neg hne).trans a1,(if_neg hne).trans a2,(if_neg hne).trans a3⟩
def BG (K sz:Nat) (x:AV):AV:=match x with| .aY=>.ms K sz 0 0|x=>x
def RY (cs:bz) (k K sz:Nat):Nat→List AV→List AV
 |_,[]=> []
 |i,x::l=>sel (cs.any fun q=>Nat.beq q.1 k&&Nat.beq q.2 i) (BG K sz x) x::RY cs k K sz (i+1) l
def F0 (cs:bz) (K sz k:Nat) (b:Bx):Bx:=match b with| .flat e l=>.flat e (RY cs k K sz 0 l)|b=>b
def LS.born (s:LS) (ts:List Nat) (cs:bz) (K:Nat) (z:Bool) (e sz:Nat):LS:=
 ⟨s.ts.map fun p=>(p.1,sel (cz p.1 ts) (BG K sz p.2) p.2),(s.set K (.rows z e sz [])).bs.map fun p=>(p.1,F0 cs K sz p.1 p.2)⟩
theorem LH {K sz:Nat} {v:SV} {x:AV} (hb:g.β K=false) (h:VA F g v x):VA F g v (BG K sz x):=by
 unfold BG;split
 ·cases h;exact .msN sz hb
 ·exact h
theorem LI {cs:bz} {k K sz:Nat} (hb:g.β K=false):∀{xs:List AV} {vs:List SV} {i:Nat},VAs F g vs xs→VAs F g vs (RY cs k K sz i xs)
 | [],_,_,h=>h
 |x::l,_,i,.cons h t=>by
  refine .cons ?_ (LI hb t);rw[aB];split
  ·exact LH hb h
  ·exact h
theorem aaC {cs:bz} {K sz k:Nat} {hp:Hf} {b:Bx} {fp:List Nat} (hb:g.β K=false) (q:dw F g hp k b fp):dw F g hp k (F0 cs K sz k b) fp:=by
 unfold F0;split
 ·cases q with|flat hh q=>exact .flat hh (LI hb q)
 ·exact q
theorem dN.born {ts:List Nat} {cs:bz} {K:Nat} {z:Bool} {e sz:Nat} (hk:s.free K) (hp:B.pk K=false):dN B s (s.born ts cs K z e sz):=.mk fun {F g φ tm h} r=>by
 let g2:Gb:=⟨g.ρ,g.κ,fun k=>if k=K then false else g.β k⟩
 have hb:g2.β K=false:=if_pos rfl;have r2:=r.chg (K:=K) (b':=.rows z e sz []) (fo:= []) (fp:= []) (g':=g2) (h':=h) (fun i hi=>by cases hi) (fun i hi=>by cases hi) (fun _ _ _=>rfl) (Nat.le_refl _) r.bd (fun x hx=>.inl hx) (.dg hb)
  (.inr ⟨hk,hp,fun k hne j hj=>by
   have:j=k:=by simpa using hj
   subst this;exact ⟨rfl,rfl,if_neg hne⟩⟩)
 refine ⟨F,g2,_,r2.abc (ft:=fun t x=>sel (cz t ts) (BG K sz x) x) (fb:=fun k b=>F0 cs K sz k b) (fun t=> ?_) (fun t v x hv=> ?_) fun k b fp q=>aaC hb q⟩
 ·rw[aB];split<;>rfl
 ·rw[aB];split
  ·exact LH hb hv
  ·exact hv
theorem WB.cut {z:Bool} {e:TypeId} {sz u:Nat} {Q:List (List AV)}:WB (.rows z e sz Q) (.rows false e sz (Q.take u)):=fun F g h K fp q=>by
 cases q with
 |dg hb=>rw[List.take_nil];exact .dg hb
 | @rows _ _ _ _ svs hb hh hz hu hc q=>
  have hle:(Q.take u).length≤Q.length:=by rw[List.length_take];exact Nat.min_le_right _ _
  refine .rows hb hh (fun e=>by cases e) (fun r hr=>hu r (List.mem_of_mem_take hr)) ?_ ?_
  ·cases hκ:g.κ K with
   |k m=>rw[hκ] at hc;exact ⟨Nat.le_trans hle hc.1,hc.2⟩
   |u e'=>rw[hκ] at hc;exact ⟨hc.1,Nat.le_trans (Nat.mul_le_mul_right _ hle) hc.2⟩
  ·have:=q.take ((Q.take u).length*sz);rw[List.take_take,Nat.min_eq_left (Nat.mul_le_mul_right _ hle),←iO hu] at this;have e1:Q.take (Q.take u).length=Q.take u:=by
    rw[List.length_take];by_cases hc:u≤Q.length
    ·rw[Nat.min_eq_left hc]
    ·rw[Nat.min_eq_right (by omega),List.take_length,List.take_of_length_le (by omega)]
   rw[e1] at this;exact this
theorem Nm {vs:List SV} {i:Nat} {v:SV} (h:vs[i]? =some v):bK vs i [v]=vs:=by
 obtain ⟨hlt,he⟩:=List.getElem?_eq_some_iff.1 h;show vs.take i++ [v]++vs.drop (i+1)=vs;rw[←he,List.append_assoc];show vs.take i++(vs[i]::vs.drop (i+1))=vs;rw[←List.drop_eq_getElem_cons hlt,List.take_append_drop]
theorem WB.clo {e:TypeId} {sz j f:Nat} {Q:List (List AV)} {R:List AV} {x:AV} (hj:Q[j]? =some R) (hf:f+1≤sz) (hk:(ct x).isEmpty=true):WB (.hole e sz Q (j*sz+f) x) (.rows false e sz (Q.set j (cx R f [x]))):=fun F g h K fp q=>by
 cases q with
 | @hole _ _ _ _ _ svs v hb hh hu hc q hi hv hx=>
  have hlt:j<Q.length:=(List.getElem?_eq_some_iff.1 hj).1;have hR:R.length=sz:=hu R (List.mem_of_getElem? hj);refine .rows hb hh (fun e=>by cases e) (fun r hr=> ?_) (by rw[List.length_set];exact hc) ?_
  ·rcases List.mem_or_eq_of_mem_set hr with hr|rfl
   ·exact hu r hr
   ·rw[mq (by simp;omega)];exact hR
  ·rw[List.length_set,rJ hu hj (by simpa using hf)]
   have hv':(svs.take (Q.length*sz))[j*sz+f]? =some v:=by rw[List.getElem?_take,if_pos hi];exact hv
   have:=lA q (VAs.one (hx.gL (g':=.no) hk)) (j*sz+f);rwa[Nm hv'] at this
def aaY {α:Type} (l:List (Nat×α)):List (Nat×α):=match l with| []=> []|p::l=>p::cT p.1 l
theorem Km {α:Type} (k:Nat) (l:List (Nat×α)):lk k (aaY l)=lk k l:=by
 cases l with
 |nil=>rfl
 |cons p l=>
  show lk k ((p.1,p.2)::cT p.1 l)=lk k ((p.1,p.2)::l);rw[bp,bp,ez];split
  ·rfl
  ·rfl
def Qj {α:Type}:List (Nat×α)→List (Nat×α)
 | []=> []
 |p::l=>p::cT p.1 (Qj l)
theorem Dx {α:Type} (k:Nat):∀l:List (Nat×α),lk k (Qj l)=lk k l
 | []=>rfl
 |p::l=>by
  show lk k ((p.1,p.2)::cT p.1 (Qj l))=lk k ((p.1,p.2)::l);rw[bp,bp,ez,Dx k l];split
  ·rfl
  ·rfl
def LS.tidy (s:LS):LS:=⟨aaY s.ts,Qj s.bs⟩
theorem nV.Fv (h1:∀t,lk t s'.ts=lk t s.ts) (h2:∀k,lk k s'.bs=lk k s.bs):nV s s':=⟨fun t y hy=>.inr ⟨y,by rw[←h1];exact hy,WV.refl y⟩,fun k b hb=>⟨b,by rw[←h2];exact hb,WB.refl b⟩⟩
theorem LS.qp:nV s s.tidy:=nV.Fv (fun t=>Km t _) fun k=>Dx k _
def Ke (N:Nat×Nat):List (Nat×Nat)→Option (List Ob)
 | []=>some []
 |q::l=>sel (Nat.beq q.1 N.1) (ah (Ke N l) fun o=>some (obN q.2 N.2::o)) none
theorem OW {N:Nat×Nat}:∀{l:List (Nat×Nat)} {o:List Ob},Ke N l=some o→cA o→∀q∈l,q=N
 | [],_,_,_,q,hq=>by cases hq
 |p::l,o,h,ho,q,hq=>by
  obtain ⟨h1,h⟩:=aq (show sel (Nat.beq p.1 N.1) (ah (Ke N l) fun o=>some (obN p.2 N.2::o)) none=some o from h)
  obtain ⟨o',h2,h⟩:=ae h;cases h;rcases List.mem_cons.1 hq with e|hq
  ·subst e;have e1:q.1=N.1:=(beq_iff _ _).1 h1;have e2:=gm ho.1;exact Prod.ext e1 e2
  ·exact OW h2 ho.2 q hq
def getM {α:Type} (d:α) (t:Nat) (l:List (Nat×α)):α:= @Option.rec α (fun _=>α) d (fun x=>x) (lk t l)
def LS.norm (s:LS) (ts:List (Nat×PM)) (bs:List (Nat×PB)):LS:=⟨s.ts.map fun p=>(p.1,(getM (.one .same) p.1 ts).app p.2),s.bs.map fun p=>(p.1,(getM .same p.1 bs).app p.2)⟩
theorem PM.E3 (m:PM):m.app .undef= .undef:=by
 cases m with
 |one m=>cases m<;>rfl
 |agg ms=>rfl
theorem dN.norm {ts:List (Nat×PM)} {bs:List (Nat×PB)}:dN B s (s.norm ts bs):=.mk fun {F g φ tm h} r=>⟨F,g,φ,r.abc (ft:=fun t x=>(getM (PM.one P1.same) t ts).app x) (fb:=fun k b=>(getM PB.same k bs).app b) (fun t=>PM.E3 _) (fun t v x hv=>PM.va _ hv) fun k b fp q=>PB.wb _ b _ _ _ _ _ q⟩
def FH (E:Env) (pks:List Nat) (s:LS) (it:It E):Option (LS×List Ob):=
 match it with
 | @It.frz _ Q n K _=>ah (lk K s.bs) fun b=>(match b with
  | .rows z e sz Q'=>sel (!cz K pks) (ah (Ke (sz,n) (za K s.ts++rz K s.bs)) fun o=>some (s.frz K (sel z (.sln e sz Q) (.slice e sz Q)) (fun _=>.undef),obR Q' Q::o)) none
  |_=>none)
 | .frf K=>ah (lk K s.bs) fun b=>(match b with
  | .flat e cs=>sel ((cL cs).isEmpty&&(!cz K pks&&(za K s.ts++rz K s.bs).isEmpty)) (some (s.frz K .undef (fun off=>sel (Nat.ble off cs.length) (.imm (cs.drop off)) .undef),[])) none
  |_=>none)
 | .ren K K'=>sel (jm pks s K'&&((lk K' s.bs).isNone && !cz K pks)) (some (s.ren K K',[])) none
 | @It.shr _ Q P u K _=>ah (lk K s.bs) fun b=>(match b with
  | .rows _ e sz Q'=>some (⟨s.ts,(K,.rows false e sz P)::cT K s.bs⟩,[obR Q' Q])
  |_=>none)
 | @It.clo _ Q j R f x Q' K _ _=>ah (lk K s.bs) fun b=>(match b with
  | .hole e sz Q0 i0 x0=>sel ((ct x0).isEmpty&&Nat.ble (Nat.add f 1) sz) (some (⟨s.ts,(K,.rows false e sz Q')::cT K s.bs⟩,[obR Q0 Q,(.loc 0 i0,.loc 0 (Nat.add (Nat.mul j sz) f)),(x0,x)])) none
  |_=>none)
 | .born ts cs K z e sz=>sel (jm pks s K) (some (s.born ts cs K z e sz,[])) none
 | .norm ts bs=>some (s.norm ts bs,[])
 | @It.seq _ x y t _=>ah (lk t s.ts) fun x'=>some (⟨(t,y)::cT t s.ts,s.bs⟩,[(x',x)])
 | @It.beq _ x y K _=>ah (lk K s.bs) fun x'=>some (⟨s.ts,(K,y)::cT K s.bs⟩,[(bxA x',bxA x)])
 |_=>none
theorem Z4 {pks:List Nat} {it:It E} {p:LS×List Ob} (hB:BOK pks B) (h:FH E pks s it=some p) (ho:cA p.2):dN B s p.1:=by
 cases it with
 | @frz Q n K hQ=>
  subst hQ;obtain ⟨b,h1,h⟩:=ae (show ah (lk K s.bs) (fun b=>(match b with
   | .rows z e sz Q'=>sel (!cz K pks) (ah (Ke (sz,Q.length) (za K s.ts++rz K s.bs)) fun o=>some (s.frz K (sel z (.sln e sz Q) (.slice e sz Q)) (fun _=>.undef),obR Q' Q::o)) none
   |_=>none))=some p from h)
  split at h
  ·rename_i z e sz Q';obtain ⟨h2,h⟩:=aq h;obtain ⟨o,h3,h⟩:=ae h;cases h;obtain ⟨o1,o2⟩:=ho;have e1:=gk o1;subst e1;refine .mk fun {F g φ tm h} r=> ?_
   have ed:(sel z (.sln e sz Q') (.slice e sz Q'):AV)=pR (.rows z e sz Q'):=by cases z<;>rfl
   obtain ⟨F',_,r'⟩:=r.frz (K:=K) (b:=.rows z e sz Q') (D:=pR (.rows z e sz Q')) (L:=Z9 (.rows z e sz Q')) (sz:=sz) (m:=Q'.length) h1 (hB K (by simpa using h2)) (OW h3 o2) fun F' hF hi q=>xc hF rfl hi q
   refine ⟨F',g,φ,?_⟩;rw[ed];exact r'
  ·cases h
 |frf K=>
  obtain ⟨b,h1,h⟩:=ae (show ah (lk K s.bs) (fun b=>(match b with
   | .flat e cs=>sel ((cL cs).isEmpty&&(!cz K pks&&(za K s.ts++rz K s.bs).isEmpty)) (some (s.frz K .undef (fun off=>sel (Nat.ble off cs.length) (.imm (cs.drop off)) .undef),[])) none
   |_=>none))=some p from h)
  split at h
  ·rename_i e cs;obtain ⟨h2,h⟩:=aq h;cases h;rw[Bool.and_eq_true,Bool.and_eq_true] at h2;refine .mk fun {F g φ tm h} r=> ?_
   obtain ⟨F',_,r'⟩:=r.frz (K:=K) (b:=.flat e cs) (D:=pR (.flat e cs)) (L:=Z9 (.flat e cs)) (sz:=(Ri (.flat e cs)).1) (m:=(Ri (.flat e cs)).2) h1 (hB K (by simpa using h2.2.1)) (fun q hq=>by rw[List.isEmpty_iff.1 h2.2.2] at hq;cases hq) fun F' hF hi q=>xc hF h2.1 hi q
   exact ⟨F',g,φ,r'⟩
  ·cases h
 |ren K K'=>
  obtain ⟨h1,h⟩:=aq (show sel (jm pks s K'&&((lk K' s.bs).isNone && !cz K pks)) (some (s.ren K K',[])) none=some p from h);cases h;simp only[Bool.and_eq_true] at h1;obtain ⟨k1,k2,k3⟩:=h1;obtain ⟨f1,f2⟩:=lF hB k1;exact dN.ren f1 (hB K (by simpa using k3)) f2 (by simpa using k2)
 | @shr Q P u K hP=>
  subst hP;obtain ⟨b,h1,h⟩:=ae (show ah (lk K s.bs) (fun b=>(match b with
   | .rows _ e sz Q'=>some (⟨s.ts,(K,.rows false e sz (Q.take u))::cT K s.bs⟩,[obR Q' Q])
   |_=>none))=some p from h)
  split at h
  ·rename_i z e sz Q';cases h;have e1:=gk ho.1;subst e1;refine dN.less ⟨fun t y hy=>.inr ⟨y,hy,WV.refl y⟩,fun k c hc=> ?_⟩
   have hc:lk k ((K,Bx.rows false e sz (Q'.take u))::cT K s.bs)=some c:=hc;rw[bp,ez] at hc;split at hc
   ·rename_i e;cases hc;exact ⟨_,e ▸ h1,WB.cut⟩
   ·exact ⟨c,hc,WB.refl c⟩
  ·cases h
 | @clo Q j R f x Q' K hj hQ=>
  subst hQ;obtain ⟨b,h1,h⟩:=ae (show ah (lk K s.bs) (fun b=>(match b with
   | .hole e sz Q0 i0 x0=>sel ((ct x0).isEmpty&&Nat.ble (Nat.add f 1) sz) (some (⟨s.ts,(K,.rows false e sz (Q.set j (cx R f [x])))::cT K s.bs⟩,[obR Q0 Q,(.loc 0 i0,.loc 0 (Nat.add (Nat.mul j sz) f)),(x0,x)])) none
   |_=>none))=some p from h)
  split at h
  ·rename_i e sz Q0 i0 x0;obtain ⟨h2,h⟩:=aq h;cases h;obtain ⟨o1,o2,o3,_⟩:=ho;have e1:=gk o1;injection o2 with _ o2
   have o3:x0=x:=o3;rw[Bool.and_eq_true] at h2;subst e1;subst o2;subst o3;refine dN.less ⟨fun t y hy=>.inr ⟨y,hy,WV.refl y⟩,fun k c hc=> ?_⟩
   have hc:lk k ((K,Bx.rows false e sz (Q0.set j (cx R f [x0])))::cT K s.bs)=some c:=hc;rw[bp,ez] at hc;split at hc
   ·rename_i e;cases hc;exact ⟨_,e ▸ h1,WB.clo hj (Nat.le_of_ble_eq_true h2.2) h2.1⟩
   ·exact ⟨c,hc,WB.refl c⟩
  ·cases h
 |born ts cs K z e sz=>
  obtain ⟨h1,h⟩:=aq (show sel (jm pks s K) (some (s.born ts cs K z e sz,[])) none=some p from h);cases h;obtain ⟨f1,f2⟩:=lF hB h1;exact dN.born f1 f2
 |norm ts bs=>cases h;exact dN.norm
 | @seq x y t he=>
  obtain ⟨x',h1,h⟩:=ae (show ah (lk t s.ts) (fun x'=>some (⟨(t,y)::cT t s.ts,s.bs⟩,[(x',x)]))=some p from h)
  cases h;have e1:x'=x:=ho.1;subst he;subst e1;refine dN.less (nV.Fv (fun k=> ?_) fun _=>rfl)
  show lk k ((t,x')::cT t s.ts)=_;rw[bp,ez];split
  ·rename_i e;rw[e,h1]
  ·rfl
 | @beq x y K he=>
  obtain ⟨x',h1,h⟩:=ae (show ah (lk K s.bs) (fun x'=>some (⟨s.ts,(K,y)::cT K s.bs⟩,[(bxA x',bxA x)]))=some p from h)
  cases h;have e1:x'=x:=BF ho.1;subst he;subst e1;refine dN.less (nV.Fv (fun _=>rfl) fun k=> ?_)
  show lk k ((K,x')::cT K s.bs)=_;rw[bp,ez];split
  ·rename_i e;rw[e,h1]
  ·rfl
 |_=>cases h
abbrev Sc (E:Env):=List (Nat×It E)
def gho (E:Env) (pks:List Nat):Sc E→LS→List Ob→LS×List Ob×Sc E
 | [],s,o=>(s,o,[])
 |p::l,s,o=>match p.1 with
  |0=>(match FH E pks s p.2 with
   |some q=>gho E pks l q.1 (q.2++o)
   |none=>(s,o,p::l))
  |_+1=>(s,o,p::l)
theorem vJ {pks:List Nat} (hB:BOK pks B):∀(sc:Sc E) (s:LS) (o:List Ob),cA (gho E pks sc s o).2.1→cA o∧dN B s (gho E pks sc s o).1
 | [],s,o,ho=>⟨ho,dN.refl⟩
 |(0,it)::l,s,o,ho=>by
  have e:gho E pks ((0,it)::l) s o=(match FH E pks s it with
   |some q=>gho E pks l q.1 (q.2++o)
   |none=>(s,o,(0,it)::l)):=rfl
  rw[e] at ho ⊢;cases hq:FH E pks s it with
  |some q=>
   rw[hq] at ho;obtain ⟨h1,h2⟩:=vJ hB l q.1 (q.2++o) ho;obtain ⟨h3,h4⟩:=iN h1;exact ⟨h4,(Z4 hB hq h3).trans h2⟩
  |none=>
   rw[hq] at ho;exact ⟨ho,dN.refl⟩
 |(k+1,it)::l,s,o,ho=>⟨ho,dN.refl⟩
def Qi:List (Nat×Bx)→List (Nat×Bx)→Option (List Ob)
 | [],[]=>some []
 |p::l,q::m=>sel (Nat.beq p.1 q.1) (ah (Qi l m) fun o=>some ((bxA p.2,bxA q.2)::o)) none
 |_,_=>none
theorem OX:∀{l m:List (Nat×Bx)} {o:List Ob},Qi l m=some o→cA o→l=m
 | [],[],_,_,_=>rfl
 | [],_::_,_,h,_=>by cases h
 |_::_,[],_,h,_=>by cases h
 |p::l,q::m,o,h,ho=>by
  obtain ⟨h1,h⟩:=aq (show sel (Nat.beq p.1 q.1) (ah (Qi l m) fun o=>some ((bxA p.2,bxA q.2)::o)) none=some o from h)
  obtain ⟨o',h2,h⟩:=ae h;cases h;have e1:p.1=q.1:=(beq_iff _ _).1 h1;have e2:p.2=q.2:=BF ho.1;rw[OX h2 ho.2,Prod.ext e1 e2]
def PX (pks:List Nat) (s:LS):bz→Bool
 | []=>true
 |q::l=>jm pks s q.1&&((lk q.1 s.bs).isNone&&PX pks s l)
theorem Om {pks:List Nat} (hB:BOK pks B):∀{rs:bz},PX pks s rs=true→∀q∈rs,s.free q.1∧B.pk q.1=false∧lk q.1 s.bs=none
 | [],_,q,hq=>by cases hq
 |p::l,h,q,hq=>by
  have h:(jm pks s p.1&&((lk p.1 s.bs).isNone&&PX pks s l))=true:=h;rw[Bool.and_eq_true,Bool.and_eq_true] at h;rcases List.mem_cons.1 hq with e|hq
  ·subst e;obtain ⟨f1,f2⟩:=lF hB h.1;exact ⟨f1,f2,by simpa using h.2.1⟩
  ·exact Om hB h.2.2 q hq
def FZ (pks:List Nat) (s:LS) (op:Op) (f:Nat) (bs bs':List (Nat×Bx)) (xs:List AV) (y:AV) (ms:List PM) (ps rs:bz):Option (List (Nat×Bx)×AV×List Ob):=
 ah (dq op) fun c=>(match c.callee with
  | .value o=>(match aP s.ts o with
   | .fn f' [] []=>sel (Nat.beq f' f&&(eG (gu s.ts c.args.toList)&&(oo (ps++rs)&&(og s.bs ps ps&&(eI ps (cL (gu s.ts c.args.toList))&&(PX pks s rs&&(od bs' (ps++rs) (ps++rs)&&eI (jz (ps++rs)) (ct y))))))))
    (aH (n7 s.bs (ps++rs) ps) (td bs' (ps++rs) (ps++rs)) fun b ob=>ah (Qi b bs) fun o=>some (ob,kh (foP (ps++rs)) y,(.agg (F7 ms (gZ (fiP (ps++rs)) (gu s.ts c.args.toList))),.agg xs)::o)) none
   |_=>none)
  |_=>none)
theorem BD {pks:List Nat} {op:Op} {f:Nat} {bs bs':List (Nat×Bx)} {xs:List AV} {y:AV} {ms:List PM} {ps rs:bz} {q:List (Nat×Bx)×AV×List Ob} (hB:BOK pks B) (h:FZ pks s op f bs bs' xs y ms ps rs=some q) (ho:cA q.2.2) (hC:bW E f bs xs y bs'):
  ∃c o,dq op=some c∧c.callee= .value o∧aP s.ts o= .fn f [] []∧eG (gu s.ts c.args.toList)=true∧oo (ps++rs)=true∧n7 s.bs (ps++rs) ps=some bs∧og s.bs ps ps=true∧eI ps (cL (gu s.ts c.args.toList))=true∧(∀q∈rs,s.free q.1∧B.pk q.1=false∧lk q.1 s.bs=none)∧
   bW E f bs (gZ (fiP (ps++rs)) (gu s.ts c.args.toList)) y bs'∧td bs' (ps++rs) (ps++rs)=some q.1∧od bs' (ps++rs) (ps++rs)=true∧eI (jz (ps++rs)) (ct y)=true∧q.2.1=kh (foP (ps++rs)) y:=by
 unfold FZ at h;obtain ⟨c,h1,h⟩:=ae h;split at h
 ·rename_i o hc;split at h
  ·rename_i f' hf;obtain ⟨h2,h⟩:=aq h;obtain ⟨b,ob,h3,h4,h⟩:=ay h;obtain ⟨o',h5,h⟩:=ae h;cases h;simp only[Bool.and_eq_true] at h2;obtain ⟨k1,k2,k3,k4,k5,k6,k7,k8⟩:=h2;have e1:f'=f:=(beq_iff _ _).1 k1;subst e1;obtain ⟨o1,o2⟩:=ho;have e2:=OX h5 o2;subst e2;have e3:F7 ms (gZ (fiP (ps++rs)) (gu s.ts c.args.toList))=xs:=by
    have:=o1;simpa using this
   exact ⟨c,o,h1,hc,hf,k2,k3,h3,k4,k5,Om hB k6,.mk fun ent has=>hC.go ent (e3 ▸ LU has),h4,k7,k8,rfl⟩
  ·cases h
 ·cases h
abbrev mP (E:Env):=Option (LS×List Ob×Sc E)
def yV (E:Env) (pks:List Nat) (p:Oper) (s:LS) (sc:Sc E) (o:List Ob) (ih:LS→Sc E→List Ob→mP E):mP E:=
 sel (r8 p.op) (ah (ng E pks s p.op p.dst) fun r=>ih (r.1.bc p.dst r.2.1).tidy sc (r.2.2.2++o)) none
def De (E:Env) (pks:List Nat) (p:Oper) (s:LS) (it:It E) (sc:Sc E) (o:List Ob) (ih:LS→Sc E→List Ob→mP E):mP E:=
 match it with
 | @It.call _ f bs bs' xs y _ ms ps rs=>ah (FZ pks s p.op f bs bs' xs y ms ps rs) fun q=>ih (LS.bc ⟨s.ts,q.1++s.bs⟩ p.dst q.2.1).tidy sc (q.2.2++o)
 |it=>sel (r8 p.op) (ah (PO E pks s p.op p.dst it) fun r=>ih (r.1.bc p.dst r.2.1).tidy sc (r.2.2.2++o)) none
def Ol (E:Env) (pks:List Nat) (p:Oper) (s:LS) (sc:Sc E) (o:List Ob) (ih:LS→Sc E→List Ob→mP E):mP E:=
 match sc with
 | []=>yV E pks p s [] o ih
 |q::l=>(match q.1 with
  |0=>De E pks p s q.2 l o ih
  |k+1=>yV E pks p s ((k,q.2)::l) o ih)
def PV (E:Env) (nt:Nat) (pks:List Nat) (all:List Oper) (p:Oper) (ih:LS→Sc E→List Ob→mP E) (q:LS×List Ob×Sc E):mP E:=
 sel (cf nt p.dst) (ah (iS all p q.1.ts) fun w=>sel w (Ol E pks p q.1 q.2.2 q.2.1 ih) (ih (q.1.bc p.dst (.tup [])).tidy q.2.2 q.2.1)) none
def JD (E:Env) (nt:Nat) (pks:List Nat) (all:List Oper):List Oper→LS→Sc E→List Ob→mP E
 | []=>fun s sc o=>some (s,o,sc)
 |p::l=>fun s sc o=>PV E nt pks all p (JD E nt pks all l) (gho E pks sc s o)
def BS (E:Env) (nt:Nat) (B:Bs) (all l:List Oper) (ih:LS→Sc E→List Ob→mP E):Prop:=
 ∀s sc o r,ih s sc o=some r→cA r.2.1→cA o∧gE E nt B all l s r.1
theorem yw {pks:List Nat} {p:Oper} {sc:Sc E} {o:List Ob} {ih:LS→Sc E→List Ob→mP E} {r:LS×List Ob×Sc E} (hB:BOK pks B) (hih:BS E nt B all l ih) (hd:cf nt p.dst=true) (hw:iS all p s.ts=some true) (h:yV E pks p s sc o ih=some r) (ho:cA r.2.1):cA o∧gE E nt B all (p::l) s r.1:=by
 obtain ⟨h1,h⟩:=aq h;obtain ⟨q,h2,h⟩:=ae h;obtain ⟨k1,k2⟩:=hih _ _ _ _ h ho;obtain ⟨k3,k4⟩:=iN k1;exact ⟨k4,.op hd hw h1 (qt hB h2 k3) (.ghost (dN.less LS.qp) k2)⟩
theorem PW {pks:List Nat} {p:Oper} {it:It E} {sc:Sc E} {o:List Ob} {ih:LS→Sc E→List Ob→mP E} {r:LS×List Ob×Sc E} (hB:BOK pks B) (hih:BS E nt B all l ih) (hd:cf nt p.dst=true) (hw:iS all p s.ts=some true) (h:De E pks p s it sc o ih=some r) (ho:cA r.2.1):cA o∧gE E nt B all (p::l) s r.1:=by
 unfold De at h;split at h
 ·rename_i f bs bs' xs y hC ms ps rs;obtain ⟨q,h2,h⟩:=ae h;obtain ⟨k1,k2⟩:=hih _ _ _ _ h ho;obtain ⟨k3,k4⟩:=iN k1;obtain ⟨c,w,c1,c2,c3,c4,c5,c6,c7,c8,c9,c10,c11,c12,c13,c14⟩:=BD hB h2 k3 hC;exact ⟨k4,.call hd hw c1 c2 c3 rfl c4 c5 c6 c7 c8 c9 c10 c11 c12 c13 (.ghost (dN.less LS.qp) (c14 ▸ k2))⟩
 ·obtain ⟨h1,h⟩:=aq h;obtain ⟨q,h2,h⟩:=ae h;obtain ⟨k1,k2⟩:=hih _ _ _ _ h ho;obtain ⟨k3,k4⟩:=iN k1;exact ⟨k4,.op hd hw h1 (HX hB h2 k3) (.ghost (dN.less LS.qp) k2)⟩
theorem YO {pks:List Nat} {p:Oper} {ih:LS→Sc E→List Ob→mP E} (hB:BOK pks B) (hih:BS E nt B all l ih):BS E nt B all (p::l) (fun s sc o=>PV E nt pks all p ih (gho E pks sc s o)):=by
 intro s sc o r h ho;have key:∀q:LS×List Ob×Sc E,PV E nt pks all p ih q=some r→cA q.2.1∧gE E nt B all (p::l) q.1 r.1:=fun q h=>by
  obtain ⟨hd,h⟩:=aq h;obtain ⟨w,hw,h⟩:=ae h;rw[aB] at h;split at h
  ·rename_i e;subst e;unfold Ol at h;split at h
   ·exact yw hB hih hd hw h ho
   ·split at h
    ·exact PW hB hih hd hw h ho
    ·exact yw hB hih hd hw h ho
  ·rename_i e;have e:w=false:=by simpa using e
   subst e;obtain ⟨k1,k2⟩:=hih _ _ _ _ h ho;exact ⟨k1,.skip hd hw (.ghost (dN.less LS.qp) k2)⟩
 obtain ⟨k1,k2⟩:=key _ h;obtain ⟨k3,k4⟩:=vJ hB sc s o k1;exact ⟨k3,.ghost k4 k2⟩
theorem Es {pks:List Nat} (hB:BOK pks B):∀l:List Oper,BS E nt B all l (JD E nt pks all l)
 | []=>fun s sc o r h ho=>by
  have h:some (s,o,sc)=some r:=h;cases h;exact ⟨ho,.nil⟩
 |p::l=>YO hB (Es hB l)
end
section
variable {F F':Hf} {g g':Gb} {B:Bs} {φ:Nat→List Nat} {s s' s1:LS} {tm:Tr SV} {h:Hs} {hp:Hf} {E:Env} {nt:Nat}
variable {W cur nc M:Nat} {vs vs':List LS} {laid:bz} {pis:List PI} {all l:List Oper} {o:Oper}
theorem DR.same {base:Nat} {pp:List (Rc×PI)} {Fs:Nat→Hf} {lim:Nat→Nat} {tm:Tf} (D:DR B base W cur nc vs laid pp g φ Fs lim tm h) (hl:vs'.length=vs.length) (hs:∀(j:Nat) (s':LS),vs'[j]? =some s'→∃s,vs[j]? =some s∧(∀t,lk t s'.ts=lk t s.ts)∧∀k,lk k s'.bs=lk k s.bs):DR B base W cur nc vs' laid pp g φ Fs lim tm h:=by
 refine {D with r:=fun j s hj=> ?_,up:=fun j j' s s' hle h1 h2=> ?_,fb:=fun j s hj=> ?_,bb:=fun j s hj k b hb=> ?_,lm:=fun j s hj=> ?_,top:=hl.trans D.top,pi:=fun q hq=> ?_,pr:=fun q hq j s hj k b hb=> ?_,pf:=fun q hq i hi j s hj=> ?_}
 ·obtain ⟨s0,a,b,c⟩:=hs j s hj;exact (D.r j s0 a).less (nV.Fv b c)
 ·obtain ⟨s0,a,b,c⟩:=hs j s h1;obtain ⟨s0',a',b',c'⟩:=hs j' s' h2;obtain ⟨u1,u2⟩:=D.up j j' s0 s0' hle a a';exact ⟨u1,fun k b0 hb=>by rw[c'];exact u2 k b0 (by rw[←c];exact hb)⟩
 ·obtain ⟨s0,a,_,_⟩:=hs j s hj;exact D.fb j s0 a
 ·obtain ⟨s0,a,_,c⟩:=hs j s hj;exact D.bb j s0 a k b (by rw[←c];exact hb)
 ·obtain ⟨s0,a,_,_⟩:=hs j s hj;exact D.lm j s0 a
 ·obtain ⟨p1,p2,p3,p4,p5⟩:=D.pi q hq;refine ⟨p1,p2,p3,p4,fun hn=> ?_⟩
  obtain ⟨q1,q2,q3,q4⟩:=p5 hn;refine ⟨q1,q2,q3,fun j s hj hlt=> ?_⟩
  obtain ⟨s0,a,_,_⟩:=hs j s hj;exact q4 j s0 a hlt
 ·obtain ⟨s0,a,_,c⟩:=hs j s hj;exact D.pr q hq j s0 a k b (by rw[←c];exact hb)
 ·obtain ⟨s0,a,_,_⟩:=hs j s hj;exact D.pf q hq i hi j s0 a
theorem dr.tidy (hl:dr E nt B all W cur nc M (vs.map LS.tidy) laid pis l s'):dr E nt B all W cur nc M vs laid pis l s':=fun {base pp g φ Fs lim tm h} hp D=>hl hp (D.same (List.length_map _) fun j s' hj=>by
 rw[List.getElem?_map] at hj;obtain ⟨s0,a,b⟩:=Option.map_eq_some_iff.1 hj;subst b;exact ⟨s0,a,fun t=>Km t _,fun k=>Dx k _⟩)
structure Dsx where
 cur:Nat
 nc:Nat
 M:Nat
 vs:List LS
 laid:bz
 pis:List PI
def pC (m nc:Nat):List PI→Nat
 | []=>nc
 |p::l=>sel (dv m p.i) (pC m nc l) (match p.n with|0=>pC m nc l|n+1=>sel (Nat.ble n (pC m nc l)) n (pC m nc l))
def AE (a b:List Nat):Bool:=a.all fun k=> !cz k b
def A2 (v m:Nat) (rk wk:List Nat) (call wn:Bool) (p:PI):Bool:=
 sel (dv m p.i) true ((Nat.beq p.n 0||(Nat.ble (Nat.succ v) p.n&&(!call&&wn)))&&((!call||p.wn)&&(AE wk p.rk&&(AE wk p.wk&&AE rk p.wk))))
theorem vq {a b:List Nat} (h:AE a b=true):∀k∈a,k∉b:=fun k hk hb=>by
 have:=List.all_eq_true.1 h k hk;rw[(dL k b).2 hb] at this;cases this
theorem EH {v m:Nat} {rk wk:List Nat} {call wn:Bool} {p:PI} (h:A2 v m rk wk call wn p=true):ye v m rk wk call wn p:=by
 unfold A2 at h;rw[aB] at h;split at h
 ·rename_i hb;exact .inl hb
 ·right;simp only[Bool.and_eq_true,Bool.or_eq_true,Bool.not_eq_true'] at h;obtain ⟨h1,h2,h3,h4,h5⟩:=h;refine ⟨fun hn=> ?_,fun hc=> ?_,fun k hk=>⟨vq h3 k hk,vq h4 k hk⟩,vq h5⟩
  ·rcases h1 with h1|⟨h1,h6,h7⟩
   ·exact absurd ((beq_iff _ _).1 h1) hn
   ·exact ⟨Nat.le_of_ble_eq_true h1,h6,h7⟩
  ·rcases h2 with h2|h2
   ·rw[hc] at h2;cases h2
   ·exact h2
def laidB (m:Nat) (ks:List Nat) (laid:bz):Bool:=laid.all fun q=> !cz q.1 ks||dv m q.2
theorem Kp {m:Nat} {ks:List Nat} {laid:bz} (h:laidB m ks laid=true):∀k j,k∈ks→(k,j)∈laid→dv m j=true:=fun k j hk hj=>by
 have:=List.all_eq_true.1 h (k,j) hj;simp only[Bool.or_eq_true,Bool.not_eq_true'] at this;rcases this with c|c
 ·rw[(dL k ks).2 hk] at c;cases c
 ·exact c
def wkB (a b:WK):Bool:=
 match a,b with
 |none,none=>true
 |some p,some q=>Nat.beq p.1 q.1&&(p.2==q.2)
 |_,_=>false
theorem afH {a b:WK} (h:wkB a b=true):a=b:=by
 unfold wkB at h;split at h
 ·rfl
 ·rw[Bool.and_eq_true] at h;have e1:=(beq_iff _ _).1 h.1;have e2:=beq_iff_eq.1 h.2;rw[Prod.ext e1 e2]
 ·cases h
def Dw (f:LS→Option Res) (x:AV) (Wk:WK) (d:Option Nat):List LS→Nat→Option (List LS×List Ob)
 | []=>fun _=>some ([],[])
 |s::l=>fun v=>(match v with
  |0=>aH (f s) (Dw f x Wk d l 0) fun r q=>sel (wkB r.2.2.1 Wk) (some (r.1.bc d x::q.1,(r.2.1,x)::(r.2.2.2++q.2))) none
  |v+1=>ah (Dw f x Wk d l v) fun q=>some ((s.oh Wk).bc d .undef::q.1,q.2))
theorem Dv {op:Op} {f:LS→Option Res} {x:AV} {Wk:WK} {d:Option Nat} (hf:∀s r,f s=some r→fu E B op s r):∀{vs:List LS} {v:Nat} {q:List LS×List Ob},Dw f x Wk d vs v=some q→cA q.2→q.1.length=vs.length∧(∀(j:Nat) (s:LS),vs[j]? =some s→v≤j→∃t,q.1[j]? =some (t.bc d x)∧aU E B op s t x Wk)∧∀(j:Nat) (s:LS),vs[j]? =some s→j<v→q.1[j]? =some ((s.oh Wk).bc d .undef)
 | [],v,q,h,_=>by
  have h:some ([],[])=some q:=h;cases h;exact ⟨rfl,fun j s hj=>by simp at hj,fun j s hj=>by simp at hj⟩
 |s::l,0,q,h,ho=>by
  obtain ⟨r,q',h1,h2,h⟩:=ay (show aH (f s) (Dw f x Wk d l 0) (fun r q=>sel (wkB r.2.2.1 Wk) (some (r.1.bc d x::q.1,(r.2.1,x)::(r.2.2.2++q.2))) none)=some q from h)
  obtain ⟨h3,h⟩:=aq h;cases h;obtain ⟨o1,o2⟩:=ho;obtain ⟨o3,o4⟩:=iN o2;obtain ⟨i1,i2,i3⟩:=Dv hf h2 o4;refine ⟨by simp[i1],fun j s' hj hle=> ?_,fun j s' hj hlt=>by omega⟩
  cases j with
  |zero=>
   have e:s=s':=by simpa using hj
   subst e;refine ⟨r.1,rfl,?_⟩;have:=hf s r h1 o3;have e1:r.2.1=x:=o1;rw[e1,afH h3] at this;exact this
  |succ j=>exact i2 j s' (by simpa using hj) (Nat.zero_le _)
 |s::l,v+1,q,h,ho=>by
  obtain ⟨q',h2,h⟩:=ae (show ah (Dw f x Wk d l v) (fun q=>some ((s.oh Wk).bc d .undef::q.1,q.2))=some q from h)
  cases h;obtain ⟨i1,i2,i3⟩:=Dv hf h2 ho;refine ⟨by simp[i1],fun j s' hj hle=> ?_,fun j s' hj hlt=> ?_⟩
  ·cases j with
   |zero=>omega
   |succ j=>exact i2 j s' (by simpa using hj) (by omega)
  ·cases j with
   |zero=>
    have e:s=s':=by simpa using hj
    subst e;rfl
   |succ j=>exact i3 j s' (by simpa using hj) (by omega)
abbrev kr (E:Env):=Option (LS×List Ob×Sc E)
def RF (W:Nat) (o:Oper) (d:Dsx) (sc:Sc E) (ob:List Ob) (f:LS→Option Res) (ih:Dsx→Sc E→List Ob→kr E):kr E:=
 ah (d.vs[pC (cB W d.M o) d.nc d.pis]?) fun sl=>aH (f sl) (sk sl.ts sl.bs o.op) fun r rk=>
  sel (laidB (cB W d.M o) (rk++kJ r.2.2.1) d.laid&&d.pis.all (A2 (pC (cB W d.M o) d.nc d.pis) (cB W d.M o) rk (kJ r.2.2.1) false (uO r.2.2.1)))
   (ah (Dw f r.2.1 r.2.2.1 o.dst d.vs (pC (cB W d.M o) d.nc d.pis)) fun q=>ih ⟨Nat.succ d.cur,d.nc,lR W d.M d.cur (cB W d.M o),q.1.map LS.tidy,FC r.2.2.1 d.cur d.laid,⟨d.cur,0,rk,kJ r.2.2.1,uO r.2.2.1⟩::d.pis⟩ sc (q.2++ob)) none
def RE (E:Env) (pks:List Nat) (W:Nat) (o:Oper) (d:Dsx) (st:LS) (it:It E) (sc:Sc E) (ob:List Ob) (ih:Dsx→Sc E→List Ob→kr E):kr E:=
 match it with
 | @It.call _ f bs bs' xs y _ ms ps rs=>sel (laidB (cB W d.M o) (ps.map (·.1)) d.laid&&d.pis.all (A2 d.nc (cB W d.M o) [] (ps.map (·.1)) true false))
   (ah (FZ pks st o.op f bs bs' xs y ms ps rs) fun q=>ih ⟨Nat.succ d.cur,Nat.succ d.nc,lR W d.M d.cur (cB W d.M o),((d.vs.map fun s=>(s.oi ps rs).bc o.dst .undef)++ [LS.bc ⟨st.ts,q.1++st.bs⟩ o.dst q.2.1]).map LS.tidy,d.laid,⟨d.cur,Nat.succ d.nc,[],ps.map (·.1),false⟩::d.pis⟩ sc (q.2.2++ob)) none
 |it=>sel (dq o.op).isNone (RF W o d sc ob (fun s=>PO E pks s o.op o.dst it) ih) none
def RD (E:Env) (pks:List Nat) (W:Nat) (o:Oper) (d:Dsx) (sc:Sc E) (ob:List Ob) (ih:Dsx→Sc E→List Ob→kr E):kr E:=sel (dq o.op).isNone (RF W o d sc ob (fun s=>ng E pks s o.op o.dst) ih) none
def adV (E:Env) (pks:List Nat) (W:Nat) (o:Oper) (d:Dsx) (st:LS) (sc:Sc E) (ob:List Ob) (ih:Dsx→Sc E→List Ob→kr E):kr E:=
 match sc with
 | []=>RD E pks W o d [] ob ih
 |q::l=>(match q.1 with
  |0=>RE E pks W o d st q.2 l ob ih
  |k+1=>RD E pks W o d ((k,q.2)::l) ob ih)
def adW (E:Env) (nt:Nat) (pks:List Nat) (all:List Oper) (W:Nat) (o:Oper) (d:Dsx) (sc:Sc E) (ob:List Ob) (ih:Dsx→Sc E→List Ob→kr E):kr E:=
 sel (Nat.ble (Nat.succ d.cur) W&&(cf nt o.dst&&fH d.cur (di o))) (ah (d.vs[d.nc]?) fun st=>ah (iS all o st.ts) fun w=>
  sel w (adV E pks W o d st sc ob ih) (ih ⟨Nat.succ d.cur,d.nc,lR W d.M d.cur (cB W d.M o),(d.vs.map fun s=>s.bc o.dst (.tup [])).map LS.tidy,d.laid,⟨d.cur,0,[],[],true⟩::d.pis⟩ sc ob)) none
def D5 (E:Env) (nt:Nat) (pks:List Nat) (all:List Oper) (W:Nat):List Oper→Dsx→Sc E→List Ob→kr E
 | []=>fun d sc ob=>ah (d.vs[d.nc]?) fun s=>some (s,ob,sc)
 |o::l=>fun d sc ob=>adW E nt pks all W o d sc ob (D5 E nt pks all W l)
def sK (E:Env) (nt:Nat) (B:Bs) (all:List Oper) (W:Nat) (l:List Oper) (ih:Dsx→Sc E→List Ob→kr E):Prop:=
 ∀d sc o r,ih d sc o=some r→cA r.2.1→cA o∧dr E nt B all W d.cur d.nc d.M d.vs d.laid d.pis l r.1
theorem Lt {f:LS→Option Res} {d:Dsx} {st:LS} {sc:Sc E} {ob:List Ob} {ih:Dsx→Sc E→List Ob→kr E} {r:LS×List Ob×Sc E} (hih:sK E nt B all W l ih) (hf:∀s r,f s=some r→fu E B o.op s r) (hc:dq o.op=none) (fj:d.cur<W) (hd:(cf nt o.dst&&fH d.cur (di o))=true) (hst:d.vs[d.nc]? =some st) (hw:iS all o st.ts=some true)
  (h:RF W o d sc ob f ih=some r) (ho:cA r.2.1):cA ob∧dr E nt B all W d.cur d.nc d.M d.vs d.laid d.pis (o::l) r.1:=by
 obtain ⟨sl,h1,h⟩:=ae h;obtain ⟨r0,rk,h2,h3,h⟩:=ay h;obtain ⟨h4,h⟩:=aq h;obtain ⟨q,h5,h⟩:=ae h;obtain ⟨k1,k2⟩:=hih _ _ _ _ h ho;obtain ⟨k3,k4⟩:=iN k1;obtain ⟨m1,m2,m3⟩:=Dv hf h5 k3;rw[Bool.and_eq_true] at h4;refine ⟨k4,dr.op fj hd hst hw hc h1 m1 m2 m3 h3 (fun k j hk hj=>Kp h4.1 k j (List.mem_append.2 hk) hj) (fun p hp=>EH (List.all_eq_true.1 h4.2 p hp)) (dr.tidy k2)⟩
theorem aat {pks:List Nat} {d:Dsx} {st:LS} {it:It E} {sc:Sc E} {ob:List Ob} {ih:Dsx→Sc E→List Ob→kr E} {r:LS×List Ob×Sc E} (hB:BOK pks B) (hih:sK E nt B all W l ih) (fj:d.cur<W) (hd:(cf nt o.dst&&fH d.cur (di o))=true) (hst:d.vs[d.nc]? =some st) (hw:iS all o st.ts=some true)
  (h:RE E pks W o d st it sc ob ih=some r) (ho:cA r.2.1):cA ob∧dr E nt B all W d.cur d.nc d.M d.vs d.laid d.pis (o::l) r.1:=by
 unfold RE at h;split at h
 ·rename_i f bs bs' xs y hC ms ps rs;obtain ⟨h4,h⟩:=aq h;obtain ⟨q,h2,h⟩:=ae h;obtain ⟨k1,k2⟩:=hih _ _ _ _ h ho;obtain ⟨k3,k4⟩:=iN k1;obtain ⟨c,w,c1,c2,c3,c4,c5,c6,c7,c8,c9,c10,c11,c12,c13,c14⟩:=BD hB h2 k3 hC;rw[Bool.and_eq_true] at h4;refine ⟨k4,dr.call fj hd hst hw c1 c2 c3 rfl c4 c5 c6 c7 c8 c9 c10 c11 c12 c13 (Kp h4.1) (fun p hp=>EH (List.all_eq_true.1 h4.2 p hp)) (dr.tidy (c14 ▸ k2))⟩
 ·obtain ⟨h1,h⟩:=aq h;exact Lt hih (fun s r hr=>HX hB hr) (by simpa using h1) fj hd hst hw h ho
theorem Ls {pks:List Nat} {d:Dsx} {st:LS} {sc:Sc E} {ob:List Ob} {ih:Dsx→Sc E→List Ob→kr E} {r:LS×List Ob×Sc E} (hB:BOK pks B) (hih:sK E nt B all W l ih) (fj:d.cur<W) (hd:(cf nt o.dst&&fH d.cur (di o))=true) (hst:d.vs[d.nc]? =some st) (hw:iS all o st.ts=some true)
  (h:RD E pks W o d sc ob ih=some r) (ho:cA r.2.1):cA ob∧dr E nt B all W d.cur d.nc d.M d.vs d.laid d.pis (o::l) r.1:=by
 obtain ⟨h1,h⟩:=aq h;exact Lt hih (fun s r hr=>qt hB hr) (by simpa using h1) fj hd hst hw h ho
theorem aas {pks:List Nat} {ih:Dsx→Sc E→List Ob→kr E} (hB:BOK pks B) (hih:sK E nt B all W l ih):sK E nt B all W (o::l) (fun d sc ob=>adW E nt pks all W o d sc ob ih):=by
 intro d sc ob r h ho;obtain ⟨h1,h⟩:=aq h;obtain ⟨st,hst,h⟩:=ae h;obtain ⟨w,hw,h⟩:=ae h;rw[Bool.and_eq_true] at h1;have fj:d.cur<W:=Nat.le_of_ble_eq_true h1.1;rw[aB] at h;split at h
 ·rename_i e;subst e;unfold adV at h;split at h
  ·exact Ls hB hih fj h1.2 hst hw h ho
  ·split at h
   ·exact aat hB hih fj h1.2 hst hw h ho
   ·exact Ls hB hih fj h1.2 hst hw h ho
 ·rename_i e;have e:w=false:=by simpa using e
  subst e;obtain ⟨k1,k2⟩:=hih _ _ _ _ h ho;exact ⟨k1,dr.skip fj h1.2 hst hw (dr.tidy k2)⟩
theorem Bq {pks:List Nat} (hB:BOK pks B):∀l:List Oper,sK E nt B all W l (D5 E nt pks all W l)
 | []=>fun d sc o r h ho=>by
  obtain ⟨s,h1,h⟩:=ae (show ah (d.vs[d.nc]?) (fun s=>some (s,o,sc))=some r from h)
  cases h;exact ⟨ho,dr.nil h1⟩
 |o::l=>aas hB (Bq hB l)
end
section
variable {F F':Hf} {g g':Gb} {B:Bs} {φ:Nat→List Nat} {s s' s1:LS} {E:Env} {nt:Nat}
def qu:Code→Nat→Code
 | .seq a _,0=>a
 | .seq _ b,_=>b
 | .cond _ a _,0=>a
 | .cond _ _ b,_=>b
 | .block _ c,_=>c
 | .loop c,_=>c
 |_,_=>.skip
def kU (c:Code):List Nat→Code
 | []=>c
 |i::p=>qu (kU c p) i
inductive KP where
 |code (p:List Nat) (c:Code)|block (id:Nat)|loop (p:List Nat) (c:Code)
def KP.ki:KP→KI
 | .code _ c=>.code c
 | .block id=>.block id
 | .loop _ c=>.loop c
def eH (c:Code):List Nat→List KP
 | []=> []
 |i::p=>
  match kU c p with
  | .seq _ b=>(match i with|0=>.code (1::p) b::eH c p|_=>eH c p)
  | .block id _=>.block id::eH c p
  | .loop b=>.loop p b::eH c p
  |_=>eH c p
structure Fx (E:Env) where
 fn:Func
 code:Code
 pks:List Nat
 outs:List Nat
inductive Md where
 |ent (c:Code) (p:List Nat) (chk:Bool)|out (e:Ex)
inductive Stop where
 |at (p:List Nat) (s:LS)|ret (y:AV) (bs:List (Nat×Bx))
abbrev qZ:=List (List Nat×List (Nat×PM)×List (Nat×PB))
def eqP:List Nat→List Nat→Bool
 | []=>fun q=>(match q with| []=>true|_=>false)
 |a::p=>fun q=>(match q with| []=>false|b::q=>sel (Nat.beq a b) (eqP p q) false)
def Lc (p:List Nat):qZ→Option (List (Nat×PM)×List (Nat×PB))
 | []=>none
 |x::l=>sel (eqP x.1 p) (some x.2) (Lc p l)
def wU (s:LS):List (Nat×PM)→List (Nat×AV)
 | []=> []
 |q::l=>(q.1,q.2.app (qv (lk q.1 s.ts)))::wU s l
def Aw (s:LS):List (Nat×PB)→Option (List (Nat×Bx))
 | []=>some []
 |q::l=>aH (lk q.1 s.bs) (Aw s l) fun b r=>some ((q.1,q.2.app b)::r)
theorem As {t:Nat} {y:AV}:∀{l:List (Nat×PM)},lk t (wU s l)=some y→y= .undef∨∃x,lk t s.ts=some x∧WV x y
 | [],h=>by cases h
 |(u,m)::l,h=>by
  rw[show wU s ((u,m)::l)=(u,m.app (qv (lk u s.ts)))::wU s l from rfl,bp] at h;split at h
  ·rename_i e;cases h;subst e;cases hx:lk t s.ts with
   |none=>left;exact PM.E3 m
   |some x=>exact .inr ⟨x,rfl,m.wv x⟩
  ·exact As h
theorem Av {k:Nat} {b':Bx}:∀{l:List (Nat×PB)} {r:List (Nat×Bx)},Aw s l=some r→lk k r=some b'→∃b,lk k s.bs=some b∧WB b b'
 | [],r,h,hk=>by
  have h:some []=some r:=h;cases h;cases hk
 |(u,m)::l,r,h,hk=>by
  obtain ⟨b,r',h1,h2,h⟩:=ay (show aH (lk u s.bs) (Aw s l) (fun b r=>some ((u,m.app b)::r))=some r from h)
  cases h;rw[bp] at hk;split at hk
  ·rename_i e;cases hk;subst e;exact ⟨b,h1,m.wb b⟩
  ·exact Av h2 hk
theorem VE {lt:List (Nat×PM)} {lb:List (Nat×PB)} {r:List (Nat×Bx)} (h:Aw s lb=some r):nV s ⟨wU s lt,r⟩:=⟨fun t y hy=>As hy,fun k b' hk=>Av h hk⟩
def Au (s:LS):List Nat→Option (List (Nat×Bx))
 | []=>some []
 |k::l=>aH (lk k s.bs) (Au s l) fun b r=>some ((k,b)::r)
theorem JV {k:Nat} {b:Bx}:∀{l:List Nat} {r:List (Nat×Bx)},Au s l=some r→lk k r=some b→lk k s.bs=some b
 | [],r,h,hk=>by
  have h:some []=some r:=h;cases h;cases hk
 |u::l,r,h,hk=>by
  obtain ⟨b,r',h1,h2,h⟩:=ay (show aH (lk u s.bs) (Au s l) (fun b r=>some ((u,b)::r))=some r from h)
  cases h;rw[bp] at hk;split at hk
  ·rename_i e;cases hk;subst e;exact h1
  ·exact JV h2 hk
abbrev nT:=Option (Stop×List Ob)
def retX (X:Fx E) (s:LS) (o:List Ob):nT:=
 aH (JL E s X.fn.results.toList) (Au s X.outs) fun ys bs=>sel (eG ys) (some (.ret (Qc ys) bs,o)) none
def YP (X:Fx E) (s:LS) (sc:Sc E) (o:List Ob):nT:=(fun q:LS×List Ob×Sc E=>retX X q.1 q.2.1) (gho E X.pks sc s o)
abbrev uh (E:Env):=Md→List KP→LS→Sc E→List Ob→nT
def YU (X:Fx E) (ih:uh E) (ops:List Oper) (n:Nat) (draw:Bool) (ks:List KP) (s:LS) (sc:Sc E) (o:List Ob):nT:=
 sel draw ((fun q:LS×List Ob×Sc E=>ah (D5 E X.fn.ntmps X.pks ops n ops ⟨0,0,0,[q.1],[],[]⟩ q.2.2 q.2.1) fun r=>ih (.out .normal) ks r.1 r.2.2 r.2.1) (gho E X.pks sc s o))
  (ah (JD E X.fn.ntmps X.pks ops ops s sc o) fun r=>ih (.out .normal) ks r.1 r.2.2 r.2.1)
def Bl (X:Fx E) (ih:uh E) (c:Code) (p:List Nat) (ks:List KP) (s:LS) (sc:Sc E) (o:List Ob):nT:=
 match c with
 | .skip=>ih (.out .normal) ks s sc o
 | .seq a b=>ih (.ent a (0::p) true) (.code (1::p) b::ks) s sc o
 | .region _ ops draw=>YU X ih ops.toList ops.size draw ks s sc o
 | .cond x a b=>(match aP s.ts x with
  | .bool true=>ih (.ent a (0::p) true) ks s sc o
  | .bool false=>ih (.ent b (1::p) true) ks s sc o
  |_=>none)
 | .block id c=>ih (.ent c (0::p) true) (.block id::ks) s sc o
 | .loop c=>ih (.ent c (0::p) true) (.loop p c::ks) s sc o
 | .exit id=>ih (.out (.exit id)) ks s sc o
 | .ret=>YP X s sc o
 |_=>none
def Kn (X:Fx E) (ih:uh E) (e:Ex) (ks:List KP) (s:LS) (sc:Sc E) (o:List Ob):nT:=
 match ks with
 | []=>sel (pF e) (YP X s sc o) none
 | .code p c::ks=>sel (dY e) (ih (.ent c p true) ks s sc o) (ih (.out e) ks s sc o)
 | .block id::ks=>ih (.out (leave id e)) ks s sc o
 | .loop p c::ks=>sel (dY e) (ih (.ent (.loop c) p true) ks s sc o) (ih (.out e) ks s sc o)
def aiw (X:Fx E) (p:List Nat) (lt:List (Nat×PM)) (lb:List (Nat×PB)) (q:LS×List Ob×Sc E):nT:=ah (Aw q.1 lb) fun bs=>some (.at p ⟨wU q.1 lt,bs⟩,q.2.1)
def Dc (X:Fx E) (S:qZ) (ih:uh E) (m:Md) (ks:List KP) (s:LS) (sc:Sc E) (o:List Ob):nT:=
 match m with
 | .ent c p chk=>sel chk (match Lc p S with
  |some l=>aiw X p l.1 l.2 (gho E X.pks sc s o)
  |none=>Bl X ih c p ks s sc o) (Bl X ih c p ks s sc o)
 | .out e=>Kn X ih e ks s sc o
def runK (X:Fx E) (S:qZ) (n:Nat):uh E:=Nat.rec (fun _ _ _ _ _=>none) (fun _ ih=>Dc X S ih) n
def qq (X:Fx E) (S:qZ) (p:List Nat) (s:LS) (sc:Sc E):nT:=runK X S 100000 (.ent (kU X.code p) p false) (eH X.code p) s sc []
def AtQ (X:Fx E) (B:Bs) (p:List Nat) (s:LS) (Q:Ex→LS→Prop):Prop:=Wk E X.fn.ntmps B (kU X.code p) ((eH X.code p).map KP.ki) s Q
def At (X:Fx E) (p:List Nat) (s:LS) (y:AV) (bs':List (Nat×Bx)):Prop:=∀B,BOK X.pks B→AtQ X B p s (aaK E X.fn y bs')
def KOK (X:Fx E):List KP→Prop
 | []=>True
 | .code p c::ks=>c=kU X.code p∧ks=eH X.code p∧KOK X ks
 | .loop p c::ks=>Code.loop c=kU X.code p∧ks=eH X.code p∧KOK X ks
 | .block _::ks=>KOK X ks
theorem vy (X:Fx E):∀p,KOK X (eH X.code p)
 | []=>trivial
 |i::p=>by
  have ih:=vy X p;unfold eH;split
  ·rename_i a b hc;split
   ·exact ⟨by simp[kU,hc,qu],by simp[eH,hc],ih⟩
   ·exact ih
  ·exact ih
  ·rename_i b hc;exact ⟨hc.symm,rfl,ih⟩
  ·exact ih
def MdOK (X:Fx E) (ks:List KP):Md→Prop
 | .ent c p _=>c=kU X.code p∧ks=eH X.code p
 | .out _=>True
def amA (X:Fx E) (B:Bs) (ks:List KP) (s:LS) (Q:Ex→LS→Prop):Md→Prop
 | .ent c _ _=>Wk E X.fn.ntmps B c (ks.map KP.ki) s Q
 | .out e=>WkO E X.fn.ntmps B e (ks.map KP.ki) s Q
def BQ (X:Fx E) (B:Bs) (Q:Ex→LS→Prop):Stop→Prop
 | .at p s=>AtQ X B p s Q
 | .ret y bs=>∀e s,aaK E X.fn y bs e s→Q e s
theorem WkO.ret {Q:Ex→LS→Prop} (h:Q .ret s):∀ks:List KI,WkO E nt B .ret ks s Q
 | []=>WkO.nil h
 | .code _::ks=>WkO.aea rfl (WkO.ret h ks)
 | .block id::ks=>WkO.block (WkO.ret h ks)
 | .loop _::ks=>WkO.acA rfl (WkO.ret h ks)
def Ga (X:Fx E) (B:Bs) (Q:Ex→LS→Prop) (ih:uh E):Prop:=
 ∀m ks s sc o r,ih m ks s sc o=some r→cA r.2→KOK X ks→MdOK X ks m→BQ X B Q r.1→cA o∧amA X B ks s Q m
theorem Oo {X:Fx E} {Q:Ex→LS→Prop} {sc:Sc E} {o:List Ob} {r:Stop×List Ob} (hB:BOK X.pks B) (h:YP X s sc o=some r) (ho:cA r.2) (hp:BQ X B Q r.1):cA o∧∃s1,dN B s s1∧∀e,pF e=true→Q e s1:=by
 obtain ⟨ys,bs,h1,h2,h⟩:=ay (show aH (JL E (gho E X.pks sc s o).1 X.fn.results.toList) (Au (gho E X.pks sc s o).1 X.outs) (fun ys bs=>sel (eG ys) (some (.ret (Qc ys) bs,(gho E X.pks sc s o).2.1)) none)=some r from h)
 obtain ⟨h3,h⟩:=aq h;cases h;obtain ⟨k1,k2⟩:=vJ hB sc s o ho;exact ⟨k1,_,k2,fun e he=>hp e _ ⟨he,⟨ys,h1,h3,rfl⟩,fun k b hk=>JV h2 hk⟩⟩
theorem aeK {X:Fx E} {Q:Ex→LS→Prop} {ih:uh E} {id:Nat} {ops:Array Oper} {draw:Bool} {ks:List KP} {sc:Sc E} {o:List Ob} {r:Stop×List Ob} (hB:BOK X.pks B) (hih:Ga X B Q ih) (h:YU X ih ops.toList ops.size draw ks s sc o=some r) (ho:cA r.2) (hk:KOK X ks) (hp:BQ X B Q r.1):
  cA o∧Wk E X.fn.ntmps B (.region id ops draw) (ks.map KP.ki) s Q:=by
 unfold YU at h;cases draw with
 |true=>
  obtain ⟨q,h1,h⟩:=ae h;obtain ⟨q1,q2⟩:=hih _ _ _ _ _ _ h ho hk trivial hp;obtain ⟨q3,q4⟩:=Bq hB _ _ _ _ _ h1 q1;obtain ⟨q5,q6⟩:=vJ hB sc s o q3;exact ⟨q5,Wk.JC q6 (Wk.drawn q4 q2)⟩
 |false=>
  obtain ⟨q,h1,h⟩:=ae h;obtain ⟨q1,q2⟩:=hih _ _ _ _ _ _ h ho hk trivial hp;obtain ⟨q3,q4⟩:=Es hB _ _ _ _ _ h1 q1;exact ⟨q3,Wk.region q4 q2⟩
theorem EV {X:Fx E} {Q:Ex→LS→Prop} {ih:uh E} {c:Code} {p:List Nat} {ks:List KP} {sc:Sc E} {o:List Ob} {r:Stop×List Ob} (hB:BOK X.pks B) (hih:Ga X B Q ih) (h:Bl X ih c p ks s sc o=some r) (ho:cA r.2) (hk:KOK X ks) (h1:c=kU X.code p) (h2:ks=eH X.code p) (hp:BQ X B Q r.1):
  cA o∧Wk E X.fn.ntmps B c (ks.map KP.ki) s Q:=by
 unfold Bl at h;split at h
 ·obtain ⟨q1,q2⟩:=hih _ _ _ _ _ _ h ho hk trivial hp;exact ⟨q1,Wk.skip q2⟩
 ·rename_i a b;obtain ⟨q1,q2⟩:=hih _ _ _ _ _ _ h ho ⟨by simp[kU,←h1,qu],by simp[eH,←h1,h2],hk⟩ ⟨by simp[kU,←h1,qu],by simp[eH,←h1,h2]⟩ hp
  exact ⟨q1,Wk.seq q2⟩
 ·exact aeK hB hih h ho hk hp
 ·rename_i x a b;split at h
  ·rename_i hv;obtain ⟨q1,q2⟩:=hih _ _ _ _ _ _ h ho hk ⟨by simp[kU,←h1,qu],by simp[eH,←h1,h2]⟩ hp
   exact ⟨q1,Wk.RQ hv q2⟩
  ·rename_i hv;obtain ⟨q1,q2⟩:=hih _ _ _ _ _ _ h ho hk ⟨by simp[kU,←h1,qu],by simp[eH,←h1,h2]⟩ hp
   exact ⟨q1,Wk.RR hv q2⟩
  ·cases h
 ·rename_i id c;obtain ⟨q1,q2⟩:=hih _ _ _ _ _ _ h ho hk ⟨by simp[kU,←h1,qu],by simp[eH,←h1,h2]⟩ hp
  exact ⟨q1,Wk.block q2⟩
 ·rename_i c;obtain ⟨q1,q2⟩:=hih _ _ _ _ _ _ h ho ⟨h1,h2,hk⟩ ⟨by simp[kU,←h1,qu],by simp[eH,←h1,h2]⟩ hp
  exact ⟨q1,Wk.loop q2⟩
 ·obtain ⟨q1,q2⟩:=hih _ _ _ _ _ _ h ho hk trivial hp;exact ⟨q1,Wk.exit q2⟩
 ·obtain ⟨q1,s1,q2,q3⟩:=Oo hB h ho hp;exact ⟨q1,Wk.ret (WkO.JC q2 (WkO.ret (q3 _ rfl) _))⟩
 ·cases h
theorem W8 {X:Fx E} {Q:Ex→LS→Prop} {ih:uh E} {e:Ex} {ks:List KP} {sc:Sc E} {o:List Ob} {r:Stop×List Ob} (hB:BOK X.pks B) (hih:Ga X B Q ih) (h:Kn X ih e ks s sc o=some r) (ho:cA r.2) (hk:KOK X ks) (hp:BQ X B Q r.1):cA o∧WkO E X.fn.ntmps B e (ks.map KP.ki) s Q:=by
 unfold Kn at h;split at h
 ·obtain ⟨he,h⟩:=aq h;obtain ⟨q1,s1,q2,q3⟩:=Oo hB h ho hp;exact ⟨q1,WkO.JC q2 (WkO.nil (q3 e he))⟩
 ·rename_i p c ks;obtain ⟨k1,k2,k3⟩:=hk;rw[aB] at h;split at h
  ·rename_i he;obtain ⟨q1,q2⟩:=hih _ _ _ _ _ _ h ho k3 ⟨k1,k2⟩ hp;rw[qz he];exact ⟨q1,WkO.code q2⟩
  ·rename_i he;obtain ⟨q1,q2⟩:=hih _ _ _ _ _ _ h ho k3 trivial hp;exact ⟨q1,WkO.aea (by simpa using he) q2⟩
 ·rename_i id ks;obtain ⟨q1,q2⟩:=hih _ _ _ _ _ _ h ho hk trivial hp;exact ⟨q1,WkO.block q2⟩
 ·rename_i p c ks;obtain ⟨k1,k2,k3⟩:=hk;rw[aB] at h;split at h
  ·rename_i he;obtain ⟨q1,q2⟩:=hih _ _ _ _ _ _ h ho k3 ⟨k1,k2⟩ hp;rw[qz he];exact ⟨q1,WkO.loop q2⟩
  ·rename_i he;obtain ⟨q1,q2⟩:=hih _ _ _ _ _ _ h ho k3 trivial hp;exact ⟨q1,WkO.acA (by simpa using he) q2⟩
theorem Dd (X:Fx E) (S:qZ) (Q:Ex→LS→Prop) (hB:BOK X.pks B):∀n,Ga X B Q (runK X S n)
 |0=>fun m ks s sc o r h=>by
  have h:none=some r:=h;cases h
 |n+1=>fun m ks s sc o r h ho hk hm hp=>by
  have ih:=Dd X S Q hB n;have h:Dc X S (runK X S n) m ks s sc o=some r:=h;cases m with
  |out e=>exact W8 hB ih h ho hk hp
  |ent c p chk=>
   obtain ⟨m1,m2⟩:=hm;unfold Dc at h;dsimp only at h;rw[aB] at h;split at h
   ·split at h
    ·rename_i l hl;obtain ⟨bs,h1,h⟩:=ae h;cases h;obtain ⟨k1,k2⟩:=vJ hB sc s o ho;subst m1;subst m2;exact ⟨k1,Wk.JC (k2.trans (dN.less (VE (lt:=l.1) h1))) hp⟩
    ·exact EV hB ih h ho hk m1 m2 hp
   ·exact EV hB ih h ho hk m1 m2 hp
def lsA (s:LS):List AV:=.agg (s.ts.map fun p=>.ifc p.1 p.2)::s.bs.map fun p=>.ifc p.1 (bxA p.2)
theorem aaW:∀{a b:List (Nat×AV)},(a.map fun p=>AV.ifc p.1 p.2)=(b.map fun p=>AV.ifc p.1 p.2)→a=b
 | [],[],_=>rfl
 | [],_::_,h=>by cases h
 |_::_,[],h=>by cases h
 |p::a,q::b,h=>by
  rw[List.map_cons,List.map_cons,List.cons.injEq] at h;obtain ⟨h1,h2⟩:=h;injection h1 with h3 h4
  rw[aaW h2,Prod.ext h3 h4]
theorem RX:∀{a b:List (Nat×Bx)},(a.map fun p=>AV.ifc p.1 (bxA p.2))=(b.map fun p=>AV.ifc p.1 (bxA p.2))→a=b
 | [],[],_=>rfl
 | [],_::_,h=>by cases h
 |_::_,[],h=>by cases h
 |p::a,q::b,h=>by
  rw[List.map_cons,List.map_cons,List.cons.injEq] at h;obtain ⟨h1,h2⟩:=h;injection h1 with h3 h4
  rw[RX h2,Prod.ext h3 (BF h4)]
theorem agw {a b:LS} (h:lsA a=lsA b):a=b:=by
 unfold lsA at h;injection h with h1 h2
 injection h1 with h1
 cases a with|mk t1 b1=>
 cases b with|mk t2 b2=>
 have e1:t1=t2:=aaW h1;have e2:b1=b2:=RX h2;rw[e1,e2]
def ptA:List Nat→List AV
 | []=> []
 |i::p=>.loc i 0::ptA p
theorem Vx:∀{a b:List Nat},ptA a=ptA b→a=b
 | [],[],_=>rfl
 | [],_::_,h=>by cases h
 |_::_,[],h=>by cases h
 |p::a,q::b,h=>by
  have h:AV.loc p 0::ptA a= .loc q 0::ptA b:=h;injection h with h1 h2
  injection h1 with h1
  rw[Vx h2,h1]
def wM:Stop→AV
 | .at p s=>.fn 0 (ptA p) (lsA s)
 | .ret y bs=>.fn 1 [y] (bs.map fun p=>.ifc p.1 (bxA p.2))
theorem YI {a b:Stop} (h:wM a=wM b):a=b:=by
 cases a with
 | «at» p s=>
  cases b with
  | «at» p' s'=>
   have h:AV.fn 0 (ptA p) (lsA s)= .fn 0 (ptA p') (lsA s'):=h;injection h with _ h1 h2
   rw[Vx h1,agw h2]
  |ret y bs=>
   have h:AV.fn 0 _ _= .fn 1 _ _:=h;injection h with h0
   cases h0
 |ret y bs=>
  cases b with
  | «at» p' s'=>
   have h:AV.fn 1 _ _= .fn 0 _ _:=h;injection h with h0
   cases h0
  |ret y' bs'=>
   have h:AV.fn 1 [y] _= .fn 1 [y'] _:=h;injection h with _ h1 h2
   injection h1 with h1
   rw[h1,RX h2]
def JE (r:nT):List AV:= @Option.rec (Stop×List Ob) (fun _=>List AV) [.undef] (fun q=>wM q.1::KY q.2) r
def JF (st:Stop) (r:nT):List AV:= @Option.rec (Stop×List Ob) (fun _=>List AV) [] (fun q=>wM st::Jy q.2) r
theorem U2 {st:Stop} {r:nT} (h:JE r=JF st r):∃o,r=some (st,o)∧cA o:=by
 cases r with
 |none=>cases h
 |some q=>
  have h:wM q.1::KY q.2=wM st::Jy q.2:=h;injection h with h1 h2
  exact ⟨q.2,by rw[←YI h1],Kg h2⟩
theorem age {X:Fx E} {S:qZ} {p p':List Nat} {s s':LS} {sc:Sc E} {y:AV} {bs':List (Nat×Bx)} (h:JE (qq X S p s sc)=JF (.at p' s') (qq X S p s sc)) (k:At X p' s' y bs'):At X p s y bs':=fun B hB=>by
 obtain ⟨o,h1,h2⟩:=U2 h;exact (Dd X S _ hB _ _ _ _ _ _ _ h1 h2 (vy X p) ⟨rfl,rfl⟩ (k B hB)).2
theorem aeH {X:Fx E} {S:qZ} {p:List Nat} {s:LS} {sc:Sc E} {y:AV} {bs':List (Nat×Bx)} (h:JE (qq X S p s sc)=JF (.ret y bs') (qq X S p s sc)):At X p s y bs':=fun B hB=>by
 obtain ⟨o,h1,h2⟩:=U2 h;exact (Dd X S _ hB _ _ _ _ _ _ _ h1 h2 (vy X p) ⟨rfl,rfl⟩ fun e s h=>h).2
theorem RV {X:Fx E} {f:Nat} {bs bs':List (Nat×Bx)} {xs:List AV} {y:AV} (hk:xu E f X.fn X.code) (hn:Nat.ble xs.length X.fn.ntmps=true) (hp:pE bs=X.pks) (h:At X [] ⟨oC 0 xs,bs⟩ y bs'):bW E f bs xs y bs':=
 afs hk hn fun B hB=>h B (hp ▸ hB)
theorem Zx {α:Type} {b:Bool} {x y:Option α} {r:α} {G:Prop} (h:(if b=true then x else y)=some r) (k1:b=true→x=some r→G) (k2:b=false→y=some r→G):G:=by
 cases b with
 |true=>exact k1 rfl (by simpa using h)
 |false=>exact k2 rfl (by simpa using h)
theorem XO {α β:Type} {x:Option β} {f:β→Option α} {r:α} {G:Prop} (h:x.bind f=some r) (k:∀y,x=some y→f y=some r→G):G:=by
 cases x with
 |none=>simp at h
 |some y=>exact k y rfl h
end
section
def idx {α:Type} (xs:List α) (i:Int):Option α:=if 0≤i then xs[i.toNat]? else none
def app {α:Type} (xs ys:List α):Option (List α):=if xs.length≤1000000∧ys.length≤1000000 then some (xs++ys) else none
def wi {α:Type} (xs:List α) (n:Nat) (ys:List α):Option (List α):=if n≤xs.length∧n≤1000000∧ys.length≤1000000 then some (xs.take n++ys) else none
def cut {α:Type} (xs:List α) (lo hi:Option Int):Option (List α):=
 if 0≤lo.getD 0∧0≤hi.getD 0∧(lo.getD 0).toNat≤(hi.map Int.toNat).getD xs.length∧(hi.map Int.toNat).getD xs.length≤xs.length then
  some ((xs.take ((hi.map Int.toNat).getD xs.length)).drop (lo.getD 0).toNat) else none
def aaw (n:Nat) (lo hi:Option Int):Option (Nat×Nat):=
 if 0≤lo.getD 0∧0≤hi.getD 0∧(lo.getD 0).toNat≤(hi.map Int.toNat).getD n∧(hi.map Int.toNat).getD n≤n then
  some ((lo.getD 0).toNat,(hi.map Int.toNat).getD n) else none
def cat (a b:ByteArray):Option ByteArray:=if a.size+b.size≤1000000 then some (a++b) else none
def vB (s:ByteArray) (i:Int):Option UInt8:=if 0≤i then s.data.toList[i.toNat]? else none
def quo (k:IntKind) (a b:Int):Option Int:=if b=0 then none else some (k.wrap (a.tdiv b))
def rem (a b:Int):Option Int:=if b=0 then none else some (a.tmod b)
def bnd (n:Nat) (i:Int):Option Nat:=if 0≤i∧i.toNat<n then some i.toNat else none
def setAt {α:Type} (xs:List α) (i:Nat) (x:α):Option (List α):=if i<xs.length then some (xs.set i x) else none
def pc {α:Type} (n:Int) (x:α):Option (List α):=if 0≤n∧n≤1000000 then some (List.replicate n.toNat x) else none
def cpy {α:Type} (xs ys:List α):Option (List α):=if xs= [] then none else some (ys.take (min ys.length xs.length)++xs.drop (min ys.length xs.length))
def fA {β:Type} (m:List (ByteArray×β)) (k:ByteArray) (d:β):β:=match m with| []=>d|p::m=>if k=p.1 then p.2 else fA m k d
def fM {β:Type} (m:List (ByteArray×β)) (k:ByteArray) (v:β):List (ByteArray×β):=match m with| []=> [(k,v)]|p::m=>if k=p.1 then (k,v)::m else p::fM m k v
abbrev w64 (x:Int):Int:=IntKind.i64.wrap x
structure RowsK {α:Type} (enc:α→List AV) (rows:List α→List (List AV)):Prop where
 map:∀xs,rows xs=xs.map enc
section
variable {α:Type} {enc:α→List AV} {rows:List α→List (List AV)} {E:Env}
theorem RowsK.len (R:RowsK enc rows) (xs:List α):(rows xs).length=xs.length:=by rw[R.map,List.length_map]
theorem RowsK.au (R:RowsK enc rows) (xs:List α):AV.int .i64 ((rows xs).length:Int)= .int .i64 (xs.length:Int):=by rw[R.len]
theorem RowsK.get (R:RowsK enc rows) {xs:List α} {j:Nat} {x:α} (h:xs[j]? =some x):(rows xs)[j]? =some (enc x):=by rw[R.map,List.getElem?_map,h];rfl
theorem RowsK.isE (R:RowsK enc rows) (xs:List α):(rows xs).isEmpty=xs.isEmpty:=by rw[R.map];cases xs<;>rfl
theorem RowsK.mA (R:RowsK enc rows) (xs:List α):AV.bool (rows xs).isEmpty= .bool xs.isEmpty:=by rw[R.isE]
theorem RowsK.idx' (R:RowsK enc rows) {xs:List α} {n:Int} {x:α} (h:idx xs n=some x):jJ (rows xs) n=some (enc x):=by
 unfold Go.Sim.idx at h;unfold jJ;split at h
 ·rename_i h0;rw[if_pos h0];exact R.get h
 ·cases h
def RowsK.idx (R:RowsK enc rows) {xs:List α} {n:Int} {x:α} (h:idx xs n=some x):It E:=.idx (R.idx' h)
def RowsK.row (R:RowsK enc rows) {xs:List α} {j:Nat} {x:α} (h:xs[j]? =some x):It E:=.row (R.get h)
theorem LJ {n:Nat} {i:Int} {k:Nat} (h:bnd n i=some k):i=(k:Int)∧k<n:=by
 unfold bnd at h;split at h
 ·rename_i h0;cases h;exact ⟨by omega,h0.2⟩
 ·cases h
def cY {n:Nat} {i:Int} {k:Nat} (h:bnd n i=some k):It E:=.idb (LJ h).1 (LJ h).2
theorem sV {xs zs:List α} {i:Nat} {y:α} (h:setAt xs i y=some zs):zs=xs.set i y∧i<xs.length:=by
 unfold setAt at h;split at h
 ·cases h;exact ⟨rfl,by assumption⟩
 ·cases h
theorem cy {xs zs:List α} {i:Nat} {y:α} (h:setAt xs i y=some zs):zs.length=xs.length:=by rw[(sV h).1,List.length_set]
theorem RowsK.set' (R:RowsK enc rows) {xs zs:List α} {j f:Nat} {x y:α} {vs:List AV} (h1:setAt xs j y=some zs) (he:cx (enc x) f vs=enc y):(rows xs).set j (cx (enc x) f vs)=rows zs:=by
 rw[(sV h1).1,he,R.map,R.map,List.map_set]
def RowsK.sto (R:RowsK enc rows) {xs zs:List α} {j:Nat} {x y:α} (f:Nat) (vs:List AV) (h0:xs[j]? =some x) (h1:setAt xs j y=some zs) (he:cx (enc x) f vs=enc y):It E:=.sto (f:=f) (xs:=vs) (R.get h0) (R.set' h1 he)
theorem zG {xs ys zs:List α} (h:app xs ys=some zs):xs.length≤1000000∧ys.length≤1000000∧zs=xs++ys:=by
 unfold app at h;split at h
 ·rename_i h0;cases h;exact ⟨h0.1,h0.2,rfl⟩
 ·cases h
def RowsK.app (R:RowsK enc rows) {xs ys zs:List α} (h:app xs ys=some zs) (sr:Sr (rows ys)):It E:=
 .app (Q:=rows xs) (R:=rows ys) (Q':=rows zs) (n:=xs.length) (n':=zs.length) (R.len xs).symm (by rw[R.len];exact (zG h).1) (by rw[R.len];exact (zG h).2.1) (by rw[(zG h).2.2,R.map,R.map,R.map,List.map_append]) (R.len zs) sr
theorem qY {xs ys zs:List α} {n:Nat} (h:wi xs n ys=some zs):n≤xs.length∧n≤1000000∧ys.length≤1000000∧zs=xs.take n++ys:=by
 unfold wi at h;split at h
 ·rename_i h0;cases h;exact ⟨h0.1,h0.2.1,h0.2.2,rfl⟩
 ·cases h
def RowsK.wi (R:RowsK enc rows) {xs ys zs:List α} {n:Nat} (h:wi xs n ys=some zs) (sr:Sr (rows ys)):It E:=
 .aaH (Q:=rows xs) (P:=rows (xs.take n)) (R:=rows ys) (Q':=rows zs) (n:=n) (n':=zs.length) (by rw[R.map,R.map,List.map_take]) (by rw[R.len];exact (qY h).1) (qY h).2.1 (by rw[R.len];exact (qY h).2.2.1) (by rw[(qY h).2.2.2,R.map,R.map,R.map,List.map_append]) (R.len zs) sr
def RowsK.sr (R:RowsK enc rows) {xs:List α} {lo n:Nat} (hn:lo+n≤xs.length):Sr (rows ((xs.drop lo).take n)):=.box (Q:=rows xs) (lo:=lo) (n:=n) (by rw[R.map,R.map,List.map_take,List.map_drop]) (by rw[R.len];exact hn)
def RowsK.srW (R:RowsK enc rows) (xs:List α):Sr (rows xs):=.box (Q:=rows xs) (lo:=0) (n:=xs.length) (by rw[List.drop_zero,←R.len,List.take_length]) (by rw[R.len];omega)
theorem Lw {xs zs:List α} {lo hi:Option Int} (h:cut xs lo hi=some zs):∃l u:Nat,lo.getD 0=(l:Int)∧hi.getD (xs.length:Nat)=(u:Int)∧l≤u∧u≤xs.length∧zs=(xs.drop l).take (u-l):=by
 unfold cut at h;split at h
 ·rename_i h0;cases h;obtain ⟨a,b,c,d⟩:=h0;refine ⟨(lo.getD 0).toNat,(hi.map Int.toNat).getD xs.length,by omega,?_,c,d,by rw[List.drop_take]⟩
  cases hi with
  |none=>rfl
  |some v=>have:0≤v:=b;show v=((v.toNat:Nat):Int);omega
 ·cases h
def RowsK.cut (R : RowsK enc rows) {xs zs : List α} {lo hi : Option Int} (h : cut xs lo hi = some zs) : It E :=
  .cut (rows := rows xs) (R := rows zs) (lo := lo.getD 0) (hi := hi.getD ((rows xs).length : Nat)) (l := (lo.getD 0).toNat) (u := (hi.map Int.toNat).getD xs.length)
    (by obtain ⟨l, u, a, b, c, d, e⟩ := Lw h; omega)
    (by
      obtain ⟨l, u, a, b, c, d, e⟩ := Lw h
      cases hi with
      | none => show (((rows xs).length : Nat) : Int) = _; rw [R.len]; rfl
      | some v => have b : v = (u : Int) := b; show v = ((v.toNat : Nat) : Int); omega)
    (by unfold Go.Sim.cut at h; split at h; · rename_i h0; exact h0.2.2.1
        · cases h)
    (by unfold Go.Sim.cut at h; split at h; · rename_i h0; rw [R.len]; exact h0.2.2.2
        · cases h)
    (by unfold Go.Sim.cut at h; split at h; · cases h; rw [R.map, R.map, ← List.drop_take, List.map_drop, List.map_take]
        · cases h)
theorem qS {n:Nat} {lo hi:Option Int} {p:Nat×Nat} (h:aaw n lo hi=some p):lo.getD 0=(p.1:Int)∧hi.getD (n:Nat)=(p.2:Int)∧p.1≤p.2∧p.2≤n:=by
 unfold aaw at h;split at h
 ·rename_i h0;cases h;obtain ⟨a,b,c,d⟩:=h0;refine ⟨by show _=(((lo.getD 0).toNat:Nat):Int);omega,?_,c,d⟩
  cases hi with
  |none=>rfl
  |some v=>have:0≤v:=b;show v=((v.toNat:Nat):Int);omega
 ·cases h
def RowsK.D6 (R:RowsK enc rows) {xs:List α} {lo0 n:Nat} {lo hi:Option Int} {p:Nat×Nat} (h:aaw n lo hi=some p) (hn:lo0+n≤xs.length):It E:=
 .D6 (Q:=rows xs) (lo0:=lo0) (n:=n) (lo:=lo.getD 0) (hi:=hi.getD (n:Nat)) (l:=p.1) (u:=p.2) (qS h).1 (qS h).2.1 (qS h).2.2.1 (qS h).2.2.2 (by rw[R.len];exact hn)
theorem jC {n:Int} {x:α} {zs:List α} (h:pc n x=some zs):n=(n.toNat:Int)∧n.toNat≤1000000∧zs=List.replicate n.toNat x:=by
 unfold pc at h;split at h
 ·rename_i h0;cases h;exact ⟨by omega,by omega,rfl⟩
 ·cases h
def RowsK.made (R:RowsK enc rows) {n:Int} {x:α} {zs:List α} (z:List AV) (ms:List P1) (h:pc n x=some zs) (he:apps ms z=enc x):It E:=
 .mk (n1:=n) (n2:=n) (l:=n.toNat) (m:=n.toNat) (x:=z) (Q':=rows zs) (jC h).1 (jC h).1 (Nat.le_refl _) (jC h).2.1 ms (by rw[(jC h).2.2,R.map,List.map_replicate,List.map_replicate,he])
def RowsK.aiJ (R:RowsK enc rows) {n:Int} {x:α} {zs:List α} (z:List AV) (h:pc n x=some zs):It E:=
 .mk (n1:=0) (n2:=n) (l:=0) (m:=n.toNat) (x:=z) (Q':=rows []) rfl (jC h).1 (Nat.zero_le _) (jC h).2.1 [] (by rw[R.map];rfl)
theorem zE {xs ys zs:List α} (h:cpy xs ys=some zs):xs≠ []∧zs=ys.take (min ys.length xs.length)++xs.drop (min ys.length xs.length):=by
 unfold cpy at h;split at h
 ·cases h
 ·rename_i h0;cases h;exact ⟨h0,rfl⟩
def RowsK.cpy (R:RowsK enc rows) {xs ys zs:List α} (h:cpy xs ys=some zs) (sr:Sr (rows ys)):It E:=
 .cpy (Q:=rows xs) (R:=rows ys) (Q':=rows zs) (lo:=0) (n:=xs.length) (m:=min ys.length xs.length) (by rw[R.len];omega) (by rw[R.len]) (by rw[(zE h).2,R.map,R.map,R.map];simp) (by intro hc;have:=R.len xs;rw[hc] at this;exact (zE h).1 (List.length_eq_zero_iff.1 this.symm)) (.inl rfl) sr
def RowsK.clo (R:RowsK enc rows) {xs zs:List α} {j:Nat} {x y:α} (K:Nat) (f:Nat) (q:AV) (u:AV) (h0:xs[j]? =some x) (h1:setAt xs j y=some zs) (he:cx (cx (enc x) f [u]) f [q]=enc y):It E:=
 .clo (Q:=(rows xs).set j (cx (enc x) f [u])) (R:=cx (enc x) f [u]) (f:=f) (x:=q) (Q':=rows zs) K (by
  have hj:=R.get h0;have hlt:=(List.getElem?_eq_some_iff.1 hj).1;rw[List.getElem?_set_self hlt]) (by rw[List.set_set,he,(sV h1).1,R.map,R.map,List.map_set])
def RowsK.hol (R:RowsK enc rows) {xs:List α} {j:Nat} {x:α} (f:Nat) (h0:xs[j]? =some x):It E:=.hol (f:=f) (R.get h0) rfl
def RowsK.frz (R:RowsK enc rows) (K:Nat) (xs:List α):It E:=.frz (Q:=rows xs) (n:=xs.length) K (R.len xs)
end
def hJ (n:Nat) (hi:Int):Option Nat:=if 0≤hi∧hi.toNat≤n then some hi.toNat else none
def tX (n:Nat) (lo:Int):Option Nat:=if 0≤lo∧lo.toNat≤n then some lo.toNat else none
theorem jP {n u:Nat} {hi:Int} (h:hJ n hi=some u):hi=(u:Int)∧u≤n:=by
 unfold hJ at h;split at h
 ·rename_i h0;cases h;exact ⟨by omega,h0.2⟩
 ·cases h
theorem vZ {n u:Nat} {lo:Int} (h:tX n lo=some u):lo=(u:Int)∧u≤n:=by
 unfold tX at h;split at h
 ·rename_i h0;cases h;exact ⟨by omega,h0.2⟩
 ·cases h
theorem afp {n u m:Nat} {lo:Int} (h:tX n lo=some u) (le:n≤m):0+u+(n-u)≤m:=by
 have:=(vZ h).2;omega
section
variable {α:Type} {enc:α→List AV} {rows:List α→List (List AV)} {E:Env}
def RowsK.hJ (R:RowsK enc rows) {xs:List α} {n u:Nat} {hi:Int} (h:hJ n hi=some u) (le:n≤xs.length):It E:=
 .D6 (Q:=rows xs) (lo0:=0) (n:=n) (lo:=0) (hi:=hi) (l:=0) (u:=u) rfl (jP h).1 (Nat.zero_le _) (jP h).2 (by rw[R.len];omega)
def RowsK.tX (R:RowsK enc rows) {xs:List α} {n u:Nat} {lo:Int} (h:tX n lo=some u) (le:n≤xs.length):It E:=
 .D6 (Q:=rows xs) (lo0:=0) (n:=n) (lo:=lo) (hi:=(n:Int)) (l:=u) (u:=n) (vZ h).1 rfl (vZ h).2 (Nat.le_refl _) (by rw[R.len];omega)
theorem RowsK.take (R:RowsK enc rows) (xs:List α) (u:Nat):(rows xs).take u=rows (xs.take u):=by rw[R.map,R.map,List.map_take]
theorem uS {xs:List α} {u:Nat} (h:u≤xs.length):(xs.take u).length=u:=by rw[List.length_take];omega
theorem YR {n:Int} {x:α} {zs:List α} (h:pc n x=some zs):n.toNat=zs.length:=by rw[(jC h).2.2,List.length_replicate]
theorem afq {xs ys zs:List α} (h:cpy xs ys=some zs):zs.length=xs.length:=by
 rw[(zE h).2,List.length_append,List.length_take,List.length_drop];omega
end
theorem int_eq {k:IntKind} {a b:Int} (h:(a==b)=true):AV.int k a= .int k b:=by rw[eq_of_beq h]
theorem LB {a b c:ByteArray} (h:cat a b=some c):a.size+b.size≤1000000∧a++b=c:=by
 unfold cat at h;split at h
 ·rename_i h0;cases h;exact ⟨h0,rfl⟩
 ·cases h
theorem fc {s:ByteArray} {i:Int} {c:UInt8} (h:vB s i=some c):jJ s.data.toList i=some c:=h
theorem JO {a b c:Int} (h:rem a b=some c):b≠0∧a.tmod b=c:=by
 unfold rem at h;split at h
 ·cases h
 ·rename_i h0;cases h;exact ⟨h0,rfl⟩
def jF {β:Type} (f:β→AV) (m:List (ByteArray×β)):List (AV×AV):=m.map fun p=>(.str p.1,f p.2)
theorem ES {β:Type} {f:β→AV} {k:ByteArray} {d:β}:∀m:List (ByteArray×β),∃r,g5 (.str k) (jF f m)=some r∧vN false (some (f d)) r=some (f (fA m k d))
 | []=>⟨none,rfl,rfl⟩
 |p::m=>by
  obtain ⟨r,h1,h2⟩:=ES (f:=f) (k:=k) (d:=d) m;have step:g5 (.str k) (jF f (p::m))=(match some (decide (k=p.1)) with
   |some true=>some (some (0,f p.2))
   |some false=>(match g5 (.str k) (jF f m) with|some (some q)=>some (some (q.1+1,q.2))|r=>r)
   |none=>none):=rfl
  by_cases hk:k=p.1
  ·refine ⟨some (0,f p.2),by rw[step];simp[hk],?_⟩
   show some (f p.2)=some (f (fA (p::m) k d));unfold fA;rw[if_pos hk]
  ·have hg:fA (p::m) k d=fA m k d:=by rw[fA,if_neg hk]
   rw[hg];cases r with
   |none=>exact ⟨none,by rw[step];simp[hk,h1],h2⟩
   |some q=>exact ⟨some (q.1+1,q.2),by rw[step];simp[hk,h1],h2⟩
theorem lG {β:Type} {f:β→AV} {k:ByteArray} {v:β}:∀m:List (ByteArray×β),∃r,g5 (.str k) (jF f m)=some r∧CA (jF f m) (.str k) (f v) r=jF f (fM m k v)
 | []=>⟨none,rfl,rfl⟩
 |p::m=>by
  obtain ⟨r,h1,h2⟩:=lG (f:=f) (k:=k) (v:=v) m;have step:g5 (.str k) (jF f (p::m))=(match some (decide (k=p.1)) with
   |some true=>some (some (0,f p.2))
   |some false=>(match g5 (.str k) (jF f m) with|some (some q)=>some (some (q.1+1,q.2))|r=>r)
   |none=>none):=rfl
  by_cases hk:k=p.1
  ·refine ⟨some (0,f p.2),by rw[step];simp[hk],?_⟩
   unfold fM;rw[if_pos hk];rfl
  ·have hg:fM (p::m) k v=p::fM m k v:=by rw[fM,if_neg hk]
   rw[hg];have hc:jF f (p::fM m k v)=(.str p.1,f p.2)::jF f (fM m k v):=rfl;have hc2:jF f (p::m)=(.str p.1,f p.2)::jF f m:=rfl;cases r with
   |none=>exact ⟨none,by rw[step];simp[hk,h1],by rw[hc,←h2,hc2];rfl⟩
   |some q=>exact ⟨some (q.1+1,q.2),by rw[step];simp[hk,h1],by rw[hc,←h2,hc2];rfl⟩
theorem gC {k:ByteArray} {d b:Bool} {m:List (ByteArray×Bool)} (h:fA m k d=b):∃r,g5 (.str k) (jF AV.bool m)=some r∧vN false (some (.bool d)) r=some (.bool b):=h ▸ ES m
theorem bW.cast {E:Env} {f:Nat} {bs bs':List (Nat×Bx)} {xs:List AV} {y y':AV} (h:bW E f bs xs y bs') (e:y=y'):bW E f bs xs y' bs':=e ▸ h
theorem NO {E:Env} {f:Nat} {bs bs':List (Nat×Bx)} {xs:List AV} {a b:Bool} (h:bW E f bs xs (.bool a) bs') (e:a=b):bW E f bs xs (.bool b) bs':=e ▸ h
theorem bW.dat {E:Env} {f K s n:Nat} {z:Bool} {e:TypeId} {Q:List (List AV)} {bs bs':List (Nat×Bx)} {xs:List AV} (h:bW E f bs xs (.ms K s 0 n) bs') (hl:lk K bs'=some (.rows z e s Q)) (hn:lk K bs=none) (hq:Q.length=n) (hb:rz K bs'= []):
  bW E f bs xs (sel z (.sln e s Q) (.slice e s Q)) ((cT K bs').map fun p=>(p.1,Bx.frz K (sel z (.sln e s Q) (.slice e s Q)) (fun _=>.undef) p.2)):=.mk fun {F g φ hh as} ent has=>by
 subst hq;obtain ⟨F',g',φ',h1,v,go,hv,r⟩:=h.go ent has;have hp:(Lp F g φ bs hh).pk K=false:=by show (lk K bs).isSome=false;rw[hn];rfl
 have ed:(sel z (.sln e s Q) (.slice e s Q):AV)=pR (.rows z e s Q):=by cases z<;>rfl
 have r0:=r.put (d:=0) (v:=v) (x:=.ms K s 0 Q.length) (tm':=fun t=>if t=0 then some v else none) (fun t=>rfl) fun _=>hv
 obtain ⟨F2,hF,r2⟩:=r0.frz (K:=K) (b:=.rows z e s Q) (D:=pR (.rows z e s Q)) (L:=fun _=>.undef) (sz:=s) (m:=Q.length) hl hp (fun q hq=>by
  rcases List.mem_append.1 hq with hq|hq
  ·have hq:q∈sel (Nat.beq K K) (sel (Nat.beq 0 0) [(s,Q.length)] []) []++ []:=hq;rw[show Nat.beq K K=true from (beq_iff _ _).2 rfl] at hq;have hq:q∈ [(s,Q.length)]:=by simpa using hq
   simpa using hq
  ·have hq:q∈rz K bs':=hq;rw[hb] at hq;cases hq) fun F' hF hi q=>⟨hF,(xc hF rfl hi q).ms,fun v off _=>.undef v⟩
 have hne:pR (.rows z e s Q)≠ .undef:=by cases z<;>(intro hc;cases hc)
 have e0:vL K (pR (.rows z e s Q)) (fun _=>.undef) (.ms K s 0 Q.length)=pR (.rows z e s Q):=by
  show sel (Nat.beq K K) (sel (Nat.beq 0 0) _ _) _=_;rw[show Nat.beq K K=true from (beq_iff _ _).2 rfl];rfl
 obtain ⟨v',v1,v2⟩:=r2.tm 0 _ (show lk 0 [((0:Nat),vL K (pR (.rows z e s Q)) (fun _=>.undef) (.ms K s 0 Q.length))]=some _ from by rw[bp,if_pos rfl]) (by rw[e0];exact hne)
 have ev:v=v':=by simpa using v1
 subst ev;rw[e0] at v2;refine ⟨F2,g',φ',h1,v,go,by rw[ed];exact v2,?_⟩
 rw[ed];exact {r2 with tm:=fun t x hx _=>(by cases hx)}
theorem bW.done {E:Env} {k:Nat} {v:SV} {y:AV} (hd:qQ k E.done=some v) (hv:∀F g,VA F g v y):bW E k [] [] y []:=.mk fun {F g φ h as} ent has=>by
 cases has;exact ⟨F,g,φ,⟨h.hp,h.nx,[]⟩,v,bB.done hd,hv F g,ent⟩
theorem bW.cmp {E:Env} {k:Nat} {fn:Func} {a b:ByteArray} (hg:E.fn.get k=some fn) (hb:fn.body=none) (hn:(fn.name== "internal/bytealg.abigen_runtime_cmpstring")=true) (hm:E.fL= []) (hs:E.stop= []) (ht:E.jv= []):bW E k [] [.str a,.str b] (.int .i64 (p9 a b)) []:=.mk fun {F g φ h as} ent has=>by
 cases has with|cons h1 t1=>
 cases t1 with|cons h2 t2=>
 cases t2;cases h1;cases h2;refine ⟨F,g,φ,⟨h.hp,h.nx,[]⟩,.int .i64 (.lit (p9 a b)),?_,.int _ _,ent⟩;refine .step ⟨0,fun n _=> ?_⟩
 show @Option.rec Mo (fun _=>Out) (sel (cz k E.stop) (.g8 k [.str a,.str b] h) (sel (gn E k [.str a,.str b]) (.res (.tup []) h) (tI E (run E n) k (E.fn.get k) [.str a,.str b] h))) (fun m=>.res m.v (qJ m h)) (jL k [.str a,.str b] h E.fL)=_
 rw[hm];show sel (cz k E.stop) (.g8 k [.str a,.str b] h) (sel (gn E k [.str a,.str b]) (.res (.tup []) h) (tI E (run E n) k (E.fn.get k) [.str a,.str b] h))=_;rw[hs,hg];have et:gn E k [.str a,.str b]=false:=by
  unfold gn;split
  ·rw[ht];rfl
  ·rfl
 rw[et];show @Option.rec Code (fun _=>Out) (Le fn [.str a,.str b] h) _ fn.body=_
 rw[hb];show sel (fn.name== "internal/bytealg.abigen_runtime_cmpstring") (Out.res (.int .i64 (.lit (p9 a b))) h) (Out.fail fn.name)=_;rw[hn];rfl
theorem NN {E:Env} {X:Fx E} {f:Nat} {bs bs':List (Nat×Bx)} {xs:List AV} {y:AV} {s:LS} (hk:xu E f X.fn X.code) (hn:Nat.ble xs.length X.fn.ntmps=true) (hp:pE bs=X.pks) (hs:(⟨oC 0 xs,bs⟩:LS)=s) (h:At X [] s y bs'):bW E f bs xs y bs':=RV hk hn hp (hs ▸ h)
end
section
variable {F F':Hf} {g g':Gb} {E:Env}
mutual
def qA:AV→Bool
 | .slice _ _ _=>false
 | .sln _ _ _=>false
 | .imm _=>false
 | .agg cs=>eT cs
 | .tup vs=>eT vs
 | .fn _ a c=>eT a&&eT c
 | .ifc _ x=>qA x
 |_=>true
def eT:List AV→Bool
 | []=>true
 |x::l=>qA x&&eT l
end
mutual
theorem VA.rQ:∀{x:AV} {v:SV},VA F g v x→qA x=true→VA F' g v x
 | .slice _ _ _,_,_,h=>by cases h
 | .sln _ _ _,_,_,h=>by cases h
 | .imm _,_,_,h=>by cases h
 | .agg cs,_,hv,h=>by cases hv with|agg q=>exact .agg (VAs.rQ q h)
 | .tup cs,_,hv,h=>by cases hv with|tup q=>exact .tup (VAs.rQ q h)
 | .fn i a c,_,hv,h=>by
  have h:(eT a&&eT c)=true:=h;rw[Bool.and_eq_true] at h;cases hv with|fn _ h1 h2=>exact .fn i (VAs.rQ h1 h.1) (VAs.rQ h2 h.2)
 | .ifc t x,_,hv,h=>by cases hv with|ifc _ q=>exact .ifc t (VA.rQ q h)
 | .bool _,_,hv,_=>by cases hv;exact .bool _
 | .int _ _,_,hv,_=>by cases hv;exact .int _ _
 | .str _,_,hv,_=>by cases hv;exact .str _
 | .aY,_,hv,_=>by cases hv;exact .aY
 | .cF,_,hv,_=>by cases hv;exact .cF
 | .cG,_,hv,_=>by cases hv;exact .cG
 | .cP,_,hv,_=>by cases hv;exact .cP
 | .cq,_,hv,_=>by cases hv;exact .cq
 | .loc _ _,_,hv,_=>by cases hv;exact .loc _ _
 | .el _ _ _ _,_,hv,_=>by cases hv with|el _ _ _ hb=>exact .el _ _ _ hb
 | .ms _ _ _ _,_,hv,_=>by
  cases hv with
  |msN _ hb=>exact .msN _ hb
  |ms _ _ _ hb=>exact .ms _ _ _ hb
  |msE _ _ hl=>exact .msE _ _ hl
 | .mp _,_,hv,_=>by cases hv;exact .mp _
 | .it _,_,hv,_=>by cases hv;exact .it _
 | .undef,v,_,_=>.undef v
theorem VAs.rQ:∀{xs:List AV} {vs:List SV},VAs F g vs xs→eT xs=true→VAs F' g vs xs
 | [],_,hv,_=>by cases hv;exact .nil
 |x::l,_,hv,h=>by
  have h:(qA x&&eT l)=true:=h;rw[Bool.and_eq_true] at h;cases hv with|cons a b=>exact .cons (VA.rQ a h.1) (VAs.rQ b h.2)
end
theorem yA:∀{Q:List (List AV)},(∀r∈Q,eT r=true)→eT Q.flatten=true
 | [],_=>rfl
 |r::Q,h=>by
  have ap:∀{a b:List AV},eT a=true→eT b=true→eT (a++b)=true:=fun {a}=>by
   induction a with
   |nil=>exact fun _ h=>h
   |cons x l ih=>
    intro b h1 h2;have h1:(qA x&&eT l)=true:=h1;rw[Bool.and_eq_true] at h1;show (qA x&&eT (l++b))=true;rw[Bool.and_eq_true];exact ⟨h1.1,ih h1.2 h2⟩
  exact ap (h r (by simp)) (yA fun r hr=>h r (by simp[hr]))
theorem RowsK.qA {α:Type} {enc:α→List AV} {rows:List α→List (List AV)} (R:RowsK enc rows) (h:∀x,eT (enc x)=true) (xs:List α):∀r∈rows xs,eT r=true:=by
 rw[R.map];intro r hr;obtain ⟨x,_,e⟩:=List.mem_map.1 hr;rw[←e];exact h x
theorem bW.lend {f k s n RK s' n':Nat} {z z':Bool} {e e':TypeId} {Q Q':List (List AV)} {xs xs0:List AV} (h:bW E f [] xs0 (.ms RK s' 0 n') [(RK,.rows z' e' s' Q')]) (hx:oq k (sel z (.sln e s Q) (.slice e s Q)) (fun _=>.undef) xs=xs0) (hq:Q.length=n) (ho:qw k xs= [(s,n)]) (hne:Nat.beq RK k=false) (hd:∀r∈Q',eT r=true):
  bW E f [(k,.rows z e s Q)] xs (.ms RK s' 0 n') [(k,.rows z e s Q),(RK,.rows z' e' s' Q')]:=.mk fun {F g φ hh as} ent has=>by
 subst hq;subst hx;have hne:RK≠k:=fun e=>by rw[(beq_iff _ _).2 e] at hne;cases hne
 have hb:lk k [(k,Bx.rows z e s Q)]=some (.rows z e s Q):=by rw[bp,if_pos rfl]
 have ZP:=ent.bx k _ hb;let F1:Hf:=fun i=>if i∈φ k then hh.hp.get i else F i
 have nf:∀i∈φ k,F i=none:=ent.nf k _ hb;have hF:Hle F F1:=fun id o hi=>by
  show (if id∈φ k then hh.hp.get id else F id)=some o
  split
  ·exact ent.sub id o hi
  ·exact hi
 have nM:Hle F1 hh.hp.get:=fun id o hi=>by
  have hi:(if id∈φ k then hh.hp.get id else F id)=some o:=hi
  split at hi
  ·exact hi
  ·exact ent.sub id o hi
 have ed:(sel z (.sln e s Q) (.slice e s Q):AV)=pR (.rows z e s Q):=by cases z<;>rfl
 have zv:Mu F F1 g k (sel z (.sln e s Q) (.slice e s Q)) (fun _=>.undef) s Q.length:=by
  rw[ed];have:=xc (F:=F) (F':=F1) (g:=g) (hp:=hh.hp.get) (K:=k) (b:=.rows z e s Q) (fp:=φ k) hF rfl (fun i hi=>if_pos hi) ZP
  exact ⟨hF,this.ms,fun v off _=>.undef v⟩
 have ent1:Ent F1 g φ [] hh:=by
  refine ⟨fun t x hx=>(by cases hx),fun k b hb=>(by cases hb),fun k k' b b' hb=>(by cases hb),fun k b hb=>(by cases hb),nM,ent.bd,Nat.le_refl _,fun x _ _=>rfl,Hle.refl _,fun id o hi=>.inl hi,fun k b hb=>(by cases hb),fun x hx=>(by cases hx),fun k hk=> ?_⟩
  have:(lk k ([]:List (Nat×Bx))).isSome=true:=hk;cases this
 have has1:VAs F1 g as (oq k (sel z (.sln e s Q) (.slice e s Q)) (fun _=>.undef) xs):=VAs.frz zv has fun q hq=>by
  rw[ho] at hq;simpa using hq
 obtain ⟨F2,g2,φ2,h1,v,go,hv,r⟩:=h.go ent1 has1;have hRK:lk RK [(RK,Bx.rows z' e' s' Q')]=some (.rows z' e' s' Q'):=by rw[bp,if_pos rfl]
 have q2:=r.bx RK _ hRK;have Qm:∀i∈φ2 RK,hh.nx≤i:=fun i hi=>(r.iY RK _ hRK i hi).elim (fun c=>by
  have:(lk RK ([]:List (Nat×Bx))).isSome=true:=c.1;cases this) fun c=>c
 have Y9:∀i∈φ k,i<hh.nx:=fun i hi=>by
  by_cases hlt:i<hh.nx
  ·exact hlt
  ·exact absurd (ent.bd i (show hh.nx≤i by omega)) (ZP.there i hi)
 have k9:∀x,x<hh.nx→h1.hp.get x=hh.hp.get x:=fun x hx=>r.old x hx fun k' hp=>by
  have:(lk k' ([]:List (Nat×Bx))).isSome=true:=hp.1;cases this
 let g3:Gb:=⟨fun j=>if j=k then g.ρ j else g2.ρ j,fun j=>if j=k then g.κ j else g2.κ j,fun j=>if j=k then g.β j else g2.β j⟩
 have g3k:g7 g g3 [k]:=fun j hj=>by
  have e:j=k:=by simpa using hj
  exact ⟨if_pos e,if_pos e,if_pos e⟩
 have g3o:g7 g2 g3 [RK]:=fun j hj=>by
  have e:j≠k:=by rw[show j=RK by simpa using hj];exact hne
  exact ⟨if_neg e,if_neg e,if_neg e⟩
 have lks:∀{j b},lk j [(k,Bx.rows z e s Q),(RK,Bx.rows z' e' s' Q')]=some b→(j=k∧b= .rows z e s Q)∨(j=RK∧j≠k∧b= .rows z' e' s' Q'):=fun {j b} hj=>by
  rw[bp,bp] at hj;split at hj
  ·cases hj;exact .inl ⟨by assumption,rfl⟩
  ·split at hj
   ·cases hj;exact .inr ⟨by assumption,by assumption,rfl⟩
   ·cases hj
 have sub2:Hle F h1.hp.get:=fun id o hi=>r.sub id o (r.f0 id o (hF id o hi))
 have flt:∀i o,F i=some o→i<hh.nx:=fun i o hi=>by
  by_cases hlt:i<hh.nx
  ·exact hlt
  ·have:=ent.sub i o hi;rw[ent.bd i (show hh.nx≤i by omega)] at this;cases this
 refine ⟨F,g3,fun j=>if j=k then φ k else φ2 j,h1,v,go,?_,?_⟩
 ·exact (hv.rQ rfl).gb (fun j hj=>g3o j (by simpa[ct] using hj))
 ·refine ⟨fun t x hx=>(by cases hx),fun j b hj=> ?_,fun j j' b b' hj hj' hjj i hi=> ?_,fun j b hj i hi=> ?_,sub2,r.bd,r.nx,fun x hx _=>k9 x hx,Hle.refl _,fun id o hi=>.inl hi,fun j b hj i hi=> ?_,fun x hx=> ?_,fun j hj=> ?_⟩
  ·rcases lks hj with ⟨rfl,rfl⟩|⟨rfl,hjk,rfl⟩
   ·rw[if_pos rfl];exact dw.k9 (Hle.refl F) (ZP.gb g3k (fun _ hc=>by cases hc)) fun i hi=>k9 i (Y9 i hi)
   ·rw[if_neg hjk];have:dw F g2 h1.hp.get j (.rows z' e' s' Q') (φ2 j):=by
     generalize φ2 j=fp at q2 ⊢;cases q2 with
     |dg hb0=>exact .dg hb0
     |rows hb0 hh0 hz hu hc q=>exact .rows hb0 hh0 hz hu hc (VAs.rQ q (yA hd))
    exact this.gb g3o (fun _ hc=>by cases hc)
  ·rcases lks hj with ⟨rfl,rfl⟩|⟨rfl,hjk,rfl⟩<;>rcases lks hj' with ⟨rfl,rfl⟩|⟨rfl,hjk',rfl⟩
   ·exact absurd rfl hjj
   ·rw[if_pos rfl] at hi;rw[if_neg hjk'];exact fun hc=>by have:=Qm i hc;have:=Y9 i hi;omega
   ·rw[if_neg hjk] at hi;rw[if_pos rfl];exact fun hc=>by have:=Qm i hi;have:=Y9 i hc;omega
   ·exact absurd rfl hjj
  ·rcases lks hj with ⟨rfl,rfl⟩|⟨rfl,hjk,rfl⟩
   ·rw[if_pos rfl] at hi;exact nf i hi
   ·rw[if_neg hjk] at hi;cases hf:F i with
    |none=>rfl
    |some o=>have:=flt i o hf;have:=Qm i hi;omega
  ·rcases lks hj with ⟨rfl,rfl⟩|⟨rfl,hjk,rfl⟩
   ·rw[if_pos rfl] at hi;exact .inl ⟨by show (lk j [(j,Bx.rows z e s Q)]).isSome=true;rw[hb];rfl,hi⟩
   ·rw[if_neg hjk] at hi;exact .inr (Qm i hi)
  ·rcases r.lg x hx with ⟨k',hp⟩|hp
   ·have:(lk k' ([]:List (Nat×Bx))).isSome=true:=hp.1;cases this
   ·exact .inr hp
  ·have hj:(lk j [(k,Bx.rows z e s Q)]).isSome=true:=hj;rw[bp] at hj;split at hj
   ·rename_i e;rw[e];exact g3k
   ·cases hj
end
end Go.Sim
namespace Go.Sim
open Go.RowKit
section
def img (nb:Nat):Value→SV
 | .bool b=>.bool b
 | .int k n=>.int k (.lit n)
 | .string s=>.str s
 | .slice a n c=>
  if n=0 then (if a=none∧c=0 then .aY else .sle)
  else (match a with
   |some ⟨b,o,none⟩=>if b<nb∧n≤c then .sl b o n (.k c) else .undef
   |_=>.undef)
 |_=>.undef
def KB (nb:Nat):Value→SV
 | .agg cs=>.agg (cs.toList.map (img nb))
 |v=>img nb v
def QW (nb:Nat):Obj→Option SO
 | .cells cur _ _=>some (.ro (cur.toList.map (img nb)))
 |_=>none
def mir (nb:Nat):List Obj→Nat→Hp
 | [],_=>.nil
 |o::l,i=>(mir nb l (i+1)).set i (QW nb o)
def jD (W:World):Hp:=mir W.heap.size W.heap.toList 0
def gW (P:Program) (W:World):Gh:=⟨fun _=>0,P.cellsOf,fun id=>if id<W.heap.size then some (id,0) else none,fun _=>0,fun _=>0,fun b=>W.heap[b]?⟩
theorem O1 (nb:Nat):∀(l:List Obj) (i x:Nat),(mir nb l i).get x=if x<i then none else (l[x-i]?).bind (QW nb)
 | [],i,x=>by show (Tr.nil:Hp).get x=_;simp;rfl
 |o::l,i,x=>by
  show ((mir nb l (i+1)).set i (QW nb o)).get x=_;rw[Tr.bU];by_cases hx:x=i
  ·subst hx;simp
  ·rw[if_neg hx,O1 nb l (i+1) x];by_cases hlt:x<i
   ·rw[if_pos hlt,if_pos (by omega)]
   ·rw[if_neg hlt,if_neg (by omega),show x-i=(x-(i+1))+1 by omega,List.getElem?_cons_succ]
theorem th (W:World) (x:Nat):(jD W).get x=(W.heap[x]?).bind (QW W.heap.size):=by
 unfold jD;rw[O1];simp
variable {P:Program} {W:World}
theorem KA (v:Value):VR (gW P W) v (img W.heap.size v):=by
 unfold img;split
 ·exact .bool _
 ·exact .int _ _ rfl
 ·exact .str _
 ·rename_i a n c;split
  ·rename_i hn;subst hn;split
   ·rename_i h;obtain ⟨rfl,rfl⟩:=h;exact .aY
   ·exact .sle
  ·split
   ·rename_i b o;split
    ·rename_i h;have:=VR.sl (g:=gW P W) (id:=b) (off:=o) (n:=n) (b:=b) (o:=0) (c:=c) (cap:=.k c) (by show (if b<W.heap.size then some (b,0) else none)=_;rw[if_pos h.1]) h.2 (fun m hm=>by cases hm;rfl) (fun e he=>by cases he)
     rwa[Nat.zero_add] at this
    ·exact .undef _
   ·exact .undef _
 ·exact .undef _
theorem O4 {nb:Nat} {v:Value} (h:isU (img nb v)=false):v.oneCell'=true:=by
 cases v<;>first|rfl|(cases h;done)
theorem agv:HR (gW P W) (jD W).get W:=by
 refine ⟨fun id o ho=> ?_,fun i j x y b c d hx hy h1 h2=> ?_⟩
 ·rw[th] at ho;cases hb:W.heap[id]? with
  |none=>rw[hb] at ho;cases ho
  |some ob=>
   have hlt:id<W.heap.size:=(Array.getElem?_eq_some_iff.1 hb).1;refine ⟨id,0,if_pos hlt,hlt,?_⟩;rw[hb] at ho;cases ob with
   |cells cur e fz=>
    cases ho;refine ⟨cur,e,fz,hb,hb,fun j x hx=> ?_⟩
    rw[List.getElem?_map] at hx;cases hv:cur.toList[j]? with
    |none=>rw[hv] at hx;cases hx
    |some v=>
     rw[hv] at hx;cases hx;exact ⟨v,by rw[Nat.zero_add];simpa using hv,fun hu=>⟨O4 hu,KA v⟩⟩
   |_=>cases ho
 ·have k1:(if i<W.heap.size then some (i,0) else none)=some (b,c):=h1
  have k2:(if j<W.heap.size then some (j,0) else none)=some (b,d):=h2
  split at k1
  ·split at k2
   ·cases k1;cases k2;rfl
   ·cases k2
  ·cases k1
variable {E:Env} {g:Gh} {w:World}
theorem PU (hS:jk E) {n:Nat} {k:FuncId} {as:List SV} {v:SV} {h h':Hs} (hb:Bd h) (ea:run E n (.call (.fn (.func k) [] []) as h)= .bM [⟨false,v,h'⟩]) (hgo:tG E (.fn (.func k) [] [])=true) (hE:bu E g) (hr:HR g h.hp.get w) (hfr:∀x,h.nx≤x→g.ρ x=none)
  {us:List Value} (hus:VRs g us as) (m:Nat):CallsIn Fence.wide m E.P k us.toArray w fun e w'=>∃r g',e= .returned r∧VR g' r v∧HR g' h'.hp.get w'∧Fr g h.hp.get w g' h'.hp.get w':=by
 have hs:=u0 hS n (.call (.fn (.func k) [] []) as h);rw[ea] at hs;obtain ⟨_,_,sem⟩:=(show Bd h→_ from hs) hb;obtain ⟨k',fi,ca,fn,e1,hfn,fD⟩:=qP hgo;cases e1;obtain ⟨d,hd1,hd2⟩:=sem.one m g w (.func (.func k) #[] #[]) us hE hr hfr (.fn .nil .nil) hus;have hd:d={target:=.fn (.func k) #[],args:= #[]++us.toArray}:=by
  rw[py] at hd1;cases hd1;rfl
 subst hd;have oj:∀(args:Array Value) (w:World),(invoke (.fn (.func k) #[]) args).run E.P w=(callFunc k (args++ #[])).run E.P w:=fun _ _=>rfl
 rcases fU (hS.fn k fn hfn).1 fD (#[]++us.toArray++ #[]) w with ⟨hc,_⟩|hc
 ·rcases hd2 with ⟨k',as',q1,q2⟩|⟨l,k',t',as',b',q1,_⟩|⟨r,w',q1,_⟩<;>(rw[oj,hc] at q1;cases q1)
 ·rcases hd2 with ⟨k',as',q1,q2⟩|⟨l,k',t',as',b',q1,_⟩|⟨r,w',q1,_⟩
  ·rw[oj,hc] at q1;cases q1;have e: #[]++us.toArray++ #[]=us.toArray:=by simp
   rw[e] at q2;refine CallsIn.mono q2 ?_;rintro e w' ⟨r,rfl,g',h1,h2,h3,_,_⟩;exact ⟨r,g',rfl,h1,h2,h3⟩
  ·rw[oj,hc] at q1;cases q1
  ·rw[oj,hc] at q1;cases q1
theorem RU {E:Env} (hS:jk E) (hE:bu E (gW E.P W)) {f:FuncId} {xs:List AV} {b:Bool} (hc:bW E f [] xs (.bool b) []) (hgo:tG E (.fn (.func f) [] [])=true)
  {us:List Value} {as:List SV} (hx:VAs (jD W).get .no as xs) (hus:VRs (gW E.P W) us as):Calls E.P f us.toArray W fun e W'=>e= .returned (.bool b)∧Below W.heap.size W W':=by
 let h:Hs:=⟨jD W,W.heap.size,[]⟩;have hbd:Bd h:=fun x hx=>by
  show (jD W).get x=none;rw[th,Array.getElem?_eq_none hx];rfl
 have hent:Ent (jD W).get .no (fun _=> []) [] h:=by
  refine ⟨fun t x hx=>(by cases hx),fun k b hb=>(by cases hb),fun k k' b b' hb=>(by cases hb),fun k b hb=>(by cases hb),Hle.refl _,hbd,Nat.le_refl _,fun _ _ _=>rfl,Hle.refl _,fun _ _ h=>.inl h,fun k b hb=>(by cases hb),fun x hx=>(by cases hx),fun k hk=>(by cases hk)⟩
 obtain ⟨F',g',φ',h1,v,⟨n0,aiY⟩,hv,hrel⟩:=hc.go hent hx;have:=callsIn_wide.1 (PU hS hbd (aiY n0 (Nat.le_refl _)) hgo hE agv (fun x hx=>if_neg (Nat.not_lt.2 hx)) hus 0)
 refine this.mono ?_;rintro e W' ⟨r,g2,rfl,k1,k2,k3⟩;cases hv;cases k1;refine ⟨rfl,k3.os,k3.tape,k3.output,k3.size,fun x hx=> ?_⟩
 have hold:h1.hp.get x=(jD W).get x:=hrel.old x hx fun k hk=>by cases hk.1
 cases hm:(jD W).get x with
 |none=>
  refine k3.old x hx fun ⟨id,o,c,z1,z2⟩=> ?_
  have z2:(if id<W.heap.size then some (id,0) else none)=some (x,c):=z2
  split at z2
  ·cases z2;have z1:(jD W).get x=some o:=z1;rw[hm] at z1;cases z1
  ·cases z2
 |some o=>
  rw[hm] at hold;obtain ⟨b',c',y1,y2,y3⟩:=k2.ob x o hold;have y0:g2.ρ x=some (x,0):=k3.le.ρ x (x,0) (if_pos hx);rw[y0] at y1;cases y1;rw[th] at hm;cases hb:W.heap[x]? with
  |none=>rw[hb] at hm;cases hm
  |some ob=>
   rw[hb] at hm;cases ob with
   |cells cur e fz=>
    cases hm;obtain ⟨cur',e',fz',w1,w2,_⟩:=y3;have w3:g2.wb x=W.heap[x]? :=congrFun k3.le.wb x;rw[w1,←w2,w3,hb]
   |_=>cases hm
end
end Go.Sim
namespace Go.Sim
section
def m1A (x:AV):P1:=match x with
 | .slice e s _=>.sl e s
 | .sln e s _=>.sn e s
 | .undef=>.un
 |_=>.same
def pmA (x:AV):PM:=match x with
 | .agg l=>.agg (l.map m1A)
 |x=>.one (m1A x)
def pbA (b:Bx):PB:=match b with
 | .flat _ l=>.flat (l.map m1A)
 | .rows z _ _ _=>sel z .same .any
 |_=>.same
def TA (p:List Nat) (s:LS):qZ:= [(p,s.ts.map fun q=>(q.1,pmA q.2),s.bs.map fun q=>(q.1,pbA q.2))]
variable {E:Env} {X:Fx E} {p p':List Nat} {s s':LS} {y:AV} {bs':List (Nat×Bx)} {α β R:Type}
theorem ra (k:At X p' s' y bs') (sc:Sc E) (h:JE (qq X (TA p' s') p s sc)=JF (.at p' s') (qq X (TA p' s') p s sc):=by kernel_rfl):At X p s y bs':=age h k
theorem rr {f:α→AV} {g:α→List (Nat×Bx)} {v r:α} (h:some v=some r) (sc:Sc E) (e:JE (qq X [] p s sc)=JF (.ret (f v) (g v)) (qq X [] p s sc):=by kernel_rfl):At X p s (f r) (g r):=by
 cases h;exact aeH e
theorem be {x:Option β} {f:β→Option α} {r:α} {G:Prop} (h:x.bind f=some r) (k:∀y,x=some y→f y=some r→G):G:=XO h k
theorem ie {b:Bool} {x y:Option α} {r:α} {G:Prop} (h:(if b=true then x else y)=some r) (k1:b=true→x=some r→G) (k2:b=false→y=some r→G):G:=Zx h k1 k2
theorem nz {r:α} {G:Prop} (h:none=some r):G:=by cases h
def fx (E:Env) (fn:Func) (pks outs:List Nat):Fx E:=⟨fn,fn.body.getD .skip,pks,outs⟩
def Cx (E:Env) (k:Nat) (f:R→AV) (g:R→List (Nat×Bx)) (s:LS) (r:R):Prop:=bW E k s.bs (s.ts.map (·.2)) (f r) (g r)
theorem ca {k:Nat} {r:R} {f:R→AV} {g:R→List (Nat×Bx)} (h:At X [] s (f r) (g r)) (h1:E.fn.get k=some X.fn:=by kernel_rfl) (h2:X.fn.body=some X.code:=by kernel_rfl) (h3:nn X.fn.name=false:=by kernel_rfl) (h4:qQ k E.done=none:=by kernel_rfl)
  (h5:E.fL= []:=by rfl) (h6:E.stop= []:=by rfl) (h7:E.jv= []:=by rfl) (h8:E.join= []:=by rfl) (h9:Nat.ble (s.ts.map (·.2)).length X.fn.ntmps=true:=by kernel_rfl) (h10:pE s.bs=X.pks:=by kernel_rfl) (h11:(⟨oC 0 (s.ts.map (·.2)),s.bs⟩:LS)=s:=by kernel_rfl):Cx E k f g s r:=
 NN ⟨h1,h2,h3,h4,h5,h6,h7,h8⟩ h9 h10 h11 h
abbrev eb {a b:Bool} (h:a=b):It E:=.eqv (congrArg AV.bool h)
abbrev en {k:IntKind} {a b:Int} (h:(a==b)=true):It E:=.eqv (int_eq (k:=k) h)
theorem cb {f:Nat} {bs bs':List (Nat×Bx)} {xs:List AV} {a b:Bool} (h:bW E f bs xs (.bool a) bs') (e:a=b):bW E f bs xs (.bool b) bs':=NO h e
theorem ci {f:Nat} {k:IntKind} {bs bs':List (Nat×Bx)} {xs:List AV} {a b:Int} (h:bW E f bs xs (.int k a) bs') (e:(a==b)=true):bW E f bs xs (.int k b) bs':=h.cast (int_eq e)
def Ax (X:Fx E) (f:R→AV) (g:R→List (Nat×Bx)) (p:List Nat) (s:LS) (r:R):Prop:=At X p s (f r) (g r)
theorem cd {f K s n:Nat} {z:Bool} {e:TypeId} {Q:List (List AV)} {bs bs':List (Nat×Bx)} {xs:List AV} (h:bW E f bs xs (.ms K s 0 n) bs') (hq:Q.length=n) (hl:lk K bs'=some (.rows z e s Q):=by kernel_rfl) (hn:lk K bs=none:=by kernel_rfl) (hb:rz K bs'= []:=by kernel_rfl):
  bW E f bs xs (sel z (.sln e s Q) (.slice e s Q)) ((cT K bs').map fun p=>(p.1,Bx.frz K (sel z (.sln e s Q) (.slice e s Q)) (fun _=>.undef) p.2)):=h.dat hl hn hq hb
def K0 (A:LS→R→Prop) (s:LS) (k:Option R):Prop:=∀ ⦃r:R⦄,k=some r→A (s) r
def K1 {T0:Type} (A:LS→R→Prop) (s:T0→LS) (k:T0→Option R):Prop:=∀ ⦃a0:T0⦄ ⦃r:R⦄,k a0=some r→A (s a0) r
def K2 {T0 T1:Type} (A:LS→R→Prop) (s:T0→T1→LS) (k:T0→T1→Option R):Prop:=∀ ⦃a0:T0⦄ ⦃a1:T1⦄ ⦃r:R⦄,k a0 a1=some r→A (s a0 a1) r
def K3 {T0 T1 T2:Type} (A:LS→R→Prop) (s:T0→T1→T2→LS) (k:T0→T1→T2→Option R):Prop:=∀ ⦃a0:T0⦄ ⦃a1:T1⦄ ⦃a2:T2⦄ ⦃r:R⦄,k a0 a1 a2=some r→A (s a0 a1 a2) r
def K4 {T0 T1 T2 T3:Type} (A:LS→R→Prop) (s:T0→T1→T2→T3→LS) (k:T0→T1→T2→T3→Option R):Prop:=∀ ⦃a0:T0⦄ ⦃a1:T1⦄ ⦃a2:T2⦄ ⦃a3:T3⦄ ⦃r:R⦄,k a0 a1 a2 a3=some r→A (s a0 a1 a2 a3) r
def K5 {T0 T1 T2 T3 T4:Type} (A:LS→R→Prop) (s:T0→T1→T2→T3→T4→LS) (k:T0→T1→T2→T3→T4→Option R):Prop:=∀ ⦃a0:T0⦄ ⦃a1:T1⦄ ⦃a2:T2⦄ ⦃a3:T3⦄ ⦃a4:T4⦄ ⦃r:R⦄,k a0 a1 a2 a3 a4=some r→A (s a0 a1 a2 a3 a4) r
def K6 {T0 T1 T2 T3 T4 T5:Type} (A:LS→R→Prop) (s:T0→T1→T2→T3→T4→T5→LS) (k:T0→T1→T2→T3→T4→T5→Option R):Prop:=∀ ⦃a0:T0⦄ ⦃a1:T1⦄ ⦃a2:T2⦄ ⦃a3:T3⦄ ⦃a4:T4⦄ ⦃a5:T5⦄ ⦃r:R⦄,k a0 a1 a2 a3 a4 a5=some r→A (s a0 a1 a2 a3 a4 a5) r
def K7 {T0 T1 T2 T3 T4 T5 T6:Type} (A:LS→R→Prop) (s:T0→T1→T2→T3→T4→T5→T6→LS) (k:T0→T1→T2→T3→T4→T5→T6→Option R):Prop:=∀ ⦃a0:T0⦄ ⦃a1:T1⦄ ⦃a2:T2⦄ ⦃a3:T3⦄ ⦃a4:T4⦄ ⦃a5:T5⦄ ⦃a6:T6⦄ ⦃r:R⦄,k a0 a1 a2 a3 a4 a5 a6=some r→A (s a0 a1 a2 a3 a4 a5 a6) r
def K8 {T0 T1 T2 T3 T4 T5 T6 T7:Type} (A:LS→R→Prop) (s:T0→T1→T2→T3→T4→T5→T6→T7→LS) (k:T0→T1→T2→T3→T4→T5→T6→T7→Option R):Prop:=∀ ⦃a0:T0⦄ ⦃a1:T1⦄ ⦃a2:T2⦄ ⦃a3:T3⦄ ⦃a4:T4⦄ ⦃a5:T5⦄ ⦃a6:T6⦄ ⦃a7:T7⦄ ⦃r:R⦄,k a0 a1 a2 a3 a4 a5 a6 a7=some r→A (s a0 a1 a2 a3 a4 a5 a6 a7) r
def K9 {T0 T1 T2 T3 T4 T5 T6 T7 T8:Type} (A:LS→R→Prop) (s:T0→T1→T2→T3→T4→T5→T6→T7→T8→LS) (k:T0→T1→T2→T3→T4→T5→T6→T7→T8→Option R):Prop:=∀ ⦃a0:T0⦄ ⦃a1:T1⦄ ⦃a2:T2⦄ ⦃a3:T3⦄ ⦃a4:T4⦄ ⦃a5:T5⦄ ⦃a6:T6⦄ ⦃a7:T7⦄ ⦃a8:T8⦄ ⦃r:R⦄,k a0 a1 a2 a3 a4 a5 a6 a7 a8=some r→A (s a0 a1 a2 a3 a4 a5 a6 a7 a8) r
def K10 {T0 T1 T2 T3 T4 T5 T6 T7 T8 T9:Type} (A:LS→R→Prop) (s:T0→T1→T2→T3→T4→T5→T6→T7→T8→T9→LS) (k:T0→T1→T2→T3→T4→T5→T6→T7→T8→T9→Option R):Prop:=∀ ⦃a0:T0⦄ ⦃a1:T1⦄ ⦃a2:T2⦄ ⦃a3:T3⦄ ⦃a4:T4⦄ ⦃a5:T5⦄ ⦃a6:T6⦄ ⦃a7:T7⦄ ⦃a8:T8⦄ ⦃a9:T9⦄ ⦃r:R⦄,k a0 a1 a2 a3 a4 a5 a6 a7 a8 a9=some r→A (s a0 a1 a2 a3 a4 a5 a6 a7 a8 a9) r
def K11 {T0 T1 T2 T3 T4 T5 T6 T7 T8 T9 T10:Type} (A:LS→R→Prop) (s:T0→T1→T2→T3→T4→T5→T6→T7→T8→T9→T10→LS) (k:T0→T1→T2→T3→T4→T5→T6→T7→T8→T9→T10→Option R):Prop:=∀ ⦃a0:T0⦄ ⦃a1:T1⦄ ⦃a2:T2⦄ ⦃a3:T3⦄ ⦃a4:T4⦄ ⦃a5:T5⦄ ⦃a6:T6⦄ ⦃a7:T7⦄ ⦃a8:T8⦄ ⦃a9:T9⦄ ⦃a10:T10⦄ ⦃r:R⦄,k a0 a1 a2 a3 a4 a5 a6 a7 a8 a9 a10=some r→A (s a0 a1 a2 a3 a4 a5 a6 a7 a8 a9 a10) r
def K12 {T0 T1 T2 T3 T4 T5 T6 T7 T8 T9 T10 T11:Type} (A:LS→R→Prop) (s:T0→T1→T2→T3→T4→T5→T6→T7→T8→T9→T10→T11→LS) (k:T0→T1→T2→T3→T4→T5→T6→T7→T8→T9→T10→T11→Option R):Prop:=∀ ⦃a0:T0⦄ ⦃a1:T1⦄ ⦃a2:T2⦄ ⦃a3:T3⦄ ⦃a4:T4⦄ ⦃a5:T5⦄ ⦃a6:T6⦄ ⦃a7:T7⦄ ⦃a8:T8⦄ ⦃a9:T9⦄ ⦃a10:T10⦄ ⦃a11:T11⦄ ⦃r:R⦄,k a0 a1 a2 a3 a4 a5 a6 a7 a8 a9 a10 a11=some r→A (s a0 a1 a2 a3 a4 a5 a6 a7 a8 a9 a10 a11) r
def K13 {T0 T1 T2 T3 T4 T5 T6 T7 T8 T9 T10 T11 T12:Type} (A:LS→R→Prop) (s:T0→T1→T2→T3→T4→T5→T6→T7→T8→T9→T10→T11→T12→LS) (k:T0→T1→T2→T3→T4→T5→T6→T7→T8→T9→T10→T11→T12→Option R):Prop:=∀ ⦃a0:T0⦄ ⦃a1:T1⦄ ⦃a2:T2⦄ ⦃a3:T3⦄ ⦃a4:T4⦄ ⦃a5:T5⦄ ⦃a6:T6⦄ ⦃a7:T7⦄ ⦃a8:T8⦄ ⦃a9:T9⦄ ⦃a10:T10⦄ ⦃a11:T11⦄ ⦃a12:T12⦄ ⦃r:R⦄,k a0 a1 a2 a3 a4 a5 a6 a7 a8 a9 a10 a11 a12=some r→A (s a0 a1 a2 a3 a4 a5 a6 a7 a8 a9 a10 a11 a12) r
def K14 {T0 T1 T2 T3 T4 T5 T6 T7 T8 T9 T10 T11 T12 T13:Type} (A:LS→R→Prop) (s:T0→T1→T2→T3→T4→T5→T6→T7→T8→T9→T10→T11→T12→T13→LS) (k:T0→T1→T2→T3→T4→T5→T6→T7→T8→T9→T10→T11→T12→T13→Option R):Prop:=∀ ⦃a0:T0⦄ ⦃a1:T1⦄ ⦃a2:T2⦄ ⦃a3:T3⦄ ⦃a4:T4⦄ ⦃a5:T5⦄ ⦃a6:T6⦄ ⦃a7:T7⦄ ⦃a8:T8⦄ ⦃a9:T9⦄ ⦃a10:T10⦄ ⦃a11:T11⦄ ⦃a12:T12⦄ ⦃a13:T13⦄ ⦃r:R⦄,k a0 a1 a2 a3 a4 a5 a6 a7 a8 a9 a10 a11 a12 a13=some r→A (s a0 a1 a2 a3 a4 a5 a6 a7 a8 a9 a10 a11 a12 a13) r
def K16 {T0 T1 T2 T3 T4 T5 T6 T7 T8 T9 T10 T11 T12 T13 T14 T15:Type} (A:LS→R→Prop) (s:T0→T1→T2→T3→T4→T5→T6→T7→T8→T9→T10→T11→T12→T13→T14→T15→LS) (k:T0→T1→T2→T3→T4→T5→T6→T7→T8→T9→T10→T11→T12→T13→T14→T15→Option R):Prop:=∀ ⦃a0:T0⦄ ⦃a1:T1⦄ ⦃a2:T2⦄ ⦃a3:T3⦄ ⦃a4:T4⦄ ⦃a5:T5⦄ ⦃a6:T6⦄ ⦃a7:T7⦄ ⦃a8:T8⦄ ⦃a9:T9⦄ ⦃a10:T10⦄ ⦃a11:T11⦄ ⦃a12:T12⦄ ⦃a13:T13⦄ ⦃a14:T14⦄ ⦃a15:T15⦄ ⦃r:R⦄,k a0 a1 a2 a3 a4 a5 a6 a7 a8 a9 a10 a11 a12 a13 a14 a15=some r→A (s a0 a1 a2 a3 a4 a5 a6 a7 a8 a9 a10 a11 a12 a13 a14 a15) r
def K19 {T0 T1 T2 T3 T4 T5 T6 T7 T8 T9 T10 T11 T12 T13 T14 T15 T16 T17 T18:Type} (A:LS→R→Prop) (s:T0→T1→T2→T3→T4→T5→T6→T7→T8→T9→T10→T11→T12→T13→T14→T15→T16→T17→T18→LS) (k:T0→T1→T2→T3→T4→T5→T6→T7→T8→T9→T10→T11→T12→T13→T14→T15→T16→T17→T18→Option R):Prop:=∀ ⦃a0:T0⦄ ⦃a1:T1⦄ ⦃a2:T2⦄ ⦃a3:T3⦄ ⦃a4:T4⦄ ⦃a5:T5⦄ ⦃a6:T6⦄ ⦃a7:T7⦄ ⦃a8:T8⦄ ⦃a9:T9⦄ ⦃a10:T10⦄ ⦃a11:T11⦄ ⦃a12:T12⦄ ⦃a13:T13⦄ ⦃a14:T14⦄ ⦃a15:T15⦄ ⦃a16:T16⦄ ⦃a17:T17⦄ ⦃a18:T18⦄ ⦃r:R⦄,k a0 a1 a2 a3 a4 a5 a6 a7 a8 a9 a10 a11 a12 a13 a14 a15 a16 a17 a18=some r→A (s a0 a1 a2 a3 a4 a5 a6 a7 a8 a9 a10 a11 a12 a13 a14 a15 a16 a17 a18) r
end
end Go.Sim
end
